/- The walk of JournalBytes. -/
import Derived.Test.YtfkbdiheccnohaaJL2
namespace Go.Proofs.Ytfkbdiheccnohaa
open Go Go.RowKit Go.BigFrame

theorem rowI64j {w : World} {a : Option Addr} {len cap : Nat} {zs : List Int} (h : IsRow .i64 w a len cap zs) : ∀ z ∈ zs.take len, -9223372036854775808 ≤ z ∧ z ≤ 9223372036854775807 := by
  intro z hz
  rcases h with ⟨rfl, rfl, rfl, rfl⟩ | ⟨x, rfl, hl, hm, hzl, hc, hw⟩
  · simp at hz
  · exact wf_i64 (hw z (List.mem_of_mem_take hz))
theorem rowU8j {w : World} {a : Option Addr} {len cap : Nat} {zs : List Int} (h : IsRow .u8 w a len cap zs) : ∀ z ∈ zs.take len, 0 ≤ z ∧ z ≤ 255 := by
  intro z hz
  rcases h with ⟨rfl, rfl, rfl, rfl⟩ | ⟨x, rfl, hl, hm, hzl, hc, hw⟩
  · simp at hz
  · exact wf_u8 (hw z (List.mem_of_mem_take hz))
theorem frameZ_le (x : List Int) : (frameZ x).length ≤ x.length + 10 := by
  have h := frameZ_len x
  have h2 := varZ_len x.length
  split at h2 <;> omega
theorem bytesL_small (m : Nat) : ∀ (rs : List (List Int)), (∀ x ∈ rs, x.length ≤ m) → (bytesL rs).length ≤ rs.length * (m + 10)
  | [], _ => by simp [bytesL]
  | x :: rs, h => by
    have h1 := bytesL_small m rs (fun y hy => h y (List.mem_cons_of_mem _ hy))
    have h2 := frameZ_le x
    have h3 := h x List.mem_cons_self
    rw [bytesL_cons, List.length_append, List.length_cons, Nat.succ_mul]
    omega
theorem recsOf_ok4 (zs : List Int) : Ok4 (recsOf zs) := fun x hx => by have := recsOf_small zs x hx; omega
theorem recsOf_bytes (zs : List Int) : (bytesL (recsOf zs)).length ≤ 1500 := by
  have h := bytesL_small 140 (recsOf zs) (recsOf_small zs)
  have h2 := recsOf_len zs
  have : (recsOf zs).length * (140 + 10) ≤ 10 * 150 := Nat.mul_le_mul h2 (by omega)
  omega
theorem openZ_all (rs : List (List Int)) (h : Ok4 rs) (hb : OkRs rs) : openZ (bytesL rs).length (bytesL rs) [] = (rs, 0) := by
  have h1 := openZ_bytes rs (bytesL rs).length [] [] h
  rw [List.append_nil, openZ_nil, List.nil_append] at h1
  rw [← h1]
  exact openZ_fuel _ _ _ _ (bytesL_bys hb) (Nat.le_refl _) (by omega)
set_option maxRecDepth 100000 in
set_option maxHeartbeats 4000000 in
theorem jbytes_walk (a0 : Option Addr) (len0 cap0 : Nat) (z0 : List Int) (w : World) (w0 : IsRow .i64 w a0 len0 cap0 z0) :
    Calls Try.prog 3 #[.slice a0 len0 cap0] w fun e w' => e = .returned (.bool true) ∧ Q w w' := by
  have s0 := Lib.hid (Sl.of_row w0)
  have r0 := Lib.hid (rowI64j w0)
  clear w0
  go_enter Try.func3, Try.ntmps3
  go_wp2_with (fail)
  refine (rRecords34_any a0 len0 cap0 _ w s0.out r0.out).mono ?_
  rintro e w1 ⟨b1, cp1, vs1, rfl, hO1, hq1⟩
  have HOK := Lib.hid (recsOf_ok (z0.take len0))
  have HO4 := Lib.hid (recsOf_ok4 (z0.take len0))
  have hrl := recsOf_len (z0.take len0)
  have hbl := recsOf_bytes (z0.take len0)
  generalize recsOf (z0.take len0) = rs at *
  have HR1 := Lib.hid hO1
  have HQ1 := Lib.hid hq1
  clear hO1 hq1
  go_wp2_with (fail)
  refine (filled34_any _ b1 rs.length cp1 rs w1 HR1.out.slr HOK.out HO4.out (by omega)).mono ?_
  rintro e w2 ⟨hq2, LB, col, rfl, hL, _⟩
  have HR2 := Lib.hid (HR1.out.q hq2)
  have HQ2 := Lib.hid (HQ1.out.trans hq2)
  have HL2 := Lib.hid hL
  clear hq2 hL
  go_wp2_with (fail)
  refine (jBytes_any LB col rs w2 HL2.out (by omega)).mono ?_
  rintro e w3 ⟨b3, cp3, rfl, hown3, hq3⟩
  have HR3 := Lib.hid (HR2.out.q hq3)
  have HQ3 := Lib.hid (HQ2.out.trans hq3)
  have HL3 := Lib.hid (HL2.out.q hq3)
  have HS3 := Lib.hid (Sl.of_own hown3)
  have HP3 := Lib.hid (own_pos hown3)
  clear hown3 hq3
  go_wp2_with (fail)
  refine (jOpen_any b3 _ cp3 (bytesL rs) w3 HS3.out (bytesL_bys HOK.out) (by omega) (fun y hy => (HP3.out y hy).2.1)).mono ?_
  rw [openZ_all rs HO4.out HOK.out]
  rintro e w4 ⟨hq4, ⟨_, L4, col4, rfl, hL4, _⟩ | ⟨hx, _⟩⟩
  case inr => exact absurd rfl hx
  have HR4 := Lib.hid (HR3.out.q hq4)
  have HQ4 := Lib.hid (HQ3.out.trans hq4)
  have HL4 := Lib.hid (HL3.out.q hq4)
  have HS4 := Lib.hid (HS3.out.q hq4)
  have HM4 := Lib.hid hL4
  clear hq4 hL4
  go_upto_region 9 with (fail)
  refine wp_region_mix [(0, true), (1, true), (2, true), (3, false), (4, true), (5, true), (6, true), (7, true), (9, true), (8, false), (10, false), (11, true), (12, true), (13, true), (15, true), (14, false), (16, false), (17, true), (18, true), (19, true), (22, true), (23, true), (20, false), (21, true), (24, true), (25, true), (26, true), (27, false), (28, true), (29, true)] (by kernel_rfl) (by kernel_rfl) (fun _ _ _ _ _ h => h) ?_
  have HR5 := Lib.hid (HR4.out.q (Q.drew (Q.refl w4)))
  have HQ5 := Lib.hid (HQ4.out.trans (Q.drew (Q.refl w4)))
  have HL5 := Lib.hid (HL4.out.q (Q.drew (Q.refl w4)))
  have HS5 := Lib.hid (HS4.out.q (Q.drew (Q.refl w4)))
  have HM5 := Lib.hid (HM4.out.q (Q.drew (Q.refl w4)))
  generalize w4.drew = W at *
  have t0 := toStr_soft HS5.out
  repeat (refine mix_val rfl rfl ?_; go_big_quiet_step (fail); refine wpQuiet_nil ?_)
  clear t0
  refine mix_run rfl rfl ?_
  intro K hK
  go_wp2_with (fail)
  refine (rBytes34_any _ b1 rs.length cp1 rs W HR5.out.slr HOK.out (by omega) (by omega)).mono ?_
  rintro e w6 ⟨b6, cp6, rfl, hown6, hq6⟩
  refine hK _ _ hq6 ?_
  clear hK K
  have HQ6 := Lib.hid (HQ5.out.trans hq6)
  have HR6 := Lib.hid (HR5.out.q hq6)
  have HL6 := Lib.hid (HL5.out.q hq6)
  have HM6 := Lib.hid (HM5.out.q hq6)
  have HS6 := Lib.hid (HS5.out.q hq6)
  have t1 := toStr_soft (Sl.of_own hown6)
  clear hown6 hq6
  repeat (refine mix_val rfl rfl ?_; go_big_quiet_step (fail); refine wpQuiet_nil ?_)
  clear t1
  refine mix_run rfl rfl ?_
  intro K hK
  go_wp2_with (fail)
  refine (jRecords_any LB col rs w6 HL6.out).mono ?_
  rintro e w7 ⟨b7, cp7, vs7, rfl, hO7, hq7⟩
  refine hK _ _ hq7 ?_
  clear hK K
  have HQ7 := Lib.hid (HQ6.out.trans hq7)
  have HR7 := Lib.hid (HR6.out.q hq7)
  have HM7 := Lib.hid (HM6.out.q hq7)
  have HS7 := Lib.hid (HS6.out.q hq7)
  have HO7 := Lib.hid hO7
  clear hO7 hq7
  refine mix_run rfl rfl ?_
  intro K hK
  go_wp2_with (fail)
  refine (rSame34_any _ _ b7 b1 rs.length rs.length cp7 cp1 rs rs w7 HO7.out.slr HR7.out.slr HOK.out HOK.out (by omega) (by omega)).mono ?_
  rintro e w8 ⟨rfl, hq8⟩
  refine hK _ _ hq8 ?_
  clear hK K
  have HQ8 := Lib.hid (HQ7.out.trans hq8)
  have HR8 := Lib.hid (HR7.out.q hq8)
  have HM8 := Lib.hid (HM7.out.q hq8)
  have HS8 := Lib.hid (HS7.out.q hq8)
  clear hq8
  rw [show decide (rs = rs) = true from decide_eq_true rfl]
  repeat (refine mix_val rfl rfl ?_; go_big_quiet_step (fail); refine wpQuiet_nil ?_)
  refine mix_run rfl rfl ?_
  intro K hK
  go_wp2_with (fail)
  refine (jRecords_any L4 col4 rs w8 HM8.out).mono ?_
  rintro e w9 ⟨b9, cp9, vs9, rfl, hO9, hq9⟩
  refine hK _ _ hq9 ?_
  clear hK K
  have HQ9 := Lib.hid (HQ8.out.trans hq9)
  have HR9 := Lib.hid (HR8.out.q hq9)
  have HM9 := Lib.hid (HM8.out.q hq9)
  have HS9 := Lib.hid (HS8.out.q hq9)
  have HO9 := Lib.hid hO9
  clear hO9 hq9
  refine mix_run rfl rfl ?_
  intro K hK
  go_wp2_with (fail)
  refine (rSame34_any _ _ b9 b1 rs.length rs.length cp9 cp1 rs rs w9 HO9.out.slr HR9.out.slr HOK.out HOK.out (by omega) (by omega)).mono ?_
  rintro e w10 ⟨rfl, hq10⟩
  refine hK _ _ hq10 ?_
  clear hK K
  have HQ10 := Lib.hid (HQ9.out.trans hq10)
  have HM10 := Lib.hid (HM9.out.q hq10)
  have HS10 := Lib.hid (HS9.out.q hq10)
  clear hq10
  rw [show decide (rs = rs) = true from decide_eq_true rfl]
  have t2 := toStr_soft HS10.out
  repeat (refine mix_val rfl rfl ?_; go_big_quiet_step (fail); refine wpQuiet_nil ?_)
  clear t2
  refine mix_run rfl rfl ?_
  intro K hK
  go_wp2_with (fail)
  refine (jBytes_any L4 col4 rs w10 HM10.out (by omega)).mono ?_
  rintro e w11 ⟨b11, cp11, rfl, hown11, hq11⟩
  refine hK _ _ hq11 ?_
  clear hK K
  have HQ11 := Lib.hid (HQ10.out.trans hq11)
  have t3 := toStr_soft (Sl.of_own hown11)
  clear hown11 hq11
  repeat (refine mix_val rfl rfl ?_; go_big_quiet_step (fail); refine wpQuiet_nil ?_)
  clear t3
  refine mix_run rfl rfl ?_
  intro K hK
  go_wp2_with (fail)
  refine (lives34_any w11).mono ?_
  rintro e w12 ⟨rfl, hq12⟩
  refine hK _ _ hq12 ?_
  clear hK K
  have HQ12 := Lib.hid (HQ11.out.trans hq12)
  clear hq12
  repeat (refine mix_val rfl rfl ?_; go_big_quiet_step (fail); refine wpQuiet_nil ?_)
  refine mix_end ?_
  go_wp2
  go_ret
  exact ⟨rfl, HQ12.out⟩
end Go.Proofs.Ytfkbdiheccnohaa
