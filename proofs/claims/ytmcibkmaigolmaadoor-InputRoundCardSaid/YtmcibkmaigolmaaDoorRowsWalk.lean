/- The walk of InputRows. -/
import Derived.Test.YtmcibkmaigolmaaDoorRowsD
import Derived.Test.YtmcibkmaigolmaaDoorEqual
import Derived.Test.YtmcibkmaigolmaaDoorBytes
namespace Go.Proofs.YtmcibkmaigolmaaDoor
open Go Go.RowKit Go.BigFrame

theorem parseL_code {zs : List Int} {p : Int} (hz : ∀ z ∈ zs, 0 ≤ z ∧ z ≤ 255) : ∀ c ∈ parseL zs p, 0 ≤ c ∧ c < 36 := by
  intro c hc
  unfold parseL at hc
  split at hc
  · rename_i h
    refine ⟨(hz c hc).1, ?_⟩
    unfold parseE at h
    repeat' (split at h)
    all_goals first
      | (rename_i h3; have := h3 c hc; omega)
      | (exfalso; revert h; decide)
  · simp at hc
theorem eqB_refl (xs : List Int) : eqB xs xs = true := by simp [eqB]
theorem row_u8 {w : World} {a : Option Addr} {len cap : Nat} {zs : List Int} (h : IsRow .u8 w a len cap zs) : ∀ z ∈ zs.take len, 0 ≤ z ∧ z ≤ 255 := by
  intro z hz
  rcases h with ⟨rfl, rfl, rfl, rfl⟩ | ⟨x, rfl, hl, hm, hzl, hc, hw⟩
  · simp at hz
  · exact wf_u8 (hw z (List.mem_of_mem_take hz))
theorem row_i64 {w : World} {a : Option Addr} {len cap : Nat} {zs : List Int} (h : IsRow .i64 w a len cap zs) : ∀ z ∈ zs.take len, -9223372036854775808 ≤ z ∧ z ≤ 9223372036854775807 := by
  intro z hz
  rcases h with ⟨rfl, rfl, rfl, rfl⟩ | ⟨x, rfl, hl, hm, hzl, hc, hw⟩
  · simp at hz
  · exact wf_i64 (hw z (List.mem_of_mem_take hz))
theorem Box.ints (w : World) (vs : List Value) (t : TypeId) (B : Nat) (hB : w.heap.size = B) : ∀ k v, vs[k]? = some v → (w.alloc (.cells vs.toArray t)).cell? ⟨B, k, none⟩ = some v := by
  subst hB
  intro k v h
  exact ((Box.new w vs t).2 k v h).1

theorem rows_walk (a0 : Option Addr) (len0 cap0 : Nat) (z0 : List Int) (p : Int) (a2 : Option Addr) (len2 cap2 : Nat) (z2 : List Int) (w : World) (hD : Dirs w)
    (w0 : IsRow .u8 w a0 len0 cap0 z0) (wp : (Lit.int .i64 p).wf = true) (w2 : IsRow .i64 w a2 len2 cap2 z2) :
    Calls Tryd.prog 7 #[.slice a0 len0 cap0, .int .i64 p, .slice a2 len2 cap2] w fun e w' => e = .returned (.bool true) ∧ Q w w' := by
  have s0 := Sl.of_row w0
  have s2 := Sl.of_row w2
  have r0 := row_u8 w0
  have r2 := row_i64 w2
  have gp := wf_i64 wp
  clear w0 w2 wp
  have k0 := aroundZ_lo p 10 (by omega)
  have k1 := aroundZ_hi p 10 (by omega)
  generalize z0.take len0 = zb at *
  generalize z2.take len2 = zl at *
  have S0 := Lib.hid s0
  have S2 := Lib.hid s2
  have R0 := Lib.hid r0
  have R2 := Lib.hid r2
  have HD := Lib.hid hD
  have GP := Lib.hid gp
  clear s0 s2 r0 r2 hD
  go_enter Tryd.func7, Tryd.ntmps7
  go_wp2_with (fail)
  refine (few_any a0 len0 cap0 10 zb w S0.out (by omega)).mono ?_
  rintro e w1 ⟨a1, cap1, rfl, hown1, hq1⟩
  have H1 := Lib.hid hown1
  have Q1 := Lib.hid hq1
  have hm10 : min len0 10 ≤ 10 := Nat.min_le_right _ _
  have HM := Lib.hid hm10
  clear hown1 hq1 hm10
  generalize min len0 10 = m at *
  have hm10 := HM.out
  go_wp2_with (go_at_call 17; refine (around_any _ _ _ (by omega) (by omega)).mono ?_; rintro e w' ⟨rfl, rfl⟩)
  refine (inputs_any a2 len2 cap2 8 zl _ (S2.out.q Q1.out) R2.out (by omega)).mono ?_
  rintro e w2 ⟨a3, cap3, rfl, hown2, hq2⟩
  have H2 := Lib.hid hown2
  have Q2 := Lib.hid hq2
  have hn8 : min len2 8 ≤ 8 := Nat.min_le_right _ _
  have HN := Lib.hid hn8
  clear hown2 hq2 hn8
  generalize min len2 8 = n at *
  have hn8 := HN.out
  go_wp2_with (fail)
  have QW := Lib.hid ((Q1.out.trans Q2.out).alloc (.cells #[.int .i64 p, .int .i64 (aroundZ p 10), .int .i64 m] 3))
  have SF := Lib.hid (((Sl.of_own H1.out).q Q2.out).q ((Q.refl _).alloc (.cells #[.int .i64 p, .int .i64 (aroundZ p 10), .int .i64 m] 3)))
  have SI := Lib.hid ((Sl.of_own H2.out).q ((Q.refl _).alloc (.cells #[.int .i64 p, .int .i64 (aroundZ p 10), .int .i64 m] 3)))
  have BX := Lib.hid (Box.new w2 [.int .i64 p, .int .i64 (aroundZ p 10), .int .i64 m] 3)
  generalize w2.heap.size = B at *
  generalize hW : w2.alloc (.cells #[.int .i64 p, .int .i64 (aroundZ p 10), .int .i64 m] 3) = W at *
  clear hW H1 H2 Q1 Q2
  have hzf : ∀ z ∈ zb.take 10, 0 ≤ z ∧ z ≤ 255 := fun z hz => R0.out z (List.mem_of_mem_take hz)
  have RF := Lib.hid hzf
  clear hzf
  go_loopw [11] (fun i wr => ∃ k : Nat, k ≤ 3 ∧ i = .int .i64 k ∧ Q W wr) (fun i _ => 3 - (intOf i).toNat)
  case atStart => exact ⟨0, by omega, rfl, Q.refl _⟩
  case round =>
    obtain ⟨k, hk, rfl, hq⟩ := hrel
    by_cases h3 : k < 3
    · obtain ⟨x, hx⟩ : ∃ x, ([.int .i64 p, .int .i64 (aroundZ p 10), .int .i64 m] : List Value)[k]? = some (.int .i64 x) := by
        match k, h3 with
        | 0, _ => exact ⟨_, rfl⟩
        | 1, _ => exact ⟨_, rfl⟩
        | 2, _ => exact ⟨_, rfl⟩
      have hc : wr.cell? ⟨B, k, none⟩ = some (.int .i64 x) := ((BX.out.q hq).2 k _ hx).1
      have HQ := Lib.hid hq
      clear hx hq
      go_wp2_with (fail)
      refine (iParse_any a1 m cap1 (zb.take 10) x wr (HD.out.q (QW.out.trans HQ.out)) (SF.out.q HQ.out) RF.out (by omega)).mono ?_
      rintro e w3 ⟨a4, cap4, rfl, hown3, hq3⟩
      have HQ3 := Lib.hid (HQ.out.trans hq3)
      have H3 := Lib.hid hown3
      have hc3 : w3.cell? ⟨B, k, none⟩ = some (.int .i64 x) := (hq3.cells.1 B k (Nat.lt_of_lt_of_le BX.out.1 HQ.out.size)).trans hc
      clear hown3 hq3 hc
      go_wp2_with (fail)
      refine (rParse_any a1 m cap1 (zb.take 10) x w3 (SF.out.q HQ3.out) RF.out (by omega)).mono ?_
      rintro e w4 ⟨a5, cap5, rfl, hown4, hq4⟩
      have HQ4 := Lib.hid (HQ3.out.trans hq4)
      have hq4' := hq4
      have H4 := Lib.hid hown4
      have H3' := Lib.hid (own_q H3.out hq4)
      clear hown4 hq4 hq4' hc3
      go_wp2_with (fail)
      refine (equal_any a4 a5 _ _ cap4 cap5 (parseL (zb.take 10) x) (parseL (zb.take 10) x) w4 (Sl.of_own H3'.out) (Sl.of_own H4.out) (parseL_code RF.out) (parseL_code RF.out)).mono ?_
      rintro e w5 ⟨rfl, hq5⟩
      have HQ5 := Lib.hid (HQ4.out.trans hq5)
      clear hq5
      have heq := eqB_refl (parseL (zb.take 10) x)
      go_wp2
      go_roundw
      case rel => exact ⟨k + 1, by omega, by go_num, HQ5.out⟩
      case measure => simp [intOf]; omega
    · go_wp2_with (fail)
      have HQ := Lib.hid (QW.out.trans hq.drew)
      have SI2 := Lib.hid (SI.out.q hq.drew)
      refine wp_region_mix [(0, true), (3, true), (1, false), (2, true), (4, false), (5, true), (6, true), (7, true), (8, false), (9, true), (10, true)] (by kernel_rfl) (by kernel_rfl) (fun _ _ _ _ _ h => h) ?_
      clear hq
      generalize wr.drew = W1 at *
      repeat (refine mix_val rfl rfl ?_; go_big_quiet_step (fail); refine wpQuiet_nil ?_)
      refine mix_run rfl rfl ?_
      intro K hK
      go_wp2_with (fail)
      refine (iRow_any a3 n cap3 _ W1 SI2.out (codesOf_code _) (by omega)).mono ?_
      rintro e w3 ⟨b1, c1, rfl, hown3, hq3⟩
      refine hK _ _ hq3 ?_
      clear hK K
      have T1 := toStr_soft (Sl.of_own hown3)
      have SI3 := Lib.hid (SI2.out.q hq3)
      have HQ3 := Lib.hid (HQ.out.trans hq3)
      clear hown3 hq3
      repeat (refine mix_val rfl rfl ?_; go_big_quiet_step (fail); refine wpQuiet_nil ?_)
      refine mix_run rfl rfl ?_
      intro K hK
      go_wp2_with (fail)
      refine (rRow_any a3 n cap3 _ w3 SI3.out (codesOf_code _) (by omega)).mono ?_
      rintro e w4 ⟨b2, c2, rfl, hown4, hq4⟩
      refine hK _ _ hq4 ?_
      clear hK K
      have T2 := toStr_soft (Sl.of_own hown4)
      have HQ4 := Lib.hid (HQ3.out.trans hq4)
      clear hown4 hq4 T1
      repeat (refine mix_val rfl rfl ?_; go_big_quiet_step (fail); refine wpQuiet_nil ?_)
      refine mix_run rfl rfl ?_
      intro K hK
      go_wp2_with (fail)
      refine (lives_any w4).mono ?_
      rintro e w5 ⟨rfl, hq5⟩
      refine hK _ _ hq5 ?_
      clear hK K
      have HQ5 := Lib.hid (HQ4.out.trans hq5)
      clear hq5 T2
      repeat (refine mix_val rfl rfl ?_; go_big_quiet_step (fail); refine wpQuiet_nil ?_)
      refine mix_end ?_
      go_wp2
      go_ret
      exact ⟨rfl, HQ5.out⟩
end Go.Proofs.YtmcibkmaigolmaaDoor
