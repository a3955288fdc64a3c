/- The walk of JournalSums. -/
import Derived.Test.YtfkbdiheccnohaaJWalkB
namespace Go.Proofs.Ytfkbdiheccnohaa
open Go Go.RowKit Go.BigFrame

theorem slr_one {w : World} {b : Option Addr} {n cb : Nat} {x : List Int} (hs : Sl w 1 b n cb (bV x)) (t : TypeId) : SlR (w.alloc (.cells #[.slice b n cb] t)) (fun _ => True) (some ⟨w.heap.size, 0, none⟩) 1 1 [x] := by
  have hl : n = x.length := by have := hs.1; rw [bV_len] at this; omega
  refine ⟨rfl, [.slice b n cb], slAlloc w [.slice b n cb] t 1 rfl, fun _ _ => trivial, rfl, fun i y hy => ?_⟩
  cases i with
  | zero =>
    cases hy
    subst hl
    exact ⟨b, cb, rfl, hs.q ((Q.refl w).alloc _), fun _ _ => trivial⟩
  | succ i => simp at hy
theorem bytesL_one (x : List Int) : bytesL [x] = frameZ x := by simp [bytesL]
theorem frameZ_short {x : List Int} (h : x.length ≤ 127) : frameZ x = (x.length : Int) :: (leUp (sumB x) 8 ++ x) := by
  unfold frameZ varZ
  rw [if_pos h]
  rfl
theorem frameZ_shortLen {x : List Int} (h : x.length ≤ 127) : (frameZ x).length = 9 + x.length := by rw [frameZ_short h, List.length_cons, List.length_append, leUp_len]; omega
theorem frame_at {x : List Int} (h : x.length ≤ 127) (i : Nat) (h1 : i < 8) : (bV (frameZ x))[i + 1]? = some (.int .u8 (sumB x / 256 ^ i % 256)) := by
  rw [frameZ_short h]
  show (bV (leUp (sumB x) 8 ++ x))[i]? = _
  unfold bV
  rw [List.getElem?_map, List.getElem?_append_left (by rw [leUp_len]; omega)]
  unfold leUp
  rw [List.getElem?_map, List.getElem?_range h1]
  rfl
theorem frame_0 {x : List Int} (h : x.length ≤ 127) : (bV (frameZ x))[0]? = some (.int .u8 x.length) := by rw [frameZ_short h]; rfl
theorem frame_9 {x : List Int} (h : x.length ≤ 127) : (frameZ x).drop 9 = x := by
  rw [frameZ_short h, List.drop_succ_cons, List.drop_append_of_le_length (by rw [leUp_len]; omega), List.drop_of_length_le (by rw [leUp_len]; omega), List.nil_append]
set_option maxRecDepth 100000 in
set_option maxHeartbeats 4000000 in
theorem jsums_walk (a0 : Option Addr) (len0 cap0 : Nat) (z0 : List Int) (w : World) (w0 : IsRow .u8 w a0 len0 cap0 z0) :
    Calls Try.prog 6 #[.slice a0 len0 cap0] w fun e w' => e = .returned (.bool true) ∧ Q w w' := by
  have s0 := Lib.hid (Sl.of_row w0)
  have r0 := Lib.hid (rowU8j w0)
  clear w0
  go_enter Try.func6, Try.ntmps6
  go_wp2_with (fail)
  refine (few_any a0 len0 cap0 30 (z0.take len0) w s0.out (by omega)).mono ?_
  rintro e w1 ⟨b1, cp1, rfl, hown1, hq1⟩
  have HS1 := Lib.hid (Sl.of_own hown1)
  have HQ1 := Lib.hid hq1
  have hfl : ((z0.take len0).take 30).length = min len0 30 := by have := HS1.out.1; simp at this; simp; omega
  have HF := Lib.hid (show Bys ((z0.take len0).take 30) from fun b hb => r0.out b (List.mem_of_mem_take hb))
  generalize (z0.take len0).take 30 = fs at *
  have hn : min len0 30 ≤ 30 := by omega
  generalize min len0 30 = n at *
  have HLN := Lib.hid hfl
  clear hown1 hq1 hfl
  go_wp2_with (fail)
  have HR2 := Lib.hid (slr_one HS1.out 27)
  have HQ2 := Lib.hid (HQ1.out.alloc (.cells #[.slice b1 n cp1] 27))
  have HS2 := Lib.hid (HS1.out.q ((Q.refl w1).alloc (.cells #[.slice b1 n cp1] 27)))
  have HOK := Lib.hid (show OkRs [fs] from fun x hx => by rw [List.mem_singleton.1 hx]; exact ⟨by rw [HLN.out]; omega, HF.out⟩)
  have HO4 := Lib.hid (show Ok4 [fs] from fun x hx => by rw [List.mem_singleton.1 hx, HLN.out]; omega)
  refine (filled34_any _ _ 1 1 [fs] _ HR2.out HOK.out HO4.out (by omega)).mono ?_
  rintro e w3 ⟨hq3, LB, col, rfl, hL, _⟩
  have HQ3 := Lib.hid (HQ2.out.trans hq3)
  have HS3 := Lib.hid (HS2.out.q hq3)
  have HL3 := Lib.hid hL
  clear hq3 hL
  go_wp2_with (fail)
  refine (jBytes_any LB col [fs] w3 HL3.out (by rw [bytesL_one, frameZ_shortLen (by rw [HLN.out]; omega), HLN.out]; omega)).mono ?_
  rintro e w4 ⟨b4, cp4, rfl, hown4, hq4⟩
  have HQ4 := Lib.hid (HQ3.out.trans hq4)
  have HS4 := Lib.hid (HS3.out.q hq4)
  have HB4 := Lib.hid (Sl.of_own hown4)
  clear hown4 hq4
  have hl9 : (bytesL [fs]).length = 9 + n := by rw [bytesL_one, frameZ_shortLen (by rw [HLN.out]; omega), HLN.out]
  rw [hl9] at HB4 ⊢
  rw [bytesL_one] at HB4
  clear hl9
  have hcap := HB4.out.2.1
  have hmax := HB4.out.2.2.1
  unfold maxLen at hmax
  obtain ⟨g, o, rfl, hg, hcs⟩ := HB4.out.pos (by omega)
  have HCS := Lib.hid hcs
  clear hcs
  have HU := Lib.hid (sumB_u64 fs)
  have hnb : (9 + (n : Int) != 9 + (n : Int)) = false := by simp
  go_wp2_with (fail)
  have HSB := Lib.hid (show ∃ S, S = sumB fs from ⟨_, rfl⟩)
  obtain ⟨S, hS⟩ := HSB.out
  have HSS := Lib.hid hS
  have HUS := Lib.hid (show U64 S by rw [hS]; exact HU.out)
  have HAT := Lib.hid (show ∀ i, i < 8 → w4.cell? ⟨g, o + (i + 1), none⟩ = some (.int .u8 (S / 256 ^ i % 256)) from fun i hi => by
    rw [hS]
    exact HCS.out (i + 1) _ (frame_at (by rw [HLN.out]; omega) i hi))
  clear hS
  have h80 : S / 256 ^ 8 = 0 := by
    have h := HUS.out
    exact Int.ediv_eq_zero_of_lt h.1 h.2
  go_loopw [6, 7] (fun s c wr => ∃ j : Nat, j ≤ 8 ∧ c = .int .i64 j ∧ s = .int .u64 (S / 256 ^ j) ∧ wr = w4) (fun _ c _ => (intOf c).toNat)
  case atStart => exact ⟨8, by omega, rfl, by rw [h80], rfl⟩
  case round =>
    clear h80
    obtain ⟨j, hj, rfl, rfl, rfl⟩ := hrel
    rcases Nat.eq_zero_or_pos j with rfl | hp
    · have HSE := Lib.hid (show S / 256 ^ 0 = S by simp)
      rw [HSE.out]
      go_upto_region 13 with (fail)
      refine wp_region_mix [(0, true), (1, true), (2, true), (3, true), (4, true), (5, true), (6, true), (7, true), (8, true), (9, true), (10, false), (11, true), (12, true), (13, true), (14, true), (15, true), (16, true), (17, true), (18, true), (19, true), (20, true), (21, true), (22, false), (23, true), (24, true)] (by kernel_rfl) (by kernel_rfl) (fun _ _ _ _ _ h => h) ?_
      have c0 := HCS.out 0 _ (frame_0 (by rw [HLN.out]; omega))
      rw [Nat.add_zero, HLN.out] at c0
      have c0s := cell_soft34 c0
      have HQ5 := Lib.hid (HQ4.out.drew)
      have HS5 := Lib.hid (HS4.out.q (Q.drew (Q.refl wr)))
      have HB5 := Lib.hid (HB4.out.q (Q.drew (Q.refl wr)))
      clear c0
      generalize wr.drew = W at *
      repeat (refine mix_val rfl rfl ?_; go_big_quiet_step (fail); refine wpQuiet_nil ?_)
      clear c0s
      refine mix_run rfl rfl ?_
      intro K hK
      go_wp2_with (fail)
      refine (hbytes_any recS b1 n cp1 fs W (by decide) (by omega) HS5.out HF.out).mono ?_
      rintro e w6 ⟨rfl, hq6⟩
      refine hK _ _ hq6 ?_
      clear hK K
      have HQ6 := Lib.hid (HQ5.out.trans hq6)
      have HSE2 := Lib.hid (show bytesZ (strZ recS) fs = S from HSS.out.symm)
      rw [HSE2.out]
      have t0 := toStr_soft (HS5.out.q hq6)
      have HB6 := Lib.hid (HB5.out.q hq6)
      clear hq6
      by_cases hc9 : cp4 = 9
      · have h0 : n = 0 := by omega
        subst h0
        subst hc9
        have hfs : fs = [] := List.eq_nil_of_length_eq_zero HLN.out
        have t1 := toStr_soft (show Sl w6 1 (some ⟨g, o, none⟩) 0 0 (([] : List Int).map (Value.int .u8)) from ⟨rfl, by omega, by unfold maxLen; decide, (fun e => by cases e), .inl rfl⟩)
        rw [hfs] at t0
        clear hfs
        repeat (refine mix_val rfl rfl ?_; go_big_quiet_step (fail); refine wpQuiet_nil ?_)
        refine mix_run rfl rfl ?_
        intro K hK
        go_wp2_with (fail)
        refine (lives34_any w6).mono ?_
        rintro e w7 ⟨rfl, hq7⟩
        refine hK _ _ hq7 ?_
        clear hK K
        have HQ7 := Lib.hid (HQ6.out.trans hq7)
        clear hq7 t0 t1
        repeat (refine mix_val rfl rfl ?_; go_big_quiet_step (fail); refine wpQuiet_nil ?_)
        refine mix_end ?_
        go_wp2
        go_ret
        exact ⟨rfl, HQ7.out⟩
      · have t1 := toStr_soft (show Sl w6 1 (some ⟨g, o + 9, none⟩) n (cp4 - 9) (fs.map (Value.int .u8)) from by
          obtain ⟨g', o', he, hg6, hc6⟩ := HB6.out.pos (by omega)
          cases he
          have h := sl_part HB6.out (by rw [frameZ_shortLen (by rw [HLN.out]; omega), HLN.out]) hg6 hc6 9 n (cp4 - 9) (by omega) (by omega) (by omega)
          rw [frame_9 (by rw [HLN.out]; omega), List.take_of_length_le (by rw [HLN.out]; omega)] at h
          exact h)
        repeat (refine mix_val rfl rfl ?_; go_big_quiet_step (fail); refine wpQuiet_nil ?_)
        refine mix_run rfl rfl ?_
        intro K hK
        go_wp2_with (fail)
        refine (lives34_any w6).mono ?_
        rintro e w7 ⟨rfl, hq7⟩
        refine hK _ _ hq7 ?_
        clear hK K
        have HQ7 := Lib.hid (HQ6.out.trans hq7)
        clear hq7 t0 t1
        repeat (refine mix_val rfl rfl ?_; go_big_quiet_step (fail); refine wpQuiet_nil ?_)
        refine mix_end ?_
        go_wp2
        go_ret
        exact ⟨rfl, HQ7.out⟩
    · obtain ⟨i, rfl⟩ : ∃ i, j = i + 1 := ⟨j - 1, by omega⟩
      have hc := HAT.out i (by omega)
      have hu := div256_u64 HUS.out i
      have HS2 := Lib.hid (show S / 256 ^ (i + 1) = S / 256 ^ i / 256 by rw [Int.pow_succ, ← Int.ediv_ediv_of_nonneg (Int.pow_nonneg (by decide))])
      rw [HS2.out]
      generalize hq : S / 256 ^ i = q at *
      have HQI := Lib.hid hq
      have hu0 : 0 ≤ q := hu.1
      have hu1 : q < 18446744073709551616 := hu.2
      clear hu HAT hq
      have e0 : 256 * (q / 256) + q % 256 = q := by omega
      have e1 : 0 ≤ q / 256 := by omega
      have e2 : 256 * (q / 256) < 18446744073709551616 := by omega
      have e3 : 0 ≤ q % 256 := by omega
      have hip : (0 : Int) < (i : Int) + 1 := by omega
      go_wp2
      go_roundw
      case rel => exact ⟨i, by omega, by go_num, by rw [HQI.out], by trivial⟩
      case measure => simp [intOf]
end Go.Proofs.Ytfkbdiheccnohaa
