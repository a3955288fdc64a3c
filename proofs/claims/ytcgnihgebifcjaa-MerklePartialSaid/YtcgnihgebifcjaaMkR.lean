/- Contracts: the reference's Cells, Verify, Same. -/
import Derived.Test.YtcgnihgebifcjaaMkL
namespace Go.Proofs.Ytcgnihgebifcjaa
open Go Go.RowKit Go.BigFrame

theorem up_zero' (k : Nat) : up k 0 = k := up_zero k
theorem up_succ' (k m : Nat) : up k (m + 1) = up k m / 2 := up_succ k m
set_option maxRecDepth 100000 in
set_option maxHeartbeats 1000000 in
theorem rCells_any (a : Option Addr) (n cap : Nat) (zs : List Int) (w : World) (hs : Sl w 1 a n cap (zs.map (Value.int .i64))) :
    Calls Try.prog 11 #[.slice a n cap] w (RetOwn w 3 1 (min n 20) ((zs.take 20).map (Value.int .i64))) := by
  have HS := Lib.hid hs
  clear hs
  go_enter Try.func11, Try.ntmps11
  go_wp2_with (fail)
  refine (ints_any a n cap 20 zs w HS.out (by omega)).mono ?_
  rintro e w1 ⟨b, cp, rfl, hown, hq⟩
  have HO := Lib.hid hown
  have HQ := Lib.hid hq
  clear hown hq
  go_wp2
  go_ret
  exact ⟨b, cp, rfl, HO.out, HQ.out⟩
set_option maxRecDepth 100000 in
set_option maxHeartbeats 2000000 in
theorem rVerify_any (root : Int) (n : Nat) (i v : Int) (a : Option Addr) (m cap : Nat) (proof : List Int) (w : World) (hn : n ≤ 100000) (hi : -9223372036854775808 ≤ i ∧ i ≤ 9223372036854775807) (hv : -9223372036854775808 ≤ v ∧ v ≤ 9223372036854775807)
    (hs : Sl w 1 a m cap (proof.map (Value.int .u64))) :
    Calls Try.prog 17 #[.int .u64 root, .int .i64 n, .agg #[.int .i64 i, .int .i64 v, .slice a m cap]] w fun e w' => e = .returned (.bool (verZ root n i v proof)) ∧ Q w w' := by
  have hlen : proof.length = m := by have := hs.1; simpa using this
  have HS := Lib.hid hs
  have HV := Lib.hid hv
  have HL := Lib.hid hlen
  have HI := Lib.hid hi
  clear hs hv hlen hi
  go_enter Try.func17, Try.ntmps17
  have bx := Box.new w [.int .i64 i, .int .i64 v, .slice a m cap] 25
  go_upto_region 1 with (fail)
  refine wp_region_mix [(0, true), (1, true), (2, true), (3, true), (4, true), (5, true), (6, true), (7, true), (8, true), (9, true), (10, true), (11, true), (12, true), (13, true), (14, false), (15, true), (16, true)] (by kernel_rfl) (by kernel_rfl) (fun _ _ _ _ _ h => h) ?_
  have HQ1 := Lib.hid (((Q.refl w).alloc (.cells #[.int .i64 i, .int .i64 v, .slice a m cap] 25)).drew)
  have HB1 := Lib.hid (bx.q (Q.drew (Q.refl _)))
  clear bx
  generalize hW : ((w.alloc (.cells #[.int .i64 i, .int .i64 v, .slice a m cap] 25)).drew) = W at *
  clear hW
  have HLT := Lib.hid (show w.heap.size < W.heap.size from HB1.out.1)
  generalize hLB : w.heap.size = LB at *
  clear hLB
  obtain ⟨x0, x1, x2⟩ := Box.soft3 HB1.out
  by_cases h0 : i < 0
  · have HZ := Lib.hid (show verZ root n i v proof = false by unfold verZ; rw [decide_eq_false (show ¬ 0 ≤ i by omega)]; simp)
    have h0b : decide (i < 0) = true := decide_eq_true h0
    repeat (refine mix_val rfl rfl ?_; go_big_quiet_step (fail); refine wpQuiet_nil ?_)
    refine mix_pass rfl rfl ?_
    go_frame
    repeat (refine mix_val rfl rfl ?_; go_big_quiet_step (fail); refine wpQuiet_nil ?_)
    refine mix_end ?_
    clear x0 x1 x2
    go_wp2
    go_ret
    exact ⟨by rw [HZ.out]; rfl, HQ1.out⟩
  · have h0b : decide (i < 0) = false := decide_eq_false h0
    obtain ⟨k, rfl⟩ := Int.eq_ofNat_of_zero_le (show 0 ≤ i by omega)
    by_cases h1 : n ≤ k
    · have HZ := Lib.hid (show verZ root n k v proof = false by unfold verZ; rw [decide_eq_false (show ¬ (k : Int) < n by omega)]; simp)
      have h1i : (n : Int) ≤ (k : Int) := by omega
      repeat (refine mix_val rfl rfl ?_; go_big_quiet_step (fail); refine wpQuiet_nil ?_)
      refine mix_pass rfl rfl ?_
      go_frame
      repeat (refine mix_val rfl rfl ?_; go_big_quiet_step (fail); refine wpQuiet_nil ?_)
      refine mix_end ?_
      clear x0 x1 x2
      go_wp2
      go_ret
      exact ⟨by rw [HZ.out]; rfl, HQ1.out⟩
    · have h1i : decide ((n : Int) ≤ (k : Int)) = false := decide_eq_false (by omega)
      repeat (refine mix_val rfl rfl ?_; go_big_quiet_step (fail); refine wpQuiet_nil ?_)
      refine mix_run rfl rfl ?_
      intro K hK
      go_wp2_with (fail)
      refine (rHeight_any n W hn).mono ?_
      rintro e w2 ⟨rfl, rfl⟩
      refine hK _ _ (Q.refl _) ?_
      clear hK K
      by_cases h2 : m = hgt n
      · have h2b : ((m : Int) != (hgt n : Nat)) = false := by simp; omega
        repeat (refine mix_val rfl rfl ?_; go_big_quiet_step (fail); refine wpQuiet_nil ?_)
        refine mix_end ?_
        clear x0 x1 x2
        have HH := Lib.hid h2
        obtain ⟨hx, y0, y1, y2⟩ := Box.here3 HB1.out
        clear h2
        have HLZ := Lib.hid (show leafZ n k v = sumZ (strZ leafS) [(k : Int), v] from if_neg h1)
        have HR2 := Lib.hid (show ∀ z ∈ [(k : Int), v], -9223372036854775808 ≤ z ∧ z ≤ 9223372036854775807 from fun z hz => by
          rcases List.mem_cons.1 hz with rfl | hz
          · omega
          · rw [List.mem_singleton.1 hz]; exact HV.out)
        go_wp2_with (fail)
        refine (rSum_any leafS (some ⟨w2.heap.size, 0, none⟩) 2 2 [(k : Int), v] _ (by decide) (by omega) (sl_two w2 k v 3) HR2.out).mono ?_
        rw [← HLZ.out]
        rintro e w3 ⟨rfl, hq3⟩
        have hq3' := ((Q.refl w2).alloc (.cells #[.int .i64 k, .int .i64 v] 3)).trans hq3
        have HQ3 := Lib.hid (HQ1.out.trans hq3')
        have HB3 := Lib.hid (HB1.out.q hq3')
        have HS3 := Lib.hid (HS.out.q HQ3.out)
        have hm17 : m ≤ 17 := by have := hgt_17 n hn; have := HH.out; omega
        have HVZ := Lib.hid (show verZ root n k v proof = ((List.range m).foldl (verF k proof) (leafZ n k v) == root) by
          unfold verZ
          rw [decide_eq_true (show (0 : Int) ≤ k by omega), decide_eq_true (show (k : Int) < n by omega), HL.out, decide_eq_true HH.out, Int.toNat_natCast]
          rfl)
        generalize leafZ n k v = s0 at *
        clear hq3 hq3' y0 y1 y2 hx
        obtain ⟨hx, y0, y1, y2⟩ := Box.here3 HB3.out
        have hk0 : (0 : Int) ≤ k := by omega
        go_wp2_with (fail)
        clear hx y0 y1 y2
        go_loopw [7, 8, 9] (fun hs ks is wr => ∃ j : Nat, j ≤ m ∧ is = .int .i64 j ∧ ks = .int .i64 (up k j) ∧ hs = .int .u64 ((List.range j).foldl (verF k proof) s0) ∧ Q w3 wr) (fun _ _ is _ => m - (intOf is).toNat)
        case atStart => exact ⟨0, by omega, rfl, by rw [up_zero'], rfl, Q.refl _⟩
        case round =>
          obtain ⟨j, hj, rfl, rfl, rfl, hq⟩ := hrel
          have HQ4 := Lib.hid hq
          clear hq
          obtain ⟨hx, y0, y1, y2⟩ := Box.here3 (HB3.out.q HQ4.out)
          by_cases h4 : j < m
          · obtain ⟨g, o, rfl, hg, hcs⟩ := (HS3.out.q HQ4.out).pos (by omega)
            have c0 := hcs j (.int .u64 (proof.getD j 0)) (by
              rw [List.getElem?_map, List.getElem?_eq_getElem (show j < proof.length by rw [HL.out]; exact h4), List.getD_eq_getElem?_getD, List.getElem?_eq_getElem (show j < proof.length by rw [HL.out]; exact h4)]
              rfl)
            have HF := Lib.hid (show (List.range (j + 1)).foldl (verF k proof) s0 = joinZ (up k j) ((List.range j).foldl (verF k proof) s0) (proof.getD j 0) by rw [List.range_succ, List.foldl_append]; rfl)
            have HU := Lib.hid (up_succ' k j)
            have hu0 : (0 : Int) ≤ (up k j : Nat) := by omega
            have hu9 : up k j ≤ k := Nat.div_le_self _ _
            have hu8 : ((up k j : Nat) : Int) ≤ 100000 := by omega
            have hu7 : (0 : Int) ≤ ((up k j : Nat) : Int) / 2 := by omega
            have hu6 : ((up k j : Nat) : Int) / 2 ≤ 100000 := by omega
            have hu5 : ((up k j : Nat) : Int).tdiv 2 = ((up k j / 2 : Nat) : Int) := by rw [Int.tdiv_eq_ediv_of_nonneg (by omega)]; omega
            generalize proof.getD j 0 = px at *
            generalize (List.range j).foldl (verF k proof) s0 = hs at *
            clear hcs
            by_cases h5 : up k j % 2 = 1
            · have HJ := Lib.hid (show joinZ (up k j) hs px = pairZ px hs from if_pos h5)
              have hb : (((up k j : Nat) : Int) % 2 == 0) = false := by simp; omega
              clear h5
              generalize up k j = u at *
              go_wp2_with (fail)
              refine (rPair_any px hs wr).mono ?_
              rintro e w5 ⟨rfl, hq5⟩
              have HQ5 := Lib.hid (HQ4.out.trans hq5)
              clear hq5
              go_wp2
              go_roundw
              case rel => exact ⟨j + 1, by omega, by go_num, by rw [HU.out]; go_num, by rw [HF.out, HJ.out], HQ5.out⟩
              case measure => simp [intOf]; omega
            · have HJ := Lib.hid (show joinZ (up k j) hs px = pairZ hs px from if_neg h5)
              have hb : (((up k j : Nat) : Int) % 2 == 0) = true := by simp; omega
              clear h5
              generalize up k j = u at *
              go_wp2_with (fail)
              refine (rPair_any hs px wr).mono ?_
              rintro e w5 ⟨rfl, hq5⟩
              have HQ5 := Lib.hid (HQ4.out.trans hq5)
              clear hq5
              go_wp2
              go_roundw
              case rel => exact ⟨j + 1, by omega, by go_num, by rw [HU.out]; go_num, by rw [HF.out, HJ.out], HQ5.out⟩
              case measure => simp [intOf]; omega
          · have e1 : j = m := by omega
            subst e1
            have hge : ¬ (j : Int) < (j : Int) := by omega
            go_wp2
            go_ret
            exact ⟨by rw [HVZ.out]; rfl, HQ3.out.trans HQ4.out⟩
      · have HZ := Lib.hid (show verZ root n k v proof = false by unfold verZ; rw [HL.out, decide_eq_false h2]; simp)
        have h2b : ((m : Int) != (hgt n : Nat)) = true := by simp; omega
        repeat (refine mix_val rfl rfl ?_; go_big_quiet_step (fail); refine wpQuiet_nil ?_)
        refine mix_end ?_
        clear x0 x1 x2
        go_wp2
        go_ret
        exact ⟨by rw [HZ.out]; rfl, HQ1.out⟩
end Go.Proofs.Ytcgnihgebifcjaa
