/- The walk of InputPredicts. -/
import Derived.Test.YtmcibkmaigolmaaDoorValidWalk
namespace Go.Proofs.YtmcibkmaigolmaaDoor
open Go Go.RowKit Go.BigFrame
attribute [local go_sem ↓] eqIn_in
attribute [local go_sem] same3_refl

theorem predicts_walk (n m : Int) (w : World) (wn : (Lit.int .i64 n).wf = true) (wm : (Lit.int .i64 m).wf = true) :
    Calls Tryd.prog 6 #[.int .i64 n, .int .i64 m] w fun e w' => e = .returned (.bool true) ∧ Q w w' := by
  have a0 := aroundZ_lo n 36 (by omega)
  have a1 := aroundZ_hi n 36 (by omega)
  have b0 := aroundZ_lo m 36 (by omega)
  have b1 := aroundZ_hi m 36 (by omega)
  have gn := wf_i64 wn
  have gm := wf_i64 wm
  clear wn wm
  generalize hx : aroundZ n 36 = x at *
  generalize hy : aroundZ m 36 = y at *
  have he : errV (x % 3 - 1) (x / 3 % 3 - 1) 0 = 0 := by
    have a : inB (x % 3 - 1) (-1) 1 = true := by simp [inB]; omega
    have b : inB (x / 3 % 3 - 1) (-1) 1 = true := by simp [inB]; omega
    have c : inB 0 0 3 = true := by decide
    simp [errV, a, b, c]
  have HX := Lib.hid hx
  have HY := Lib.hid hy
  clear hx hy
  generalize hp : x % 3 - 1 = p at *
  generalize hq : x / 3 % 3 - 1 = q at *
  generalize hr : y % 3 - 1 = r at *
  generalize hs : y / 3 % 3 - 1 = s at *
  have HP := Lib.hid hp
  have HQQ := Lib.hid hq
  have HR := Lib.hid hr
  have HS := Lib.hid hs
  have hsame : same3 p q 0 r s 0 = (p == r && q == s) := by
    unfold same3
    by_cases h1 : p = r <;> by_cases h2 : q = s <;> simp [h1, h2]
  clear hp hq hr hs
  have HSM := Lib.hid hsame
  clear hsame
  cases h1 : (p == r)
  · have h3 : same3 p q 0 r s 0 = false := by rw [HSM.out, h1]; rfl
    go_enter Tryd.func6, Tryd.ntmps6
    go_wp2_with (fail)
    refine (of_any _ _ gn).mono ?_
    rintro e w1 ⟨rfl, hq1⟩
    rw [HX.out, HP.out, HQQ.out]
    go_wp2_with (fail)
    refine (of_any _ _ gm).mono ?_
    rintro e w2 ⟨rfl, hq2⟩
    rw [HY.out, HR.out, HS.out]
    have bx := (Box.new w1 [.int .i64 p, .int .i64 q, .int .i64 (x / 9)] 23).q hq2
    obtain ⟨l0, c0, c1, c2⟩ := bx.here3
    go_wp2_with (fail)
    refine (iPredict_any _ _ _ _).mono ?_
    rintro e w3 ⟨rfl, hq3⟩
    have by_ := (Box.new w2 [.int .i64 r, .int .i64 s, .int .i64 (y / 9)] 23).q hq3
    have bx := (bx.alloc (.cells #[.int .i64 r, .int .i64 s, .int .i64 (y / 9)] 23)).q hq3
    have HQ := Lib.hid (show Q w w3 from (((hq1.alloc _).trans hq2).alloc _).trans hq3)
    clear l0 c0 c1 c2 hq1 hq2 hq3
    obtain ⟨l0, c0, c1, c2⟩ := bx.here3
    obtain ⟨l1, d0, d1, d2⟩ := by_.here3
    go_wp2_with (fail)
    have bp := Box.new w3 [.int .i64 p, .int .i64 q, .int .i64 0] 23
    have bx := bx.alloc (.cells #[.int .i64 p, .int .i64 q, .int .i64 0] 23)
    have by_ := by_.alloc (.cells #[.int .i64 p, .int .i64 q, .int .i64 0] 23)
    have HQ2 := Lib.hid (HQ.out.alloc (.cells #[.int .i64 p, .int .i64 q, .int .i64 0] 23))
    clear l0 c0 c1 c2 l1 d0 d1 d2 HQ
    obtain ⟨c10, c11, c12⟩ := bx.soft3
    obtain ⟨c20, c21, c22⟩ := by_.soft3
    obtain ⟨c30, c31, c32⟩ := bp.soft3
    clear bx by_ bp
    refine wp_region_soft _ (Q.refl _) (by kernel_rfl) (by kernel_rfl) ?_
    repeat (go_big_quiet_step (first | (go_at_call 19; refine Calls.soft (iPredict_any _ _ _ _)) | (go_at_call 16; refine Calls.soft (iValidate_any _ _ _ _)) | (go_at_call 15; exact Calls.soft (lives_any _))))
    refine wpQuiet_nil ?_
    rintro _ ⟨⟨w4, hq4⟩, rfl⟩
    go_wp2
    go_ret
    exact ⟨rfl, HQ2.out.trans hq4⟩
  · cases h2 : (q == s)
    · have h3 : same3 p q 0 r s 0 = false := by rw [HSM.out, h1, h2]; rfl
      go_enter Tryd.func6, Tryd.ntmps6
      go_wp2_with (fail)
      refine (of_any _ _ gn).mono ?_
      rintro e w1 ⟨rfl, hq1⟩
      rw [HX.out, HP.out, HQQ.out]
      go_wp2_with (fail)
      refine (of_any _ _ gm).mono ?_
      rintro e w2 ⟨rfl, hq2⟩
      rw [HY.out, HR.out, HS.out]
      have bx := (Box.new w1 [.int .i64 p, .int .i64 q, .int .i64 (x / 9)] 23).q hq2
      obtain ⟨l0, c0, c1, c2⟩ := bx.here3
      go_wp2_with (fail)
      refine (iPredict_any _ _ _ _).mono ?_
      rintro e w3 ⟨rfl, hq3⟩
      have by_ := (Box.new w2 [.int .i64 r, .int .i64 s, .int .i64 (y / 9)] 23).q hq3
      have bx := (bx.alloc (.cells #[.int .i64 r, .int .i64 s, .int .i64 (y / 9)] 23)).q hq3
      have HQ := Lib.hid (show Q w w3 from (((hq1.alloc _).trans hq2).alloc _).trans hq3)
      clear l0 c0 c1 c2 hq1 hq2 hq3
      obtain ⟨l0, c0, c1, c2⟩ := bx.here3
      obtain ⟨l1, d0, d1, d2⟩ := by_.here3
      go_wp2_with (fail)
      have bp := Box.new w3 [.int .i64 p, .int .i64 q, .int .i64 0] 23
      have bx := bx.alloc (.cells #[.int .i64 p, .int .i64 q, .int .i64 0] 23)
      have by_ := by_.alloc (.cells #[.int .i64 p, .int .i64 q, .int .i64 0] 23)
      have HQ2 := Lib.hid (HQ.out.alloc (.cells #[.int .i64 p, .int .i64 q, .int .i64 0] 23))
      clear l0 c0 c1 c2 l1 d0 d1 d2 HQ
      obtain ⟨c10, c11, c12⟩ := bx.soft3
      obtain ⟨c20, c21, c22⟩ := by_.soft3
      obtain ⟨c30, c31, c32⟩ := bp.soft3
      clear bx by_ bp
      refine wp_region_soft _ (Q.refl _) (by kernel_rfl) (by kernel_rfl) ?_
      repeat (go_big_quiet_step (first | (go_at_call 19; refine Calls.soft (iPredict_any _ _ _ _)) | (go_at_call 16; refine Calls.soft (iValidate_any _ _ _ _)) | (go_at_call 15; exact Calls.soft (lives_any _))))
      refine wpQuiet_nil ?_
      rintro _ ⟨⟨w4, hq4⟩, rfl⟩
      go_wp2
      go_ret
      exact ⟨rfl, HQ2.out.trans hq4⟩
    · have h3 : same3 p q 0 r s 0 = true := by rw [HSM.out, h1, h2]; rfl
      go_enter Tryd.func6, Tryd.ntmps6
      go_wp2_with (fail)
      refine (of_any _ _ gn).mono ?_
      rintro e w1 ⟨rfl, hq1⟩
      rw [HX.out, HP.out, HQQ.out]
      go_wp2_with (fail)
      refine (of_any _ _ gm).mono ?_
      rintro e w2 ⟨rfl, hq2⟩
      rw [HY.out, HR.out, HS.out]
      have bx := (Box.new w1 [.int .i64 p, .int .i64 q, .int .i64 (x / 9)] 23).q hq2
      obtain ⟨l0, c0, c1, c2⟩ := bx.here3
      go_wp2_with (fail)
      refine (iPredict_any _ _ _ _).mono ?_
      rintro e w3 ⟨rfl, hq3⟩
      have by_ := (Box.new w2 [.int .i64 r, .int .i64 s, .int .i64 (y / 9)] 23).q hq3
      have bx := (bx.alloc (.cells #[.int .i64 r, .int .i64 s, .int .i64 (y / 9)] 23)).q hq3
      have HQ := Lib.hid (show Q w w3 from (((hq1.alloc _).trans hq2).alloc _).trans hq3)
      clear l0 c0 c1 c2 hq1 hq2 hq3
      obtain ⟨l0, c0, c1, c2⟩ := bx.here3
      obtain ⟨l1, d0, d1, d2⟩ := by_.here3
      go_wp2_with (fail)
      have bp := Box.new w3 [.int .i64 p, .int .i64 q, .int .i64 0] 23
      have bx := bx.alloc (.cells #[.int .i64 p, .int .i64 q, .int .i64 0] 23)
      have by_ := by_.alloc (.cells #[.int .i64 p, .int .i64 q, .int .i64 0] 23)
      have HQ2 := Lib.hid (HQ.out.alloc (.cells #[.int .i64 p, .int .i64 q, .int .i64 0] 23))
      clear l0 c0 c1 c2 l1 d0 d1 d2 HQ
      obtain ⟨c10, c11, c12⟩ := bx.soft3
      obtain ⟨c20, c21, c22⟩ := by_.soft3
      obtain ⟨c30, c31, c32⟩ := bp.soft3
      clear bx by_ bp
      refine wp_region_soft _ (Q.refl _) (by kernel_rfl) (by kernel_rfl) ?_
      repeat (go_big_quiet_step (first | (go_at_call 19; refine Calls.soft (iPredict_any _ _ _ _)) | (go_at_call 16; refine Calls.soft (iValidate_any _ _ _ _)) | (go_at_call 15; exact Calls.soft (lives_any _))))
      refine wpQuiet_nil ?_
      rintro _ ⟨⟨w4, hq4⟩, rfl⟩
      go_wp2
      go_ret
      exact ⟨rfl, HQ2.out.trans hq4⟩
end Go.Proofs.YtmcibkmaigolmaaDoor
