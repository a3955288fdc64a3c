/- The walk of InputBijection. -/
import Derived.Test.YtmcibkmaigolmaaDoorValidWalk
import Derived.Test.YtmcibkmaigolmaaDoorRowsC
namespace Go.Proofs.YtmcibkmaigolmaaDoor
open Go Go.RowKit Go.BigFrame
attribute [local go_sem ↓] eqIn_in
attribute [local go_sem] same3_refl

theorem bij_walk (n m b : Int) (w : World) (hD : Dirs w) (wn : (Lit.int .i64 n).wf = true) (wm : (Lit.int .i64 m).wf = true) (wb : (Lit.int .u8 b).wf = true) :
    Calls Tryd.prog 5 #[.int .i64 n, .int .i64 m, .int .u8 b] w fun e w' => e = .returned (.bool true) ∧ Q w w' := by
  have a0 := aroundZ_lo n 36 (by omega)
  have a1 := aroundZ_hi n 36 (by omega)
  have b0 := aroundZ_lo m 36 (by omega)
  have b1 := aroundZ_hi m 36 (by omega)
  have gn := wf_i64 wn
  have gm := wf_i64 wm
  obtain ⟨g0, g1⟩ := wf_u8 wb
  clear wn wm wb
  generalize hx : aroundZ n 36 = x at *
  generalize hy : aroundZ m 36 = y at *
  have HX := Lib.hid hx
  have HY := Lib.hid hy
  have HD := Lib.hid hD
  have hs : same3 (x % 3 - 1) (x / 3 % 3 - 1) (x / 9) (y % 3 - 1) (y / 3 % 3 - 1) (y / 9) = (x == y) := by
    rw [same3_code _ _ a0 b0]
    by_cases h : x = y <;> simp [h]
  clear hx hy hD
  have hcx := codeOf_code x
  have hcy := codeOf_code y
  have hcb := codeOf_code b
  by_cases hb : b ≤ 35
  · have he := errV_code b g0 (by omega)
    go_enter Tryd.func5, Tryd.ntmps5
    go_wp2_with (fail)
    refine (of_any _ _ gn).mono ?_
    rintro e w1 ⟨rfl, hq1⟩
    rw [HX.out]
    go_wp2_with (fail)
    refine (of_any _ _ gm).mono ?_
    rintro e w2 ⟨rfl, hq2⟩
    rw [HY.out]
    have bx := (Box.new w1 [.int .i64 (x % 3 - 1), .int .i64 (x / 3 % 3 - 1), .int .i64 (x / 9)] 23).q hq2
    obtain ⟨l0, c0, c1, c2⟩ := bx.here3
    go_wp2_with (fail)
    refine (iEncode_code _ _ a0 a1).mono ?_
    rintro e w3 ⟨rfl, hq3⟩
    have HQ := Lib.hid (show Q w w3 from (((hq1.alloc _).trans hq2).alloc _).trans hq3)
    go_wp2_with (fail)
    refine (iDecode_yes _ _ (HD.out.q HQ.out) a0 (by omega)).mono ?_
    rintro e w4 ⟨rfl, hq4⟩
    have by_ := ((Box.new w2 [.int .i64 (y % 3 - 1), .int .i64 (y / 3 % 3 - 1), .int .i64 (y / 9)] 23).q hq3).q hq4
    have bx := ((bx.alloc (.cells #[.int .i64 (y % 3 - 1), .int .i64 (y / 3 % 3 - 1), .int .i64 (y / 9)] 23)).q hq3).q hq4
    have HQ2 := Lib.hid (HQ.out.trans hq4)
    clear hq1 hq2 hq3 hq4 l0 c0 c1 c2 HQ
    go_wp2_with (fail)
    have bk := Box.new w4 [.int .i64 (x % 3 - 1), .int .i64 (x / 3 % 3 - 1), .int .i64 (x / 9)] 23
    have bx := bx.alloc (.cells #[.int .i64 (x % 3 - 1), .int .i64 (x / 3 % 3 - 1), .int .i64 (x / 9)] 23)
    have by_ := by_.alloc (.cells #[.int .i64 (x % 3 - 1), .int .i64 (x / 3 % 3 - 1), .int .i64 (x / 9)] 23)
    obtain ⟨c10, c11, c12⟩ := bx.soft3
    obtain ⟨c20, c21, c22⟩ := by_.soft3
    obtain ⟨c30, c31, c32⟩ := bk.soft3
    have HQ3 := Lib.hid (HQ2.out.alloc (.cells #[.int .i64 (x % 3 - 1), .int .i64 (x / 3 % 3 - 1), .int .i64 (x / 9)] 23))
    clear bx by_ bk
    refine wp_region_soft _ (Q.refl _) (by kernel_rfl) (by kernel_rfl) ?_
    repeat (go_big_quiet_step ((go_at_call 13; refine Calls.soft (iEncode_c _ _ _ _ (by omega) (by omega) (by omega)))))
    refine wpQuiet_nil ?_
    rintro _ ⟨⟨w5, hq5⟩, rfl⟩
    have HQ4 := Lib.hid (HQ3.out.trans hq5)
    clear hq5 c10 c11 c12 c20 c21 c22 c30 c31 c32
    go_wp2_with (fail)
    refine (iDecode_yes _ _ (HD.out.q HQ4.out) g0 hb).mono ?_
    rintro e w6 ⟨rfl, hq6⟩
    have HQ5 := Lib.hid (HQ4.out.trans hq6)
    clear hq6
    go_wp2_with (fail)
    refine (iValidate_any _ _ _ _).mono ?_
    rintro e w7 ⟨rfl, hq7⟩
    have bi := (Box.new w6 [.int .i64 (b % 3 - 1), .int .i64 (b / 3 % 3 - 1), .int .i64 (b / 9)] 23).q hq7
    obtain ⟨l0, c0, c1, c2⟩ := bi.here3
    have HQ6 := Lib.hid ((HQ5.out.alloc _).trans hq7)
    clear hq7 bi
    go_wp2_with (fail)
    refine (iEncode_c _ _ _ _ (by omega) (by omega) (by omega)).mono ?_
    rintro e w8 ⟨rfl, hq8⟩
    go_wp2_with (fail)
    refine (lives_any _).mono ?_
    rintro e w9 ⟨rfl, hq9⟩
    have HQ7 := Lib.hid ((HQ6.out.trans hq8).trans hq9)
    clear hq8 hq9
    go_wp2
    go_ret
    exact ⟨rfl, HQ7.out⟩
  · have hb' : 35 < b := by omega
    go_enter Tryd.func5, Tryd.ntmps5
    go_wp2_with (fail)
    refine (of_any _ _ gn).mono ?_
    rintro e w1 ⟨rfl, hq1⟩
    rw [HX.out]
    go_wp2_with (fail)
    refine (of_any _ _ gm).mono ?_
    rintro e w2 ⟨rfl, hq2⟩
    rw [HY.out]
    have bx := (Box.new w1 [.int .i64 (x % 3 - 1), .int .i64 (x / 3 % 3 - 1), .int .i64 (x / 9)] 23).q hq2
    obtain ⟨l0, c0, c1, c2⟩ := bx.here3
    go_wp2_with (fail)
    refine (iEncode_code _ _ a0 a1).mono ?_
    rintro e w3 ⟨rfl, hq3⟩
    have HQ := Lib.hid (show Q w w3 from (((hq1.alloc _).trans hq2).alloc _).trans hq3)
    go_wp2_with (fail)
    refine (iDecode_yes _ _ (HD.out.q HQ.out) a0 (by omega)).mono ?_
    rintro e w4 ⟨rfl, hq4⟩
    have by_ := ((Box.new w2 [.int .i64 (y % 3 - 1), .int .i64 (y / 3 % 3 - 1), .int .i64 (y / 9)] 23).q hq3).q hq4
    have bx := ((bx.alloc (.cells #[.int .i64 (y % 3 - 1), .int .i64 (y / 3 % 3 - 1), .int .i64 (y / 9)] 23)).q hq3).q hq4
    have HQ2 := Lib.hid (HQ.out.trans hq4)
    clear hq1 hq2 hq3 hq4 l0 c0 c1 c2 HQ
    go_wp2_with (fail)
    have bk := Box.new w4 [.int .i64 (x % 3 - 1), .int .i64 (x / 3 % 3 - 1), .int .i64 (x / 9)] 23
    have bx := bx.alloc (.cells #[.int .i64 (x % 3 - 1), .int .i64 (x / 3 % 3 - 1), .int .i64 (x / 9)] 23)
    have by_ := by_.alloc (.cells #[.int .i64 (x % 3 - 1), .int .i64 (x / 3 % 3 - 1), .int .i64 (x / 9)] 23)
    obtain ⟨c10, c11, c12⟩ := bx.soft3
    obtain ⟨c20, c21, c22⟩ := by_.soft3
    obtain ⟨c30, c31, c32⟩ := bk.soft3
    have HQ3 := Lib.hid (HQ2.out.alloc (.cells #[.int .i64 (x % 3 - 1), .int .i64 (x / 3 % 3 - 1), .int .i64 (x / 9)] 23))
    clear bx by_ bk
    refine wp_region_soft _ (Q.refl _) (by kernel_rfl) (by kernel_rfl) ?_
    repeat (go_big_quiet_step ((go_at_call 13; refine Calls.soft (iEncode_c _ _ _ _ (by omega) (by omega) (by omega)))))
    refine wpQuiet_nil ?_
    rintro _ ⟨⟨w5, hq5⟩, rfl⟩
    have HQ4 := Lib.hid (HQ3.out.trans hq5)
    clear hq5 c10 c11 c12 c20 c21 c22 c30 c31 c32
    go_wp2_with (fail)
    refine (iDecode_no _ _ (by omega) g1).mono ?_
    rintro e w6 ⟨rfl, hq6⟩
    have HQ5 := Lib.hid ((HQ4.out.trans hq6).alloc (.cells #[.int .i64 0, .int .i64 0, .int .i64 0] 23))
    clear hq6
    go_wp2_with (fail)
    refine (lives_any _).mono ?_
    rintro e w9 ⟨rfl, hq9⟩
    have HQ7 := Lib.hid (HQ5.out.trans hq9)
    clear hq9
    go_wp2
    go_ret
    exact ⟨rfl, HQ7.out⟩
end Go.Proofs.YtmcibkmaigolmaaDoor
