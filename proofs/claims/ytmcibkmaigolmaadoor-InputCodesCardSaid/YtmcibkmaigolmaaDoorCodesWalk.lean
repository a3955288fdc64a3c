/- The walk of InputCodes. -/
import Derived.Test.YtmcibkmaigolmaaDoorSoft
namespace Go.Proofs.YtmcibkmaigolmaaDoor
open Go Go.RowKit Go.BigFrame

theorem codes_yes (b n : Int) (w : World) (hD : Dirs w) (h0 : 0 ≤ b) (h1 : b ≤ 35) (hn : -9223372036854775808 ≤ n ∧ n ≤ 9223372036854775807) :
    Calls Tryd.prog 3 #[.int .u8 b, .int .i64 n] w fun e w' => e = .returned (.bool true) ∧ Q w w' := by
  have a0 := aroundZ_lo n 36 (by omega)
  have a1 := aroundZ_hi n 36 (by omega)
  have HD := Lib.hid hD
  clear hD
  go_enter Tryd.func3, Tryd.ntmps3
  go_wp2_with (fail)
  refine (iDecode_yes _ _ HD.out (by omega) (by omega)).mono ?_
  rintro e w1 ⟨rfl, hq1⟩
  go_wp2_with (fail)
  refine (rDecode_yes _ _ (by omega) (by omega)).mono ?_
  rintro e w2 ⟨rfl, hq2⟩
  have b1 := (Box.new w1 [.int .i64 (b % 3 - 1), .int .i64 (b / 3 % 3 - 1), .int .i64 (b / 9)] 23).q hq2
  go_wp2_with (fail)
  refine (of_any _ _ hn).mono ?_
  rintro e w3 ⟨rfl, hq3⟩
  have b2 := (Box.new w2 [.int .i64 (b % 3 - 1), .int .i64 (b / 3 % 3 - 1), .int .i64 (b / 9)] 23).q hq3
  have b1 := (b1.alloc (.cells #[.int .i64 (b % 3 - 1), .int .i64 (b / 3 % 3 - 1), .int .i64 (b / 9)] 23)).q hq3
  go_wp2_with (fail)
  have b3 := Box.new w3 [.int .i64 (aroundZ n 36 % 3 - 1), .int .i64 (aroundZ n 36 / 3 % 3 - 1), .int .i64 (aroundZ n 36 / 9)] 23
  have b2 := b2.alloc (.cells #[.int .i64 (aroundZ n 36 % 3 - 1), .int .i64 (aroundZ n 36 / 3 % 3 - 1), .int .i64 (aroundZ n 36 / 9)] 23)
  have b1 := b1.alloc (.cells #[.int .i64 (aroundZ n 36 % 3 - 1), .int .i64 (aroundZ n 36 / 3 % 3 - 1), .int .i64 (aroundZ n 36 / 9)] 23)
  obtain ⟨c10, c11, c12⟩ := b1.soft3
  obtain ⟨c20, c21, c22⟩ := b2.soft3
  obtain ⟨c30, c31, c32⟩ := b3.soft3
  have HQ := Lib.hid (show Q w _ from ((((hq1.alloc _).trans hq2).alloc _).trans hq3).alloc (.cells #[.int .i64 (aroundZ n 36 % 3 - 1), .int .i64 (aroundZ n 36 / 3 % 3 - 1), .int .i64 (aroundZ n 36 / 9)] 23))
  clear hq3 hq2 b1 b2 b3 hq1
  refine wp_region_soft _ (Q.refl _) (by kernel_rfl) (by kernel_rfl) ?_
  repeat (go_big_quiet_step (first | (go_at_call 13; refine Calls.soft (iEncode_any _ _ _ _ (by omega) (by omega) (by omega))) | (go_at_call 14; refine Calls.soft (rEncode_any _ _ _ _ (by omega) (by omega) (by omega))) | (go_at_call 15; exact Calls.soft (lives_any _))))
  refine wpQuiet_nil ?_
  rintro _ ⟨⟨w4, hq4⟩, rfl⟩
  go_wp2
  go_ret
  exact ⟨rfl, HQ.out.trans hq4⟩

theorem codes_no (b n : Int) (w : World) (h0 : 36 ≤ b) (h1 : b ≤ 255) (hn : -9223372036854775808 ≤ n ∧ n ≤ 9223372036854775807) :
    Calls Tryd.prog 3 #[.int .u8 b, .int .i64 n] w fun e w' => e = .returned (.bool true) ∧ Q w w' := by
  have a0 := aroundZ_lo n 36 (by omega)
  have a1 := aroundZ_hi n 36 (by omega)
  go_enter Tryd.func3, Tryd.ntmps3
  go_wp2_with (fail)
  refine (iDecode_no _ _ (by omega) (by omega)).mono ?_
  rintro e w1 ⟨rfl, hq1⟩
  go_wp2_with (fail)
  refine (rDecode_no _ _ (by omega) (by omega)).mono ?_
  rintro e w2 ⟨rfl, hq2⟩
  have b1 := (Box.new w1 [.int .i64 0, .int .i64 0, .int .i64 0] 23).q hq2
  go_wp2_with (fail)
  refine (of_any _ _ hn).mono ?_
  rintro e w3 ⟨rfl, hq3⟩
  have b2 := (Box.new w2 [.int .i64 0, .int .i64 0, .int .i64 0] 23).q hq3
  have b1 := (b1.alloc (.cells #[.int .i64 0, .int .i64 0, .int .i64 0] 23)).q hq3
  go_wp2_with (fail)
  have b3 := Box.new w3 [.int .i64 (aroundZ n 36 % 3 - 1), .int .i64 (aroundZ n 36 / 3 % 3 - 1), .int .i64 (aroundZ n 36 / 9)] 23
  have b2 := b2.alloc (.cells #[.int .i64 (aroundZ n 36 % 3 - 1), .int .i64 (aroundZ n 36 / 3 % 3 - 1), .int .i64 (aroundZ n 36 / 9)] 23)
  have b1 := b1.alloc (.cells #[.int .i64 (aroundZ n 36 % 3 - 1), .int .i64 (aroundZ n 36 / 3 % 3 - 1), .int .i64 (aroundZ n 36 / 9)] 23)
  obtain ⟨c10, c11, c12⟩ := b1.soft3
  obtain ⟨c20, c21, c22⟩ := b2.soft3
  obtain ⟨c30, c31, c32⟩ := b3.soft3
  have HQ := Lib.hid (show Q w _ from ((((hq1.alloc _).trans hq2).alloc _).trans hq3).alloc (.cells #[.int .i64 (aroundZ n 36 % 3 - 1), .int .i64 (aroundZ n 36 / 3 % 3 - 1), .int .i64 (aroundZ n 36 / 9)] 23))
  clear hq3 hq2 b1 b2 b3 hq1
  refine wp_region_soft _ (Q.refl _) (by kernel_rfl) (by kernel_rfl) ?_
  repeat (go_big_quiet_step (first | (go_at_call 13; refine Calls.soft (iEncode_any _ _ _ _ (by omega) (by omega) (by omega))) | (go_at_call 14; refine Calls.soft (rEncode_any _ _ _ _ (by omega) (by omega) (by omega))) | (go_at_call 15; exact Calls.soft (lives_any _))))
  refine wpQuiet_nil ?_
  rintro _ ⟨⟨w4, hq4⟩, rfl⟩
  go_wp2
  go_ret
  exact ⟨rfl, HQ.out.trans hq4⟩

theorem codes_walk (b n : Int) (w : World) (hD : Dirs w) (wb : (Lit.int .u8 b).wf = true) (wn : (Lit.int .i64 n).wf = true) :
    Calls Tryd.prog 3 #[.int .u8 b, .int .i64 n] w fun e w' => e = .returned (.bool true) ∧ Q w w' := by
  by_cases h : b ≤ 35
  · exact codes_yes b n w hD (wf_u8 wb).1 h (wf_i64 wn)
  · exact codes_no b n w (by omega) (wf_u8 wb).2 (wf_i64 wn)
end Go.Proofs.YtmcibkmaigolmaaDoor
