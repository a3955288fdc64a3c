/- The walk of InputValidates. -/
import Derived.Test.YtmcibkmaigolmaaDoorSoft
namespace Go.Proofs.YtmcibkmaigolmaaDoor
open Go Go.RowKit Go.BigFrame

theorem errV_code (x : Int) (h0 : 0 ≤ x) (h1 : x < 36) : errV (x % 3 - 1) (x / 3 % 3 - 1) (x / 9) = 0 := by
  have a : inB (x % 3 - 1) (-1) 1 = true := by simp [inB]; omega
  have b : inB (x / 3 % 3 - 1) (-1) 1 = true := by simp [inB]; omega
  have c : inB (x / 9) 0 3 = true := by simp [inB]; omega
  simp [errV, a, b, c]

theorem rValidate_any (a b k : Int) (w : World) :
    Calls Tryd.prog 18 #[.agg #[.int .i64 a, .int .i64 b, .int .i64 k]] w fun e w' => e = .returned (.int .i64 (errV a b k)) ∧ Q w w' := by
  by_cases h1 : a < -1
  · have HE := Lib.hid (show errV a b k = 1 by simp [errV, inB]; omega)
    go_enter Tryd.func18, Tryd.ntmps18
    go_wp2
    go_ret
    rw [HE.out]
    exact ⟨rfl, by repeat' (first | exact Q.refl _ | refine Q.drew ?_ | refine Q.alloc ?_ _ | refine Q.setCell ?_ (by simp) _)⟩
  · by_cases h2 : 1 < a
    · have HE := Lib.hid (show errV a b k = 1 by simp [errV, inB]; omega)
      go_enter Tryd.func18, Tryd.ntmps18
      go_wp2
      go_ret
      rw [HE.out]
      exact ⟨rfl, by repeat' (first | exact Q.refl _ | refine Q.drew ?_ | refine Q.alloc ?_ _ | refine Q.setCell ?_ (by simp) _)⟩
    · by_cases h3 : b < -1
      · have HE := Lib.hid (show errV a b k = 1 by simp [errV, inB]; omega)
        go_enter Tryd.func18, Tryd.ntmps18
        go_wp2
        go_ret
        rw [HE.out]
        exact ⟨rfl, by repeat' (first | exact Q.refl _ | refine Q.drew ?_ | refine Q.alloc ?_ _ | refine Q.setCell ?_ (by simp) _)⟩
      · by_cases h4 : 1 < b
        · have HE := Lib.hid (show errV a b k = 1 by simp [errV, inB]; omega)
          go_enter Tryd.func18, Tryd.ntmps18
          go_wp2
          go_ret
          rw [HE.out]
          exact ⟨rfl, by repeat' (first | exact Q.refl _ | refine Q.drew ?_ | refine Q.alloc ?_ _ | refine Q.setCell ?_ (by simp) _)⟩
        · by_cases h5 : k < 0
          · have HE := Lib.hid (show errV a b k = 1 by simp [errV, inB]; omega)
            go_enter Tryd.func18, Tryd.ntmps18
            go_wp2
            go_ret
            rw [HE.out]
            exact ⟨rfl, by repeat' (first | exact Q.refl _ | refine Q.drew ?_ | refine Q.alloc ?_ _ | refine Q.setCell ?_ (by simp) _)⟩
          · by_cases h6 : 3 < k
            · have HE := Lib.hid (show errV a b k = 1 by simp [errV, inB]; omega)
              go_enter Tryd.func18, Tryd.ntmps18
              go_wp2
              go_ret
              rw [HE.out]
              exact ⟨rfl, by repeat' (first | exact Q.refl _ | refine Q.drew ?_ | refine Q.alloc ?_ _ | refine Q.setCell ?_ (by simp) _)⟩
            · have HE := Lib.hid (show errV a b k = 0 by simp [errV, inB]; omega)
              go_enter Tryd.func18, Tryd.ntmps18
              go_wp2
              go_ret
              rw [HE.out]
              exact ⟨rfl, by repeat' (first | exact Q.refl _ | refine Q.drew ?_ | refine Q.alloc ?_ _ | refine Q.setCell ?_ (by simp) _)⟩

theorem Box.set {w : World} {B : Nat} {vs : List Value} (h : Box w B vs) (i : Nat) (u : Value) (hi : i < vs.length) : Box (w.setCell ⟨B, i, none⟩ u) B (vs.set i u) := by
  refine ⟨by simpa using h.1, fun k v hv => ?_⟩
  rw [World.frozen?_setCell]
  by_cases hk : k = i
  · subst hk
    simp [hi] at hv
    subst hv
    obtain ⟨c, f⟩ := h.2 k vs[k] (by simp [hi])
    exact ⟨World.cell?_setCell_same _ _ _ c, f⟩
  · rw [List.getElem?_set_ne (Ne.symm hk)] at hv
    obtain ⟨c, f⟩ := h.2 k v hv
    exact ⟨(World.cell?_setCell_other _ _ _ _ (by simp)).trans c, f⟩
theorem Box.set_far {w : World} {B B' : Nat} {vs : List Value} (h : Box w B vs) (i : Nat) (u : Value) (hb : B ≠ B') : Box (w.setCell ⟨B', i, none⟩ u) B vs := by
  refine ⟨by simpa using h.1, fun k v hv => ?_⟩
  rw [World.frozen?_setCell]
  obtain ⟨c, f⟩ := h.2 k v hv
  exact ⟨(World.cell?_setCell_other _ _ _ _ (by simp)).trans c, f⟩

theorem validates_walk (a b k n field by_ : Int) (w : World) (_wa : (Lit.int .i64 a).wf = true) (_wb : (Lit.int .i64 b).wf = true) (_wk : (Lit.int .i64 k).wf = true) (wn : (Lit.int .i64 n).wf = true) (wf : (Lit.int .i64 field).wf = true) (wb : (Lit.int .i64 by_).wf = true) :
    Calls Tryd.prog 4 #[.agg #[.int .i64 a, .int .i64 b, .int .i64 k], .int .i64 n, .int .i64 field, .int .i64 by_] w fun e w' => e = .returned (.bool true) ∧ Q w w' := by
  have a0 := aroundZ_lo n 36 (by omega)
  have a1 := aroundZ_hi n 36 (by omega)
  have f0 := aroundZ_lo field 3 (by omega)
  have f1 := aroundZ_hi field 3 (by omega)
  have y0 := aroundZ_lo by_ 9 (by omega)
  have y1 := aroundZ_hi by_ 9 (by omega)
  have he := errV_code _ a0 a1
  have gn := wf_i64 wn
  have gf := wf_i64 wf
  have gb := wf_i64 wb
  clear wn wf wb
  generalize hx : aroundZ n 36 = x at *
  have HX := Lib.hid hx
  clear hx
  have hcase : aroundZ field 3 = 0 ∨ aroundZ field 3 = 1 ∨ aroundZ field 3 = 2 := by omega
  have HC := Lib.hid hcase
  clear hcase
  rcases HC.out with hc | hc | hc
  · have g0 : (aroundZ field 3 == 0) = true := by simp [hc]
    clear hc HC
    go_enter Tryd.func4, Tryd.ntmps4
    go_wp2_with (fail)
    refine (of_any _ _ gn).mono ?_
    rintro e w1 ⟨rfl, hq1⟩
    rw [HX.out]
    have bi := (Box.new w [.int .i64 a, .int .i64 b, .int .i64 k] 23).q hq1
    go_wp2_with (fail)
    refine (iValidate_any _ _ _ _).mono ?_
    rintro e w2 ⟨rfl, hq2⟩
    have bx := (Box.new w1 [.int .i64 (x % 3 - 1), .int .i64 (x / 3 % 3 - 1), .int .i64 (x / 9)] 23).q hq2
    have bi := (bi.alloc (.cells #[.int .i64 (x % 3 - 1), .int .i64 (x / 3 % 3 - 1), .int .i64 (x / 9)] 23)).q hq2
    have hw1 : w.heap.size < w1.heap.size := by have := hq1.size; simp at this; omega
    have HQ := Lib.hid (((((Q.refl w).alloc _).trans hq1).alloc _).trans hq2)
    obtain ⟨cx, fx⟩ := bx.2 0 _ rfl
    clear hq1 hq2
    go_wp2_with (go_at_call 17; refine (around_any _ _ _ (by omega) (by omega)).mono ?_; rintro e w' ⟨rfl, rfl⟩)
    have bx : Box _ _ [.int .i64 (aroundZ by_ 9 - 4), .int .i64 (x / 3 % 3 - 1), .int .i64 (x / 9)] := bx.set 0 (.int .i64 (aroundZ by_ 9 - 4)) (by simp)
    have bi := bi.set_far 0 (.int .i64 (aroundZ by_ 9 - 4)) (B' := w1.heap.size) (by omega)
    have HQ2 := Lib.hid (HQ.out.setCell (p := ⟨w1.heap.size, 0, none⟩) (by show w.heap.size ≤ w1.heap.size; omega) (.int .i64 (aroundZ by_ 9 - 4)))
    obtain ⟨c10, c11, c12⟩ := bx.soft3
    obtain ⟨c20, c21, c22⟩ := bi.soft3
    clear bx bi cx fx HQ
    refine wp_region_soft _ (Q.refl _) (by kernel_rfl) (by kernel_rfl) ?_
    repeat (go_big_quiet_step (first | (go_at_call 16; refine Calls.soft (iValidate_any _ _ _ _)) | (go_at_call 18; refine Calls.soft (rValidate_any _ _ _ _)) | (go_at_call 15; exact Calls.soft (lives_any _))))
    refine wpQuiet_nil ?_
    rintro _ ⟨⟨w4, hq4⟩, rfl⟩
    go_wp2
    go_ret
    exact ⟨rfl, HQ2.out.trans hq4⟩
  · have g0 : (aroundZ field 3 == 0) = false := by simp [hc]
    have g1 : (aroundZ field 3 == 1) = true := by simp [hc]
    clear hc HC
    go_enter Tryd.func4, Tryd.ntmps4
    go_wp2_with (fail)
    refine (of_any _ _ gn).mono ?_
    rintro e w1 ⟨rfl, hq1⟩
    rw [HX.out]
    have bi := (Box.new w [.int .i64 a, .int .i64 b, .int .i64 k] 23).q hq1
    go_wp2_with (fail)
    refine (iValidate_any _ _ _ _).mono ?_
    rintro e w2 ⟨rfl, hq2⟩
    have bx := (Box.new w1 [.int .i64 (x % 3 - 1), .int .i64 (x / 3 % 3 - 1), .int .i64 (x / 9)] 23).q hq2
    have bi := (bi.alloc (.cells #[.int .i64 (x % 3 - 1), .int .i64 (x / 3 % 3 - 1), .int .i64 (x / 9)] 23)).q hq2
    have hw1 : w.heap.size < w1.heap.size := by have := hq1.size; simp at this; omega
    have HQ := Lib.hid (((((Q.refl w).alloc _).trans hq1).alloc _).trans hq2)
    obtain ⟨cx, fx⟩ := bx.2 1 _ rfl
    clear hq1 hq2
    go_wp2_with (go_at_call 17; refine (around_any _ _ _ (by omega) (by omega)).mono ?_; rintro e w' ⟨rfl, rfl⟩)
    have bx : Box _ _ [.int .i64 (x % 3 - 1), .int .i64 (aroundZ by_ 9 - 4), .int .i64 (x / 9)] := bx.set 1 (.int .i64 (aroundZ by_ 9 - 4)) (by simp)
    have bi := bi.set_far 1 (.int .i64 (aroundZ by_ 9 - 4)) (B' := w1.heap.size) (by omega)
    have HQ2 := Lib.hid (HQ.out.setCell (p := ⟨w1.heap.size, 1, none⟩) (by show w.heap.size ≤ w1.heap.size; omega) (.int .i64 (aroundZ by_ 9 - 4)))
    obtain ⟨c10, c11, c12⟩ := bx.soft3
    obtain ⟨c20, c21, c22⟩ := bi.soft3
    clear bx bi cx fx HQ
    refine wp_region_soft _ (Q.refl _) (by kernel_rfl) (by kernel_rfl) ?_
    repeat (go_big_quiet_step (first | (go_at_call 16; refine Calls.soft (iValidate_any _ _ _ _)) | (go_at_call 18; refine Calls.soft (rValidate_any _ _ _ _)) | (go_at_call 15; exact Calls.soft (lives_any _))))
    refine wpQuiet_nil ?_
    rintro _ ⟨⟨w4, hq4⟩, rfl⟩
    go_wp2
    go_ret
    exact ⟨rfl, HQ2.out.trans hq4⟩
  · have g0 : (aroundZ field 3 == 0) = false := by simp [hc]
    have g1 : (aroundZ field 3 == 1) = false := by simp [hc]
    clear hc HC
    go_enter Tryd.func4, Tryd.ntmps4
    go_wp2_with (fail)
    refine (of_any _ _ gn).mono ?_
    rintro e w1 ⟨rfl, hq1⟩
    rw [HX.out]
    have bi := (Box.new w [.int .i64 a, .int .i64 b, .int .i64 k] 23).q hq1
    go_wp2_with (fail)
    refine (iValidate_any _ _ _ _).mono ?_
    rintro e w2 ⟨rfl, hq2⟩
    have bx := (Box.new w1 [.int .i64 (x % 3 - 1), .int .i64 (x / 3 % 3 - 1), .int .i64 (x / 9)] 23).q hq2
    have bi := (bi.alloc (.cells #[.int .i64 (x % 3 - 1), .int .i64 (x / 3 % 3 - 1), .int .i64 (x / 9)] 23)).q hq2
    have hw1 : w.heap.size < w1.heap.size := by have := hq1.size; simp at this; omega
    have HQ := Lib.hid (((((Q.refl w).alloc _).trans hq1).alloc _).trans hq2)
    obtain ⟨cx, fx⟩ := bx.2 2 _ rfl
    clear hq1 hq2
    go_wp2_with (go_at_call 17; refine (around_any _ _ _ (by omega) (by omega)).mono ?_; rintro e w' ⟨rfl, rfl⟩)
    have bx : Box _ _ [.int .i64 (x % 3 - 1), .int .i64 (x / 3 % 3 - 1), .int .i64 (aroundZ by_ 9 - 4)] := bx.set 2 (.int .i64 (aroundZ by_ 9 - 4)) (by simp)
    have bi := bi.set_far 2 (.int .i64 (aroundZ by_ 9 - 4)) (B' := w1.heap.size) (by omega)
    have HQ2 := Lib.hid (HQ.out.setCell (p := ⟨w1.heap.size, 2, none⟩) (by show w.heap.size ≤ w1.heap.size; omega) (.int .i64 (aroundZ by_ 9 - 4)))
    obtain ⟨c10, c11, c12⟩ := bx.soft3
    obtain ⟨c20, c21, c22⟩ := bi.soft3
    clear bx bi cx fx HQ
    refine wp_region_soft _ (Q.refl _) (by kernel_rfl) (by kernel_rfl) ?_
    repeat (go_big_quiet_step (first | (go_at_call 16; refine Calls.soft (iValidate_any _ _ _ _)) | (go_at_call 18; refine Calls.soft (rValidate_any _ _ _ _)) | (go_at_call 15; exact Calls.soft (lives_any _))))
    refine wpQuiet_nil ?_
    rintro _ ⟨⟨w4, hq4⟩, rfl⟩
    go_wp2
    go_ret
    exact ⟨rfl, HQ2.out.trans hq4⟩
end Go.Proofs.YtmcibkmaigolmaaDoor
