/- Contracts of the reference's input functions that other chapters reach. -/
import Derived.Test.YtpoffkkkkieniaaRowsC
namespace Go.Proofs.Ytpoffkkkkieniaa
open Go Go.RowKit Go.BigFrame

theorem errV_code (x : Int) (h0 : 0 ≤ x) (h1 : x < 36) : errV (x % 3 - 1) (x / 3 % 3 - 1) (x / 9) = 0 := by
  have a : inB (x % 3 - 1) (-1) 1 = true := by simp [inB]; omega
  have b : inB (x / 3 % 3 - 1) (-1) 1 = true := by simp [inB]; omega
  have c : inB (x / 9) 0 3 = true := by simp [inB]; omega
  simp [errV, a, b, c]

theorem rValidate_any (a b k : Int) (w : World) :
    Calls Try.prog 23 #[.agg #[.int .i64 a, .int .i64 b, .int .i64 k]] w fun e w' => e = .returned (.int .i64 (errV a b k)) ∧ Q w w' := by
  by_cases h1 : a < -1
  · have HE := Lib.hid (show errV a b k = 1 by simp [errV, inB]; omega)
    go_enter Try.func23, Try.ntmps23
    go_wp2
    go_ret
    rw [HE.out]
    exact ⟨rfl, by repeat' (first | exact Q.refl _ | refine Q.drew ?_ | refine Q.alloc ?_ _ | refine Q.setCell ?_ (by simp) _)⟩
  · by_cases h2 : 1 < a
    · have HE := Lib.hid (show errV a b k = 1 by simp [errV, inB]; omega)
      go_enter Try.func23, Try.ntmps23
      go_wp2
      go_ret
      rw [HE.out]
      exact ⟨rfl, by repeat' (first | exact Q.refl _ | refine Q.drew ?_ | refine Q.alloc ?_ _ | refine Q.setCell ?_ (by simp) _)⟩
    · by_cases h3 : b < -1
      · have HE := Lib.hid (show errV a b k = 1 by simp [errV, inB]; omega)
        go_enter Try.func23, Try.ntmps23
        go_wp2
        go_ret
        rw [HE.out]
        exact ⟨rfl, by repeat' (first | exact Q.refl _ | refine Q.drew ?_ | refine Q.alloc ?_ _ | refine Q.setCell ?_ (by simp) _)⟩
      · by_cases h4 : 1 < b
        · have HE := Lib.hid (show errV a b k = 1 by simp [errV, inB]; omega)
          go_enter Try.func23, Try.ntmps23
          go_wp2
          go_ret
          rw [HE.out]
          exact ⟨rfl, by repeat' (first | exact Q.refl _ | refine Q.drew ?_ | refine Q.alloc ?_ _ | refine Q.setCell ?_ (by simp) _)⟩
        · by_cases h5 : k < 0
          · have HE := Lib.hid (show errV a b k = 1 by simp [errV, inB]; omega)
            go_enter Try.func23, Try.ntmps23
            go_wp2
            go_ret
            rw [HE.out]
            exact ⟨rfl, by repeat' (first | exact Q.refl _ | refine Q.drew ?_ | refine Q.alloc ?_ _ | refine Q.setCell ?_ (by simp) _)⟩
          · by_cases h6 : 3 < k
            · have HE := Lib.hid (show errV a b k = 1 by simp [errV, inB]; omega)
              go_enter Try.func23, Try.ntmps23
              go_wp2
              go_ret
              rw [HE.out]
              exact ⟨rfl, by repeat' (first | exact Q.refl _ | refine Q.drew ?_ | refine Q.alloc ?_ _ | refine Q.setCell ?_ (by simp) _)⟩
            · have HE := Lib.hid (show errV a b k = 0 by simp [errV, inB]; omega)
              go_enter Try.func23, Try.ntmps23
              go_wp2
              go_ret
              rw [HE.out]
              exact ⟨rfl, by repeat' (first | exact Q.refl _ | refine Q.drew ?_ | refine Q.alloc ?_ _ | refine Q.setCell ?_ (by simp) _)⟩
theorem Box.set {w : World} {B : Nat} {vs : List Value} (h : Box w B vs) (i : Nat) (u : Value) (hi : i < vs.length) : Box (w.setCell ⟨B, i, none⟩ u) B (vs.set i u) := by
  refine ⟨by simpa using h.1, fun k v hv => ?_⟩
  rw [World.frozen?_setCell]
  by_cases hk : k = i
  · subst hk
    simp [hi] at hv
    subst hv
    obtain ⟨c, f⟩ := h.2 k vs[k] (by simp [hi])
    exact ⟨World.cell?_setCell_same _ _ _ c, f⟩
  · rw [List.getElem?_set_ne (Ne.symm hk)] at hv
    obtain ⟨c, f⟩ := h.2 k v hv
    exact ⟨(World.cell?_setCell_other _ _ _ _ (by simp)).trans c, f⟩
theorem Box.set_far {w : World} {B B' : Nat} {vs : List Value} (h : Box w B vs) (i : Nat) (u : Value) (hb : B ≠ B') : Box (w.setCell ⟨B', i, none⟩ u) B vs := by
  refine ⟨by simpa using h.1, fun k v hv => ?_⟩
  rw [World.frozen?_setCell]
  obtain ⟨c, f⟩ := h.2 k v hv
  exact ⟨(World.cell?_setCell_other _ _ _ _ (by simp)).trans c, f⟩

theorem rPredict_any (a b k : Int) (w : World) :
    Calls Try.prog 28 #[.agg #[.int .i64 a, .int .i64 b, .int .i64 k]] w fun e w' => e = .returned (.agg #[.int .i64 a, .int .i64 b, .int .i64 0]) ∧ Q w w' := by
  go_enter Try.func28, Try.ntmps28
  go_wp2
  go_returns
  exact ⟨rfl, by repeat' (first | exact Q.refl _ | refine Q.drew ?_ | refine Q.alloc ?_ _ | refine Q.setCell ?_ (by simp) _)⟩
end Go.Proofs.Ytpoffkkkkieniaa
