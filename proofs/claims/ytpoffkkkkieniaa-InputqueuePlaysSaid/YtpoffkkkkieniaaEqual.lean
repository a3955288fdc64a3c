/- Contract: rows compared. -/
import Derived.Test.YtpoffkkkkieniaaRowsC
namespace Go.Proofs.Ytpoffkkkkieniaa
open Go Go.RowKit Go.BigFrame

attribute [local go_sem ↓] eqIn_in
attribute [local go_sem] same3_refl

def eqB (xs ys : List Int) : Bool := decide (xs = ys)
theorem equal_any (a b : Option Addr) (n m cap cap2 : Nat) (xs ys : List Int) (w : World) (hs : Sl w 3 a n cap (inCells xs)) (ht : Sl w 3 b m cap2 (inCells ys))
    (hx : ∀ c ∈ xs, 0 ≤ c ∧ c < 36) (hy : ∀ c ∈ ys, 0 ≤ c ∧ c < 36) :
    Calls Try.prog 25 #[.slice a n cap, .slice b m cap2] w fun e w' => e = .returned (.bool (eqB xs ys)) ∧ Q w w' := by
  have hlx : xs.length = n := by have := hs.1; rw [inCells_len] at this; omega
  have hly : ys.length = m := by have := ht.1; rw [inCells_len] at this; omega
  have hc1 : n ≤ maxLen := Nat.le_trans hs.2.1 hs.2.2.1
  have hc2 : m ≤ maxLen := Nat.le_trans ht.2.1 ht.2.2.1
  unfold maxLen at hc1 hc2
  by_cases hne : n = m
  · subst hne
    have HS := Lib.hid hs
    have HT := Lib.hid ht
    have HX := Lib.hid hlx
    have HY := Lib.hid hly
    have HCX := Lib.hid hx
    have HCY := Lib.hid hy
    clear hs ht hlx hly hx hy
    go_enter Try.func25, Try.ntmps25
    go_wp2_with (fail)
    go_loopw [5] (fun i wr => ∃ (k : Nat), k ≤ n ∧ i = .int .i64 k ∧ Q w wr ∧ xs.take k = ys.take k) (fun i _ => n - (intOf i).toNat)
    case atStart => exact ⟨0, by omega, rfl, Q.refl _, by simp⟩
    case round =>
      obtain ⟨k, hkn, rfl, hq, heq⟩ := hrel
      have HE := hid_eq heq
      clear heq
      by_cases h1 : k < n
      · have hzx : k < xs.length := by rw [HX.out]; exact h1
        have hzy : k < ys.length := by rw [HY.out]; exact h1
        obtain ⟨g, o, rfl, hg, hc⟩ := (HS.out.q hq).pos (by omega)
        obtain ⟨g', o', rfl, hg', hc'⟩ := (HT.out.q hq).pos (by omega)
        obtain ⟨e0, e1, e2⟩ := inCells_get xs k hzx
        obtain ⟨f0, f1, f2⟩ := inCells_get ys k hzy
        have c0 : wr.cell? ⟨g, o + k * 3, none⟩ = some _ := hc _ _ e0
        have c1 : wr.cell? ⟨g, o + k * 3 + 1, none⟩ = some _ := hc _ _ e1
        have c2 : wr.cell? ⟨g, o + k * 3 + 2, none⟩ = some _ := hc _ _ e2
        have d0 : wr.cell? ⟨g', o' + k * 3, none⟩ = some _ := hc' _ _ f0
        have d1 : wr.cell? ⟨g', o' + k * 3 + 1, none⟩ = some _ := hc' _ _ f1
        have d2 : wr.cell? ⟨g', o' + k * 3 + 2, none⟩ = some _ := hc' _ _ f2
        have hi : (k : Int) < (n : Int) := by omega
        by_cases hxy : xs[k] = ys[k]
        · have HN := hid_eq (show xs.take (k + 1) = ys.take (k + 1) by rw [take_snoc_get _ _ hzx, take_snoc_get _ _ hzy, hxy, HE.out])
          rw [← hxy] at d0 d1 d2
          generalize xs[k] = x at *
          clear hc hc' hzx hzy e0 e1 e2 f0 f1 f2 hxy
          have HQ := Lib.hid hq
          clear hq
          go_wp2_with (fail)
          go_quiet (fail)
          go_wp2
          go_roundw
          case rel => exact ⟨k + 1, by omega, by go_num, HQ.out.drewN _, HN.out⟩
          case measure => simp [intOf]; omega
        · have HN := Lib.hid (show eqB xs ys = false by simp [eqB]; intro e; subst e; exact hxy rfl)
          obtain ⟨x0, x1⟩ := HCX.out _ (List.getElem_mem hzx)
          obtain ⟨y0, y1⟩ := HCY.out _ (List.getElem_mem hzy)
          have h3 : same3 (xs[k] % 3 - 1) (xs[k] / 3 % 3 - 1) (xs[k] / 9) (ys[k] % 3 - 1) (ys[k] / 3 % 3 - 1) (ys[k] / 9) = false := by rw [same3_code _ _ x0 y0]; simpa using hxy
          generalize xs[k] = x at *
          generalize ys[k] = y at *
          clear hc hc' hzx hzy e0 e1 e2 f0 f1 f2
          have HQ := Lib.hid hq
          clear hq
          go_wp2_with (fail)
          go_quiet (fail)
          go_wp2
          go_ret
          rw [HN.out]
          exact ⟨rfl, HQ.out.drewN _⟩
      · have e1 : k = n := by omega
        subst e1
        have HN := Lib.hid (show eqB xs ys = true by
          have := HE.out
          rw [List.take_of_length_le (by rw [HX.out]; omega), List.take_of_length_le (by rw [HY.out]; omega)] at this
          simp [eqB, this])
        go_wp2
        go_ret
        rw [HN.out]
        exact ⟨rfl, hq⟩
  · have HN := Lib.hid (show eqB xs ys = false by simp [eqB]; intro e; subst e; omega)
    have hnm : ((n : Int) != (m : Int)) = true := by simp; omega
    clear hs ht hlx hly hx hy
    go_enter Try.func25, Try.ntmps25
    go_wp2
    go_ret
    rw [HN.out]
    exact ⟨rfl, Q.refl _⟩
end Go.Proofs.Ytpoffkkkkieniaa
