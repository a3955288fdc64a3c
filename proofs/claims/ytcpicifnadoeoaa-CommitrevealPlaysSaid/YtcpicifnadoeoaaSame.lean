/- Contracts: equal slices; the first bytes of a string. -/
import Derived.Test.YtcpicifnadoeoaaRowsC
namespace Go.Proofs.Ytcpicifnadoeoaa
open Go Go.RowKit Go.BigFrame

/-- are they equal? -/
def sameL (xs ys : List Int) : Bool := decide (xs = ys)
theorem sameInts_any (a b : Option Addr) (n m cap cap2 : Nat) (xs ys : List Int) (w : World) (hs : Sl w 1 a n cap (xs.map (Value.int .i64))) (ht : Sl w 1 b m cap2 (ys.map (Value.int .i64))) :
    Calls Try.prog 21 #[.slice a n cap, .slice b m cap2] w fun e w' => e = .returned (.bool (sameL xs ys)) ∧ Q w w' := by
  have hlx : xs.length = n := by have := hs.1; simpa using this
  have hly : ys.length = m := by have := ht.1; simpa using this
  have hc1 : n ≤ maxLen := Nat.le_trans hs.2.1 hs.2.2.1
  have hc2 : m ≤ maxLen := Nat.le_trans ht.2.1 ht.2.2.1
  unfold maxLen at hc1 hc2
  by_cases hne : n = m
  · subst hne
    have HS := Lib.hid hs
    have HT := Lib.hid ht
    have HX := Lib.hid hlx
    have HY := Lib.hid hly
    clear hs ht hlx hly
    go_enter Try.func21, Try.ntmps21
    go_wp2_with (fail)
    go_loopw [5] (fun i wr => ∃ (k : Nat), k ≤ n ∧ i = .int .i64 k ∧ Q w wr ∧ xs.take k = ys.take k) (fun i _ => n - (intOf i).toNat)
    case atStart => exact ⟨0, by omega, rfl, Q.refl _, by simp⟩
    case round =>
      obtain ⟨k, hkn, rfl, hq, heq⟩ := hrel
      have HE := hid_eq heq
      clear heq
      by_cases h1 : k < n
      · have hzx : k < xs.length := by rw [HX.out]; exact h1
        have hzy : k < ys.length := by rw [HY.out]; exact h1
        obtain ⟨g, o, rfl, hg, hc⟩ := (HS.out.q hq).pos (by omega)
        obtain ⟨g', o', rfl, hg', hc'⟩ := (HT.out.q hq).pos (by omega)
        have c0 : wr.cell? ⟨g, o + k, none⟩ = some (.int .i64 xs[k]) := hc _ _ (by simp [hzx])
        have d0 : wr.cell? ⟨g', o' + k, none⟩ = some (.int .i64 ys[k]) := hc' _ _ (by simp [hzy])
        have hi : (k : Int) < (n : Int) := by omega
        by_cases hxy : xs[k] = ys[k]
        · have HN := hid_eq (show xs.take (k + 1) = ys.take (k + 1) by rw [take_snoc_get _ _ hzx, take_snoc_get _ _ hzy, hxy, HE.out])
          rw [← hxy] at d0
          generalize xs[k] = x at *
          clear hc hc' hzx hzy hxy
          have HQ := Lib.hid hq
          clear hq
          go_wp2_with (fail)
          go_quiet (fail)
          go_wp2
          go_roundw
          case rel => exact ⟨k + 1, by omega, by go_num, HQ.out.drewN _, HN.out⟩
          case measure => simp [intOf]; omega
        · have HN := Lib.hid (show sameL xs ys = false by simp [sameL]; intro e; subst e; exact hxy rfl)
          have hb : (xs[k] != ys[k]) = true := by simpa using hxy
          generalize xs[k] = x at *
          generalize ys[k] = y at *
          clear hc hc' hzx hzy
          have HQ := Lib.hid hq
          clear hq
          go_wp2_with (fail)
          go_quiet (fail)
          go_wp2
          go_ret
          rw [HN.out]
          exact ⟨rfl, HQ.out.drewN _⟩
      · have e1 : k = n := by omega
        subst e1
        have HN := Lib.hid (show sameL xs ys = true by
          have := HE.out
          rw [List.take_of_length_le (by rw [HX.out]; omega), List.take_of_length_le (by rw [HY.out]; omega)] at this
          simp [sameL, this])
        go_wp2
        go_ret
        rw [HN.out]
        exact ⟨rfl, hq⟩
  · have HN := Lib.hid (show sameL xs ys = false by simp [sameL]; intro e; subst e; omega)
    have hnm : ((n : Int) != (m : Int)) = true := by simp; omega
    clear hs ht hlx hly
    go_enter Try.func21, Try.ntmps21
    go_wp2
    go_ret
    rw [HN.out]
    exact ⟨rfl, Q.refl _⟩

end Go.Proofs.Ytcpicifnadoeoaa
