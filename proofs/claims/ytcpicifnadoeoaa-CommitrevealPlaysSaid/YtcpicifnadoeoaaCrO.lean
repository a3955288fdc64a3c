/- Contract: Has; how an operation changes one player's state. -/
import Derived.Test.YtcpicifnadoeoaaCrN
namespace Go.Proofs.Ytcpicifnadoeoaa
open Go Go.RowKit Go.BigFrame

def hasL (xs : List Int) (z : Int) : Bool := xs.contains z
theorem has_any (a : Option Addr) (n cap : Nat) (xs : List Int) (z : Int) (w : World) (hs : Sl w 1 a n cap (xs.map (Value.int .i64))) :
    Calls Try.prog 24 #[.slice a n cap, .int .i64 z] w fun e w' => e = .returned (.bool (hasL xs z)) ∧ Q w w' := by
  have hlx : xs.length = n := by have := hs.1; simpa using this
  have hc1 : n ≤ maxLen := Nat.le_trans hs.2.1 hs.2.2.1
  unfold maxLen at hc1
  have HS := Lib.hid hs
  have HX := Lib.hid hlx
  clear hs hlx
  go_enter Try.func24, Try.ntmps24
  go_wp2_with (fail)
  go_loopw [5] (fun i wr => ∃ (k : Nat), k ≤ n ∧ i = .int .i64 k ∧ Q w wr ∧ hasL xs z = hasL (xs.drop k) z) (fun i _ => n - (intOf i).toNat)
  case atStart => exact ⟨0, by omega, rfl, Q.refl _, by simp⟩
  case round =>
    obtain ⟨k, hkn, rfl, hq, heq⟩ := hrel
    have HE := Lib.hid heq
    clear heq
    by_cases h1 : k < n
    · have hzx : k < xs.length := by rw [HX.out]; exact h1
      obtain ⟨g, o, rfl, hg, hc⟩ := (HS.out.q hq).pos (by omega)
      have c0 : wr.cell? ⟨g, o + k, none⟩ = some (.int .i64 xs[k]) := hc _ _ (by simp [hzx])
      have hd : xs.drop k = xs[k] :: xs.drop (k + 1) := List.drop_eq_getElem_cons hzx
      have HN := Lib.hid (show hasL xs z = (z == xs[k] || hasL (xs.drop (k + 1)) z) by rw [HE.out]; unfold hasL; rw [hd, List.contains_cons])
      generalize xs[k] = x at *
      have HQ := Lib.hid hq
      clear hc hd hzx hq
      by_cases hxy : x = z
      · have hb : (x == z) = true := by simpa using hxy
        have HT := Lib.hid (show hasL xs z = true by rw [HN.out]; simp [hxy])
        clear hxy
        go_wp2
        go_ret
        rw [HT.out]
        exact ⟨rfl, HQ.out⟩
      · have hb : (x == z) = false := by simpa using hxy
        have HT := Lib.hid (show hasL xs z = hasL (xs.drop (k + 1)) z by rw [HN.out]; simp; intro e; exact absurd e.symm hxy)
        clear hxy
        go_wp2_with (fail)
        go_roundw
        case rel => exact ⟨k + 1, by omega, by go_num, HQ.out, HT.out⟩
        case measure => simp [intOf]; omega
    · have HT := Lib.hid (show hasL xs z = false by rw [HE.out, List.drop_of_length_le (by rw [HX.out]; omega)]; rfl)
      go_wp2
      go_ret
      rw [HT.out]
      exact ⟨rfl, hq⟩

theorem getS_set (sts : List St) (i : Nat) (y : St) (q : Int) (hi : i < sts.length) : getS (sts.set i y) q = if q.toNat = i then y else getS sts q := by
  unfold getS
  rw [List.getD, List.getD, List.getElem?_set]
  by_cases h : q.toNat = i
  · rw [if_pos h.symm, if_pos h, if_pos hi]; rfl
  · rw [if_neg (Ne.symm h), if_neg h]
theorem commitE_zero {k p : Int} {o : Bool} {sts : List St} (h : commitE k o sts p = 0) : 0 ≤ p ∧ p < k ∧ o = false ∧ (getS sts p).com = false := by
  unfold commitE at h
  split at h
  · cases h
  · rename_i hp
    split at h
    · cases h
    · rename_i ho
      split at h
      · cases h
      · rename_i hc
        exact ⟨by omega, by omega, by simpa using ho, by simpa using hc⟩
theorem revealE_zero {t k p a b f n : Int} {o : Bool} {sts : List St} (h : revealE t k o sts p a b f n = 0) : 0 ≤ p ∧ p < k ∧ (getS sts p).com = true ∧ (getS sts p).rev = false := by
  unfold revealE at h
  split at h
  · cases h
  · rename_i hp
    split at h
    · cases h
    · split at h
      · cases h
      · rename_i hc
        split at h
        · cases h
        · rename_i hr
          exact ⟨by omega, by omega, by simpa using hc, by simpa using hr⟩
/-- an operation of another player leaves a player's state -/
theorem does_other {t k : Int} {o : Bool} {sts : List St} (a : Ac) (q : Int) (hq : 0 ≤ q) (h : a.p ≠ q) (hk : k ≤ sts.length) : getS (doesT t k o sts a) q = getS sts q := by
  unfold doesT
  split
  · unfold commitT
    split
    · rename_i h0
      obtain ⟨p0, p1, _⟩ := commitE_zero h0
      rw [getS_set _ _ _ _ (by omega), if_neg (by omega)]
    · rfl
  · split
    · unfold revealT
      split
      · rename_i h0
        obtain ⟨p0, p1, _⟩ := revealE_zero h0
        rw [getS_set _ _ _ _ (by omega), if_neg (by omega)]
      · rfl
    · rfl
theorem commitE_congr {k p : Int} {o : Bool} {s s' : List St} (h : getS s p = getS s' p) : commitE k o s p = commitE k o s' p := by unfold commitE; rw [h]
theorem revealE_congr {t k p a b f n : Int} {o : Bool} {s s' : List St} (h : getS s p = getS s' p) : revealE t k o s p a b f n = revealE t k o s' p a b f n := by unfold revealE; rw [h]
/-- what an operation gives depends only on the player's own state -/
theorem doesE_congr {t k : Int} {o : Bool} {s s' : List St} (a : Ac) (h : getS s a.p = getS s' a.p) : doesE t k o s a = doesE t k o s' a := by
  unfold doesE
  rw [commitE_congr h, revealE_congr h]
theorem doesT_congr {t k : Int} {o : Bool} {s s' : List St} (a : Ac) (h : getS s a.p = getS s' a.p) (hl : s.length = s'.length) (hk : k ≤ s.length) : getS (doesT t k o s a) a.p = getS (doesT t k o s' a) a.p := by
  unfold doesT
  split
  · unfold commitT
    rw [commitE_congr h]
    split
    · rename_i h0
      obtain ⟨p0, p1, _⟩ := commitE_zero h0
      rw [getS_set _ _ _ _ (by omega), getS_set _ _ _ _ (by omega), if_pos rfl, if_pos rfl]
    · exact h
  · split
    · unfold revealT
      rw [revealE_congr h]
      split
      · rename_i h0
        obtain ⟨p0, p1, _⟩ := revealE_zero h0
        rw [getS_set _ _ _ _ (by omega), getS_set _ _ _ _ (by omega), if_pos rfl, if_pos rfl, h]
      · exact h
    · exact h
theorem faultL_has (sts : List St) (i : Nat) (hi : i < sts.length) : hasL (faultL sts) i = !(getS sts i).rev := by
  have : ∀ (l : List St) (b : Nat) (i : Nat), i < l.length → (faultFrom l b).contains ((b + i : Nat) : Int) = !(getS l i).rev := by
    intro l
    induction l with
    | nil => intro b i h; simp at h
    | cons s r ih =>
      intro b i h
      have hlow : ∀ (l : List St) (b c : Nat), c < b → (faultFrom l b).contains (c : Int) = false := by
        intro l
        induction l with
        | nil => intro b c _; rfl
        | cons s r ih =>
          intro b c h
          simp only [faultFrom]
          split
          · exact ih (b + 1) c (by omega)
          · rw [List.contains_cons, ih (b + 1) c (by omega)]
            simp
            omega
      cases i with
      | zero =>
        simp only [faultFrom, getS, Nat.add_zero]
        have hl := hlow r (b + 1) b (by omega)
        cases hr : s.rev
        · rw [if_neg (by simp), List.contains_cons]; simp [hr]
        · rw [if_pos rfl, hl]; simp [hr]
      | succ i =>
        have := ih (b + 1) i (by simpa using h)
        simp only [faultFrom]
        rw [show (b + (i + 1) : Nat) = b + 1 + i by omega]
        split
        · rw [this]; simp [getS]
        · rw [List.contains_cons, this]
          have hne : (((b + 1 + i : Nat) : Int) == (b : Int)) = false := by simp; omega
          rw [hne]; simp [getS]
  have := this sts 0 i hi
  simpa [faultL, hasL] using this
theorem resL_get (sts : List St) (last : List Int) (i : Nat) (hi : i < sts.length) : (resL sts last)[i]? = some (resC (getS sts i) last i) := by
  have : ∀ (l : List St) (b i : Nat), i < l.length → (resFrom l last b)[i]? = some (resC (getS l i) last (b + i)) := by
    intro l
    induction l with
    | nil => intro b i h; simp at h
    | cons s r ih =>
      intro b i h
      cases i with
      | zero => simp [resFrom, getS]
      | succ i =>
        have := ih (b + 1) i (by simpa using h)
        simp only [resFrom, List.getElem?_cons_succ]
        rw [this]
        simp [getS]
        congr 1
        omega
  have := this sts 0 i hi
  rw [Nat.zero_add] at this
  exact this
theorem getS_take (sts : List St) (n i : Nat) (h : i < n) : getS (sts.take n) i = getS sts i := by
  unfold getS
  rw [List.getD, List.getD, List.getElem?_take, if_pos (by simpa using h)]
end Go.Proofs.Ytcpicifnadoeoaa
