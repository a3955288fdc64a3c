/- Plain laws of the queue: what Advance does. -/
import Derived.Test.YtpoffkkkkieniaaQM
namespace Go.Proofs.Ytpoffkkkkieniaa
open Go Go.RowKit

/-- is tick j fixed now, once all earlier ones are? -/
def dueAt (s : QS) (now : Int) (j : Nat) : Bool := (List.range s.k).all (fun p => ((s.acc j).getD p none).isSome) || decide ((j : Int) + s.wt ≤ now)
theorem due_at (s : QS) (now : Int) : due s now = dueAt s now s.tks.length := rfl
/-- the state with only the first j ticks fixed -/
def upTo (s : QS) (l : List (List Int × List Bool)) : QS := { s with tks := l }
structure AdvIs (s : QS) (now : Int) (s' : QS) : Prop where
  k : s'.k = s.k
  wt : s'.wt = s.wt
  acc : s'.acc = s.acc
  le : s.tks.length ≤ s'.tks.length
  pre : s'.tks.take s.tks.length = s.tks
  stop : 6000 ≤ s'.tks.length ∨ dueAt s now s'.tks.length = false
  row : ∀ j, s.tks.length ≤ j → j < s'.tks.length → dueAt s now j = true ∧ s'.tks[j]? = some (fixRow (upTo s (s'.tks.take j)))
theorem advYtpoffkkkkieniaais : ∀ (n : Nat) (s : QS) (now : Int), s.tks.length + n = 6000 → AdvIs s now (advN n s now)
  | 0, s, now, hl => by
    refine ⟨rfl, rfl, rfl, Nat.le_refl _, ?_, .inl (by show 6000 ≤ s.tks.length; omega), fun j h1 h2 => ?_⟩
    · show s.tks.take s.tks.length = s.tks
      exact List.take_length
    · replace h2 : j < s.tks.length := h2
      omega
  | n + 1, s, now, hl => by
    unfold advN
    split
    · rename_i hd
      have ih := advYtpoffkkkkieniaais n (fixT s) now (by simp [fixT]; omega)
      have hfl : (fixT s).tks.length = s.tks.length + 1 := by simp [fixT]
      have hle := ih.le
      rw [hfl] at hle
      have hpre := ih.pre
      rw [hfl] at hpre
      have hts : (advN n (fixT s) now).tks.take s.tks.length = s.tks := by
        have := congrArg (List.take s.tks.length) hpre
        rw [List.take_take, Nat.min_eq_left (by omega)] at this
        rw [this]
        simp [fixT]
      refine ⟨ih.k, ih.wt, ih.acc, by omega, hts, ih.stop, fun j h1 h2 => ?_⟩
      by_cases hj : j = s.tks.length
      · subst hj
        refine ⟨by rw [← due_at]; exact hd, ?_⟩
        rw [hts]
        have hg : (advN n (fixT s) now).tks[s.tks.length]? = ((advN n (fixT s) now).tks.take (s.tks.length + 1))[s.tks.length]? := by rw [List.getElem?_take]; simp
        rw [hg, hpre]
        simp [fixT, upTo]
      · exact ih.row j (by rw [hfl]; omega) h2
    · rename_i hd
      refine ⟨rfl, rfl, rfl, Nat.le_refl _, List.take_length, .inr (by rw [← due_at]; simpa using hd), fun j h1 h2 => by omega⟩
theorem adv_is (s : QS) (now : Int) (h : s.tks.length ≤ 6000) : AdvIs s now (advT s now) := advYtpoffkkkkieniaais _ s now (by omega)

/-- where nothing was accepted, only time fixes a tick -/
theorem dueAt_empty (s : QS) (now : Int) (j : Nat) (hk : 1 ≤ s.k) (ha : s.acc j = none8) : dueAt s now j = decide ((j : Int) + s.wt ≤ now) := by
  unfold dueAt
  have : (List.range s.k).all (fun p => ((s.acc j).getD p none).isSome) = false := by
    rw [List.all_eq_false]
    exact ⟨0, List.mem_range.2 (by omega), by rw [ha]; decide⟩
  rw [this, Bool.false_or]
theorem adv_empty (s : QS) (now : Int) (hk : 1 ≤ s.k) (ha : ∀ t, s.acc t = none8) (h6 : s.tks.length ≤ 6000) :
    ((advT s now).tks.length : Int) = max (s.tks.length : Int) (min 6000 (now - s.wt + 1)) ∧ (advT s now).acc = s.acc ∧ (advT s now).k = s.k ∧ (advT s now).wt = s.wt := by
  have h := adv_is s now h6
  refine ⟨?_, h.acc, h.k, h.wt⟩
  have hst := h.stop
  have hle := h.le
  have hmax : (advT s now).tks.length ≤ 6000 := by
    rcases Nat.lt_or_ge 6000 (advT s now).tks.length with hgt | hle'
    · exfalso
      have : ∀ (n : Nat) (s : QS), s.tks.length + n ≤ 6000 → (advN n s now).tks.length ≤ 6000 := by
        intro n
        induction n with
        | zero => intro s hs; exact hs
        | succ n ih =>
          intro s hs
          unfold advN
          split
          · exact ih (fixT s) (by simp [fixT]; omega)
          · omega
      have := this (6000 - s.tks.length) s (by omega)
      unfold advT at hgt
      omega
    · exact hle'
  rw [dueAt_empty s now _ hk (ha _)] at hst
  have hst' : 6000 ≤ (advT s now).tks.length ∨ ¬ (((advT s now).tks.length : Int) + s.wt ≤ now) := hst.imp id (fun e => by simpa using e)
  by_cases hz : s.tks.length < (advT s now).tks.length
  · have hr := (h.row ((advT s now).tks.length - 1) (by omega) (by omega)).1
    rw [dueAt_empty s now _ hk (ha _)] at hr
    have hr' : (((advT s now).tks.length - 1 : Nat) : Int) + s.wt ≤ now := by simpa using hr
    omega
  · omega
theorem adv_len_le (s : QS) (ok : OkS s) (now : Int) : (advT s now).tks.length ≤ 6000 := (ok_adv ok now).n6000
/-- a row whose inputs were all given -/
theorem fixRow_given (s : QS) (h : (List.range s.k).all (fun p => ((s.acc s.tks.length).getD p none).isSome) = true) : ∀ b ∈ (fixRow s).2, b = false := by
  intro b hb
  obtain ⟨p, hp, rfl⟩ := List.mem_map.1 hb
  have := List.all_eq_true.1 h p hp
  unfold fixM
  rw [this]; rfl
/-- behind Advance: what is due is fixed; what was fixed ahead of its time was given -/
theorem deadline_law (s : QS) (ok : OkS s) (now : Int) (hn : now ≤ 1000) : now - s.wt + 1 ≤ (advT s now).tks.length ∧ s.tks.length ≤ (advT s now).tks.length ∧
    ∀ t x, s.tks.length ≤ t → now - s.wt + 1 ≤ (t : Int) → (advT s now).tks[t]? = some x → ∀ b ∈ x.2, b = false := by
  have h := adv_is s now ok.n6000
  refine ⟨?_, h.le, fun t x h1 h2 hx => ?_⟩
  · rcases h.stop with hs | hs
    · omega
    · unfold dueAt at hs
      simp only [Bool.or_eq_false_iff, decide_eq_false_iff_not] at hs
      omega
  · have ht : t < (advT s now).tks.length := (List.getElem?_eq_some_iff.1 hx).1
    obtain ⟨hd, hr⟩ := h.row t h1 ht
    rw [hx] at hr
    cases hr
    refine fixRow_given _ ?_
    have hlt : ((advT s now).tks.take t).length = t := by rw [List.length_take]; omega
    show (List.range s.k).all (fun p => ((s.acc ((advT s now).tks.take t).length).getD p none).isSome) = true
    rw [hlt]
    unfold dueAt at hd
    rw [decide_eq_false (by omega), Bool.or_false] at hd
    exact hd
end Go.Proofs.Ytpoffkkkkieniaa
