/- Every accepted input is the one that is fixed: plain law. -/
import Derived.Test.YtpoffkkkkieniaaQN
namespace Go.Proofs.Ytpoffkkkkieniaa
open Go Go.RowKit

/-- every fixed tick is what was accepted for it -/
def Inv (s : QS) : Prop := ∀ (j : Nat) x, s.tks[j]? = some x → x = fixRow (upTo s (s.tks.take j))
theorem fixRow_acc {a b : QS} {l : List (List Int × List Bool)} (hk : a.k = b.k) (ha : a.acc l.length = b.acc l.length) : fixRow (upTo a l) = fixRow (upTo b l) := by
  have h1 : ∀ p, fixI (upTo a l) p = fixI (upTo b l) p := fun p => by
    show (match (a.acc l.length).getD p none with | some c => c | none => prevC (upTo a l) p % 9) = _
    rw [ha]; rfl
  have h2 : ∀ p, fixM (upTo a l) p = fixM (upTo b l) p := fun p => by
    show (!((a.acc l.length).getD p none).isSome) = _
    rw [ha]; rfl
  unfold fixRow
  rw [show (upTo a l).k = (upTo b l).k from hk, funext h1, funext h2]
theorem inv0 (k wt : Nat) : Inv (qs0 k wt) := fun j x h => by simp [qs0] at h
theorem inv_adv {s : QS} (h : Inv s) (ok : OkS s) (now : Int) : Inv (advT s now) := by
  have a := adv_is s now ok.n6000
  intro j x hx
  by_cases hj : j < s.tks.length
  · have hs : s.tks[j]? = some x := by
      have : ((advT s now).tks.take s.tks.length)[j]? = some x := by rw [List.getElem?_take, if_pos hj]; exact hx
      rw [a.pre] at this
      exact this
    have ht : (advT s now).tks.take j = s.tks.take j := by
      have := congrArg (List.take j) a.pre
      rw [List.take_take, Nat.min_eq_left (by omega)] at this
      exact this
    rw [ht, h j x hs]
    exact fixRow_acc a.k.symm (by rw [a.acc])
  · have hl : j < (advT s now).tks.length := (List.getElem?_eq_some_iff.1 hx).1
    have := (a.row j (by omega) hl).2
    rw [hx] at this
    rw [Option.some.inj this]
    exact fixRow_acc a.k.symm (by rw [a.acc])
theorem inv_off {s : QS} (h : Inv s) (now p t a b f : Int) : Inv (offT s now p t a b f) := by
  unfold offT
  split
  · rename_i hz
    obtain ⟨_, _, _, _, _, _, hl, _⟩ := off_zero hz
    intro j x hx
    have hj : j < s.tks.length := (List.getElem?_eq_some_iff.1 hx).1
    refine (h j x hx).trans (fixRow_acc rfl ?_)
    have hlt : (s.tks.take j).length = j := by rw [List.length_take]; omega
    show s.acc (s.tks.take j).length = (if ((s.tks.take j).length : Int) = t then _ else s.acc (s.tks.take j).length)
    rw [hlt, if_neg (by omega)]
  · exact h
/-- the last of the calls for a player and a tick -/
def lastM (L : List A22) (p t : Int) : Option A22 := L.foldl (fun r a => if a.p = p ∧ a.t = t then some a else r) none
theorem lastM_snoc (L : List A22) (a : A22) (p t : Int) : lastM (L ++ [a]) p t = if a.p = p ∧ a.t = t then some a else lastM L p t := by
  unfold lastM
  rw [List.foldl_append]
  rfl
def cOf (a : A22) : Int := codeOf a.a a.b a.f
structure AccL (s : QS) (L : List A22) : Prop where
  acc : ∀ (t : Int) (p : Nat), (s.acc t).getD p none = (lastM L p t).map cOf
  ok : ∀ a ∈ L, errV a.a a.b a.f = 0
theorem accL0 (k wt : Nat) : AccL (qs0 k wt) [] := ⟨fun t p => by
    show (List.replicate 8 none).getD p none = _
    rw [List.getD, List.getElem?_replicate]
    split <;> rfl, fun a h => by cases h⟩
theorem accL_adv {s : QS} {L : List A22} (h : AccL s L) (ok : OkS s) (now : Int) : AccL (advT s now) L := ⟨fun t p => by rw [(adv_is s now ok.n6000).acc]; exact h.acc t p, h.ok⟩
theorem accL_off {s : QS} {L : List A22} (h : AccL s L) (ok : OkS s) (a : A22) (hz : offE s a.now a.p a.t a.a a.b a.f = 0) : AccL (offT s a.now a.p a.t a.a a.b a.f) (L ++ [a]) := by
  obtain ⟨z0, z1, z2, _⟩ := off_zero hz
  have k8 := ok.k8
  unfold offT
  rw [if_pos hz]
  refine ⟨fun t p => ?_, fun b hb => ?_⟩
  · rw [acc_get s a.t t _ p _ (by rw [ok.len]; omega), lastM_snoc]
    by_cases hc : t = a.t ∧ p = a.p.toNat
    · rw [if_pos hc, if_pos ⟨by rw [hc.2]; omega, hc.1.symm⟩]
      rfl
    · rw [if_neg hc, if_neg (fun h => hc ⟨h.2.symm, by omega⟩)]
      exact h.acc t p
  · rcases List.mem_append.1 hb with hb | hb
    · exact h.ok b hb
    · rw [List.mem_singleton.1 hb]; exact z2
theorem offT_no {s : QS} {now p t a b f : Int} (h : offE s now p t a b f ≠ 0) : offT s now p t a b f = s := by unfold offT; rw [if_neg h]
/-- the inputs of the tick before tick t, as the law keeps them -/
def lastL (s : QS) (t : Nat) (p : Nat) : Int := prevC (upTo s (s.tks.take t)) p
theorem lastL_far {s : QS} (ok : OkS s) (t p : Nat) (hp : s.k ≤ p) : lastL s t p = 4 := by
  unfold lastL prevC
  split
  · rfl
  · rename_i x hx
    have hm : x ∈ s.tks := List.mem_of_mem_take (List.mem_of_getLast? hx)
    have := (ok.tk1 x hm).1
    simp [List.getD, List.getElem?_eq_none (show x.1.length ≤ p by omega)]
theorem lastL_code {s : QS} (ok : OkS s) (t p : Nat) : 0 ≤ lastL s t p ∧ lastL s t p < 36 := by
  unfold lastL prevC
  split
  · decide
  · rename_i x hx
    have hm : x ∈ s.tks := List.mem_of_mem_take (List.mem_of_getLast? hx)
    obtain ⟨h1, _, h2⟩ := ok.tk1 x hm
    by_cases hp : p < x.1.length
    · have := h2 x.1[p] (List.getElem_mem hp)
      simpa [List.getD, hp] using this
    · simp [List.getD, List.getElem?_eq_none (Nat.le_of_not_lt hp)]
theorem lastL_zero (s : QS) (p : Nat) : lastL s 0 p = 4 := by simp [lastL, prevC, upTo]
theorem lastL_succ {s : QS} {t : Nat} {x : List Int × List Bool} (hx : s.tks[t]? = some x) (p : Nat) : lastL s (t + 1) p = x.1.getD p 4 := by
  have ht : t < s.tks.length := (List.getElem?_eq_some_iff.1 hx).1
  unfold lastL prevC
  have : (upTo s (s.tks.take (t + 1))).tks.getLast? = some x := by
    show (s.tks.take (t + 1)).getLast? = some x
    rw [List.getLast?_eq_getElem?, List.length_take, Nat.min_eq_left (by omega), List.getElem?_take, if_pos (by omega)]
    exact hx
  rw [this]
def wantC (s : QS) (t p : Nat) (r : Option A22) : Int := match r with | some a => cOf a | none => lastL s t p % 9
/-- what is fixed is what was accepted last, or the prediction -/
theorem counts_law {s : QS} {L : List A22} (hi : Inv s) (ha : AccL s L) (t p : Nat) (x : List Int × List Bool) (hx : s.tks[t]? = some x) (hp : p < s.k) :
    x.1[p]? = some (wantC s t p (lastM L p t)) ∧ x.2[p]? = some (!(lastM L p t).isSome) := by
  have ht : t < s.tks.length := (List.getElem?_eq_some_iff.1 hx).1
  have hlt : (s.tks.take t).length = t := by rw [List.length_take]; omega
  have hacc := ha.acc t p
  rw [hi t x hx]
  have hsome : ((lastM L p t).map cOf).isSome = (lastM L p t).isSome := by cases lastM L p t <;> rfl
  constructor
  · show ((List.range s.k).map (fixI (upTo s (s.tks.take t))))[p]? = _
    simp only [List.getElem?_map, List.getElem?_range hp, Option.map_some]
    congr 1
    show (match (s.acc (s.tks.take t).length).getD p none with | some c => c | none => prevC (upTo s (s.tks.take t)) p % 9) = _
    rw [hlt, hacc]
    cases lastM L p t <;> rfl
  · show ((List.range s.k).map (fixM (upTo s (s.tks.take t))))[p]? = _
    simp only [List.getElem?_map, List.getElem?_range hp, Option.map_some]
    congr 1
    show (!((s.acc (s.tks.take t).length).getD p none).isSome) = _
    rw [hlt, hacc, hsome]
theorem code_back {a b f : Int} (h : errV a b f = 0) : a = codeOf a b f % 3 - 1 ∧ b = codeOf a b f / 3 % 3 - 1 ∧ f = codeOf a b f / 9 := by
  obtain ⟨c, _, _, rfl, rfl, rfl⟩ := valid_codeQ h
  rw [codeOf_code]
  exact ⟨rfl, rfl, rfl⟩
end Go.Proofs.Ytpoffkkkkieniaa
