/- Two queues that differ in one player's inputs; two queues in memory. -/
import Derived.Test.YtpoffkkkkieniaaQG
import Derived.Test.YtpoffkkkkieniaaQP
namespace Go.Proofs.Ytpoffkkkkieniaa
open Go Go.RowKit

structure Sim (p : Nat) (a b : QS) : Prop where
  k : a.k = b.k
  wt : a.wt = b.wt
  len : a.tks.length = b.tks.length
  given : ∀ t q, ((a.acc t).getD q none).isSome = ((b.acc t).getD q none).isSome
  same : ∀ t q, q ≠ p → (a.acc t).getD q none = (b.acc t).getD q none
  row : ∀ (i : Nat) x y, a.tks[i]? = some x → b.tks[i]? = some y → ∀ q, q ≠ p → x.1[q]? = y.1[q]?
theorem Sim.refl (p : Nat) (a : QS) : Sim p a a := ⟨rfl, rfl, rfl, fun _ _ => rfl, fun _ _ _ => rfl, fun i x y hx hy q _ => by rw [hx] at hy; cases hy; rfl⟩
theorem Sim.prev {p : Nat} {a b : QS} (h : Sim p a b) (q : Nat) (hq : q ≠ p) : prevC a q = prevC b q := by
  unfold prevC
  have ha : a.tks.getLast? = a.tks[a.tks.length - 1]? := List.getLast?_eq_getElem?
  have hb : b.tks.getLast? = b.tks[a.tks.length - 1]? := by rw [h.len]; exact List.getLast?_eq_getElem?
  rw [ha, hb]
  cases h1 : a.tks[a.tks.length - 1]? with
  | none =>
    have : b.tks[a.tks.length - 1]? = none := by
      rw [List.getElem?_eq_none_iff] at h1 ⊢
      rw [← h.len]; exact h1
    rw [this]
  | some x =>
    obtain ⟨hl, _⟩ := List.getElem?_eq_some_iff.1 h1
    have h2 : b.tks[a.tks.length - 1]? = some (b.tks[a.tks.length - 1]'(by rw [← h.len]; exact hl)) := List.getElem?_eq_getElem _
    rw [h2]
    show x.1.getD q 4 = _
    have := h.row _ _ _ h1 h2 q hq
    simp only [List.getD]
    rw [this]
theorem Sim.fixI {p : Nat} {a b : QS} (h : Sim p a b) (q : Nat) (hq : q ≠ p) : Go.Proofs.Ytpoffkkkkieniaa.fixI a q = Go.Proofs.Ytpoffkkkkieniaa.fixI b q := by
  unfold Go.Proofs.Ytpoffkkkkieniaa.fixI
  rw [h.len, h.same _ q hq, h.prev q hq]
theorem Sim.fix {p : Nat} {a b : QS} (h : Sim p a b) : Sim p (fixT a) (fixT b) where
  k := h.k
  wt := h.wt
  len := by simp [fixT, h.len]
  given := h.given
  same := h.same
  row := fun i x y hx hy q hq => by
    replace hx : (a.tks ++ [fixRow a])[i]? = some x := hx
    replace hy : (b.tks ++ [fixRow b])[i]? = some y := hy
    rcases Nat.lt_trichotomy i a.tks.length with hi | hi | hi
    · rw [List.getElem?_append_left hi] at hx
      rw [List.getElem?_append_left (by rw [← h.len]; exact hi)] at hy
      exact h.row i x y hx hy q hq
    · rw [List.getElem?_append_right (by omega), hi, Nat.sub_self] at hx
      rw [List.getElem?_append_right (by rw [← h.len]; omega), hi, h.len, Nat.sub_self] at hy
      cases hx
      cases hy
      show ((List.range a.k).map (Go.Proofs.Ytpoffkkkkieniaa.fixI a))[q]? = ((List.range b.k).map (Go.Proofs.Ytpoffkkkkieniaa.fixI b))[q]?
      rw [← h.k]
      by_cases hk : q < a.k
      · simp [hk, h.fixI q hq]
      · rw [List.getElem?_eq_none (by simp; omega), List.getElem?_eq_none (by simp; omega)]
    · rw [List.getElem?_eq_none (by simp; omega)] at hx; cases hx
theorem Sim.due {p : Nat} {a b : QS} (h : Sim p a b) (now : Int) : Go.Proofs.Ytpoffkkkkieniaa.due a now = Go.Proofs.Ytpoffkkkkieniaa.due b now := by
  unfold Go.Proofs.Ytpoffkkkkieniaa.due compl
  rw [h.k, h.wt, h.len]
  congr 1
  have : (fun q => ((a.acc b.tks.length).getD q none).isSome) = fun q => ((b.acc b.tks.length).getD q none).isSome := funext fun q => h.given _ q
  rw [this]
theorem Sim.advN {p : Nat} : ∀ (n : Nat) {a b : QS} (_ : Sim p a b) (now : Int), Sim p (advN n a now) (advN n b now)
  | 0, _, _, h, _ => h
  | n + 1, a, b, h, now => by
    unfold Go.Proofs.Ytpoffkkkkieniaa.advN
    rw [h.due now]
    split
    · exact Sim.advN n h.fix now
    · exact h
theorem Sim.adv {p : Nat} {a b : QS} (h : Sim p a b) (now : Int) : Sim p (advT a now) (advT b now) := by
  unfold advT
  rw [h.len]
  exact h.advN _ now
theorem acc_get (s : QS) (t u : Int) (r q : Nat) (c : Int) (hr : r < (s.acc t).length) : ((accSet s t r c).acc u).getD q none = if u = t ∧ q = r then some c else (s.acc u).getD q none := by
  show (if u = t then (s.acc t).set r (some c) else s.acc u).getD q none = _
  by_cases hu : u = t
  · rw [if_pos hu]
    by_cases hq : q = r
    · subst hq
      rw [if_pos ⟨hu, rfl⟩]
      simp [List.getD, hr]
    · rw [if_neg (fun h => hq h.2), hu]
      simp only [List.getD]
      rw [List.getElem?_set_ne (fun e => hq e.symm)]
  · rw [if_neg hu, if_neg (fun h => hu h.1)]
theorem Sim.offE {p : Nat} {a b : QS} (h : Sim p a b) (now r t x y f x' y' f' : Int) (hv : errV x y f = errV x' y' f') : Go.Proofs.Ytpoffkkkkieniaa.offE a now r t x y f = Go.Proofs.Ytpoffkkkkieniaa.offE b now r t x' y' f' := by
  unfold Go.Proofs.Ytpoffkkkkieniaa.offE
  rw [h.k, h.len, hv, h.given]
theorem Sim.offT {p : Nat} {a b : QS} (h : Sim p a b) (oa : OkS a) (ob : OkS b) (now r t x y f x' y' f' : Int) (hv : errV x y f = errV x' y' f') (hs : r ≠ p → x = x' ∧ y = y' ∧ f = f') :
    Sim p (Go.Proofs.Ytpoffkkkkieniaa.offT a now r t x y f) (Go.Proofs.Ytpoffkkkkieniaa.offT b now r t x' y' f') := by
  have he := h.offE now r t x y f x' y' f' hv
  unfold Go.Proofs.Ytpoffkkkkieniaa.offT
  rw [← he]
  split
  · rename_i hz
    obtain ⟨z0, z1, _⟩ := off_zero hz
    have k8 := oa.k8
    have la : ∀ t, r.toNat < (a.acc t).length := fun t => by rw [oa.len]; omega
    have lb : ∀ t, r.toNat < (b.acc t).length := fun t => by rw [ob.len]; omega
    refine ⟨h.k, h.wt, h.len, fun u q => ?_, fun u q hq => ?_, h.row⟩
    · rw [acc_get a t u _ q _ (la t), acc_get b t u _ q _ (lb t)]
      split
      · rfl
      · exact h.given u q
    · rw [acc_get a t u _ q _ (la t), acc_get b t u _ q _ (lb t)]
      split
      · rename_i hu
        obtain ⟨rfl, rfl, rfl⟩ := hs (by omega)
        rfl
      · exact h.same u q hq
  · exact h

/-- two queues beside one another, made behind w0 -/
def TwoQ (w0 w : World) (BA BB : Nat) (cA cB : Nat → Nat) (sA sB : QS) : Prop :=
  Que w BA cA sA ∧ Que w BB cB sB ∧ (∀ b, cA b = 0 ∨ cB b = 0) ∧ Q w0 w ∧ (∀ b, b < w0.heap.size → cA b = 0) ∧ (∀ b, b < w0.heap.size → cB b = 0)
section
variable {w0 w w' : World} {BA BB : Nat} {cA cB : Nat → Nat} {sA sB s' : QS}
theorem TwoQ.q (h : TwoQ w0 w BA BB cA cB sA sB) (q : Q w w') : TwoQ w0 w' BA BB cA cB sA sB := ⟨h.1.q q, h.2.1.q q, h.2.2.1, h.2.2.2.1.trans q, h.2.2.2.2⟩
theorem TwoQ.stepA (h : TwoQ w0 w BA BB cA cB sA sB) (hd : QDone BA cA w s' w') : ∃ cA', TwoQ w0 w' BA BB cA' cB s' sB ∧ Ext w cA cA' ∧ QF (colF cA) w w' := by
  obtain ⟨h1, h2, h3, h4, h5, h6⟩ := h
  obtain ⟨c', k1, k2, k3, k4, k5⟩ := qstep h4 h5 hd
  refine ⟨c', ⟨k1, h2.qf k5 (fun b hb => (h3 b).resolve_left hb), fun b => ?_, k2, k3, h6⟩, k4, k5⟩
  rcases Nat.lt_or_ge b w.heap.size with hb | hb
  · rw [k4 b hb]; exact h3 b
  · exact .inr (h2.new0 b hb)
theorem TwoQ.stepB (h : TwoQ w0 w BA BB cA cB sA sB) (hd : QDone BB cB w s' w') : ∃ cB', TwoQ w0 w' BA BB cA cB' sA s' ∧ Ext w cB cB' ∧ QF (colF cB) w w' := by
  obtain ⟨h1, h2, h3, h4, h5, h6⟩ := h
  obtain ⟨c', k1, k2, k3, k4, k5⟩ := qstep h4 h6 hd
  refine ⟨c', ⟨h1.qf k5 (fun b hb => (h3 b).resolve_right hb), k1, fun b => ?_, k2, h5, k3⟩, k4, k5⟩
  rcases Nat.lt_or_ge b w.heap.size with hb | hb
  · rw [k4 b hb]; exact h3 b
  · exact .inl (h1.new0 b hb)
/-- a slice that is neither queue's -/
def SlT (w : World) (cA cB : Nat → Nat) (size : Nat) (a : Option Addr) (n cap : Nat) (cs : List Value) : Prop := Sl w size a n cap cs ∧ ∀ x, a = some x → x.block < w.heap.size ∧ cA x.block = 0 ∧ cB x.block = 0
variable {size n cap : Nat} {a : Option Addr} {cs : List Value}
theorem SlT.q (h : SlT w cA cB size a n cap cs) (q : Q w w') : SlT w' cA cB size a n cap cs :=
  ⟨h.1.q q, fun x hx => ⟨Nat.lt_of_lt_of_le (h.2 x hx).1 q.size, (h.2 x hx).2⟩⟩
theorem SlT.stepA {cA' : Nat → Nat} (h : SlT w cA cB size a n cap cs) (he : Ext w cA cA') (hf : QF (colF cA) w w') : SlT w' cA' cB size a n cap cs :=
  ⟨h.1.qf hf (fun x hx hc => hc (h.2 x hx).2.1), fun x hx => ⟨Nat.lt_of_lt_of_le (h.2 x hx).1 hf.size, (he _ (h.2 x hx).1).trans (h.2 x hx).2.1, (h.2 x hx).2.2⟩⟩
theorem SlT.stepB {cB' : Nat → Nat} (h : SlT w cA cB size a n cap cs) (he : Ext w cB cB') (hf : QF (colF cB) w w') : SlT w' cA cB' size a n cap cs :=
  ⟨h.1.qf hf (fun x hx hc => hc (h.2 x hx).2.2), fun x hx => ⟨Nat.lt_of_lt_of_le (h.2 x hx).1 hf.size, (h.2 x hx).2.1, (he _ (h.2 x hx).1).trans (h.2 x hx).2.2⟩⟩
theorem SlT.new {E : TypeId} (hQ : TwoQ w0 w BA BB cA cB sA sB) (h : w'.ownsRow w.heap.size E size (.slice a n cap) n cs) : SlT w' cA cB size a n cap cs := by
  refine ⟨Sl.of_own h, fun x hx => ?_⟩
  rcases h.2 with ⟨he, _⟩ | ⟨g, c, cur, he, hb, hg, _⟩
  · cases he; cases hx
  · cases he
    cases hx
    exact ⟨(Array.getElem?_eq_some_iff.1 hg).1, hQ.1.new0 g hb, hQ.2.1.new0 g hb⟩
/-- two queues, made one behind the other -/
theorem twoNew {w1 w2 : World} (hA : Que w1 BA cA sA) (qA : Q w0 w1) (zA : ∀ b, b < w0.heap.size → cA b = 0) (hB : Que w2 BB cB sB) (qB : Q w1 w2) (zB : ∀ b, b < w1.heap.size → cB b = 0) : TwoQ w0 w2 BA BB cA cB sA sB := by
  refine ⟨hA.q qB, hB, fun b => ?_, qA.trans qB, zA, fun b hb => zB b (Nat.lt_of_lt_of_le hb qA.size)⟩
  rcases Nat.lt_or_ge b w1.heap.size with h | h
  · exact .inr (zB b h)
  · exact .inl (hA.new0 b h)
end
theorem errV_two (a b f : Int) : errV a b f = 0 ∨ errV a b f = 1 := by unfold errV; split <;> simp
end Go.Proofs.Ytpoffkkkkieniaa
