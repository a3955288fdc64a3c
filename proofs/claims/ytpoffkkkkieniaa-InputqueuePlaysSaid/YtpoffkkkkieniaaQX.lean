/- InputqueuePlays: where the law stands: the queue, the reference's queue in block RB, the calls. -/
import Derived.Test.YtpoffkkkkieniaaQW
import Derived.Test.YtpoffkkkkieniaaQF
namespace Go.Proofs.Ytpoffkkkkieniaa
open Go Go.RowKit Go.BigFrame

theorem offT_same' (s : QS) (now p t a b f : Int) : (offT s now p t a b f).k = s.k ∧ (offT s now p t a b f).wt = s.wt ∧ (offT s now p t a b f).tks = s.tks := by unfold offT; split <;> exact ⟨rfl, rfl, rfl⟩
theorem rq0' (w : World) (col : Nat → Nat) (k wt : Nat) : RQO w col (qs0 k wt) [] none 0 none 0 none 0 [] :=
  ⟨⟨⟨rfl, Nat.le_refl _, by decide, fun _ => rfl, .inl rfl⟩, ⟨rfl, Nat.le_refl _, by decide, fun _ => rfl, .inl rfl⟩, ⟨rfl, Nat.le_refl _, by decide, fun _ => rfl, .inl rfl⟩, rfl, fun i x h => by simp [qs0] at h, fun t p => by
    show (List.replicate 8 none).getD p none = _
    rw [List.getD, List.getElem?_replicate]
    split <;> rfl, by decide⟩, ⟨(fun x h => by rcases h with h | h | h <;> cases h), fun c h => by cases h⟩⟩
structure PlayAt (w0 w : World) (B RB : Nat) (col : Nat → Nat) (s : QS) (L : List On) (la : Option Addr) (lc : Nat) (ra : Option Addr) (rc : Nat) (ma : Option Addr) (mc : Nat) (cs : List (Value × Value)) (aa : Option Addr) (n cap : Nat) (acl : List A22) : Prop where
  que : Que w B col s
  ok : OkS s
  ref : RQO w col s L la lc ra rc ma mc cs
  box : Box w RB [.int .i64 s.k, .int .i64 s.wt, .slice la L.length lc, .slice ra s.tks.length rc, .slice ma s.tks.length mc]
  rb : col RB = 0 ∧ w0.heap.size ≤ RB
  cl : Cl (fun b => ¬ b = RB) la ra ma cs
  q : Q w0 w
  z : ∀ b, b < w0.heap.size → col b = 0
  ac : SlO w col 7 aa n cap (acl.flatMap a22C)
  an : ∀ x, aa = some x → x.block ≠ RB
section
variable {w0 w w' : World} {B RB : Nat} {col : Nat → Nat} {s : QS} {L : List On} {la ra ma : Option Addr} {lc rc mc : Nat} {cs : List (Value × Value)} {aa : Option Addr} {n cap : Nat} {acl : List A22}
theorem PlayAt.q' (h : PlayAt w0 w B RB col s L la lc ra rc ma mc cs aa n cap acl) (q : Q w w') : PlayAt w0 w' B RB col s L la lc ra rc ma mc cs aa n cap acl :=
  ⟨h.que.q q, h.ok, h.ref.q q, h.box.q q, h.rb, h.cl, h.q.trans q, h.z, h.ac.q q, h.an⟩
/-- 'r = next' -/
theorem play_store (hq : Que w B col s) (ok : OkS s) (hr : RQO w col s L la lc ra rc ma mc cs) {v0 v1 v2 v3 v4 : Value} (hb : Box w RB [v0, v1, v2, v3, v4]) (hrb : col RB = 0 ∧ w0.heap.size ≤ RB) (hcl : Cl (fun b => ¬ b = RB) la ra ma cs) (q : Q w0 w) (z : ∀ b, b < w0.heap.size → col b = 0)
    (ac : SlO w col 7 aa n cap (acl.flatMap a22C)) (an : ∀ x, aa = some x → x.block ≠ RB) :
    PlayAt w0 (((((w.setCell ⟨RB, 0, none⟩ (.int .i64 s.k)).setCell ⟨RB, 1, none⟩ (.int .i64 s.wt)).setCell ⟨RB, 2, none⟩ (.slice la L.length lc)).setCell ⟨RB, 3, none⟩ (.slice ra s.tks.length rc)).setCell ⟨RB, 4, none⟩ (.slice ma s.tks.length mc)) B RB col s L la lc ra rc ma mc cs aa n cap acl := by
  have q5 : QF (· = RB) w (((((w.setCell ⟨RB, 0, none⟩ (.int .i64 s.k)).setCell ⟨RB, 1, none⟩ (.int .i64 s.wt)).setCell ⟨RB, 2, none⟩ (.slice la L.length lc)).setCell ⟨RB, 3, none⟩ (.slice ra s.tks.length rc)).setCell ⟨RB, 4, none⟩ (.slice ma s.tks.length mc)) :=
    ((((QF.set (F := (· = RB)) w RB 0 _ rfl).setNew RB 1 _ (.inl rfl)).setNew RB 2 _ (.inl rfl)).setNew RB 3 _ (.inl rfl)).setNew RB 4 _ (.inl rfl)
  refine ⟨hq.qf q5 (fun b hb => by rw [hb]; exact hrb.1), ok, ⟨hr.1.qf q5 hcl, fun x hx => ⟨Nat.lt_of_lt_of_le (hr.2.1 x hx).1 q5.size, (hr.2.1 x hx).2⟩, fun c hc x n m hx => ⟨Nat.lt_of_lt_of_le (hr.2.2 c hc x n m hx).1 q5.size, (hr.2.2 c hc x n m hx).2⟩⟩, hb.store5, hrb, hcl, QF.q q q5 (fun b hb => by rw [hb]; exact hrb.2), z, ⟨ac.1.qf q5 (fun x hx => an x hx), fun x hx => ⟨Nat.lt_of_lt_of_le (ac.2 x hx).1 q5.size, (ac.2 x hx).2⟩⟩, an⟩
theorem PlayAt.cl0 (h : PlayAt w0 w B RB col s L la lc ra rc ma mc cs aa n cap acl) : Cl (fun b => b < w.heap.size ∧ col b = 0 ∧ ¬ b = RB) la ra ma cs :=
  ⟨fun x hx => ⟨(h.ref.2.1 x hx).1, (h.ref.2.1 x hx).2, h.cl.1 x hx⟩, fun c hc x n m hx => ⟨(h.ref.2.2 c hc x n m hx).1, (h.ref.2.2 c hc x n m hx).2, h.cl.2 c hc x n m hx⟩⟩
/-- behind the reference's Advance -/
theorem PlayAt.adv (h : PlayAt w0 w B RB col s L la lc ra rc ma mc cs aa n cap acl) {s' : QS} {ra' ma' : Option Addr} {rc' mc' : Nat} {cs' : List (Value × Value)} (q : Q w w') (hR : RQ w' s' L la lc ra' rc' ma' mc' cs')
    (hC : Cl (fun b => (b < w.heap.size ∧ col b = 0 ∧ ¬ b = RB) ∨ (w.heap.size ≤ b ∧ b < w'.heap.size)) la ra' ma' cs') : RQO w' col s' L la lc ra' rc' ma' mc' cs' ∧ Cl (fun b => ¬ b = RB) la ra' ma' cs' := by
  have hs := q.size
  have hb := h.box.1
  have key : ∀ b, ((b < w.heap.size ∧ col b = 0 ∧ ¬ b = RB) ∨ (w.heap.size ≤ b ∧ b < w'.heap.size)) → (b < w'.heap.size ∧ col b = 0) ∧ ¬ b = RB := fun b hh => by
    rcases hh with hh | hh
    · exact ⟨⟨by omega, hh.2.1⟩, hh.2.2⟩
    · exact ⟨⟨hh.2, h.que.new0 b hh.1⟩, by omega⟩
  exact ⟨⟨hR, fun x hx => (key _ (hC.1 x hx)).1, fun c hc x n m hx => (key _ (hC.2 c hc x n m hx)).1⟩, hC.mono (fun b hb => (key b hb).2)⟩
/-- behind the reference's Offer -/
theorem PlayAt.off (h : PlayAt w0 w B RB col s L la lc ra rc ma mc cs aa n cap acl) {s' : QS} {L' : List On} {la' : Option Addr} {lc' : Nat} (q : Q w w') (hR : RQ w' s' L' la' lc' ra rc ma mc cs) (hl : la' = la ∨ ∀ y, la' = some y → w.heap.size ≤ y.block ∧ y.block < w'.heap.size) :
    RQO w' col s' L' la' lc' ra rc ma mc cs ∧ Cl (fun b => ¬ b = RB) la' ra ma cs := by
  have hb := h.box.1
  refine ⟨RQO.off h.que h.ref hR q hl, fun x hx => ?_, h.cl.2⟩
  rcases hx with hx | hx
  · rcases hl with rfl | hl
    · exact h.cl.1 x (.inl hx)
    · have := (hl x hx).1; show ¬ x.block = RB; omega
  · exact h.cl.1 x (.inr hx)
end
end Go.Proofs.Ytpoffkkkkieniaa
