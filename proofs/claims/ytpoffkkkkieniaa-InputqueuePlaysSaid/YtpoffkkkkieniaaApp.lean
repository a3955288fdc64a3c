/- 'append(out, xs...)', out being the call's own, xs any slice that can be read. -/
import Derived.Test.YtpoffkkkkieniaaFoot
import Derived.Maps.AppendAt
import Derived.Laws.AppendOwnNone
namespace Go.Proofs.Ytpoffkkkkieniaa
open Go Go.RowKit

theorem run_append_sl {P : Program} {w : World} (base : Nat) (t ty e : TypeId) (i : TypeInfo) (z : Value) (size bytes : Nat) (ht : P.underlying t = some (.slice e)) (hi : P.info? e = some i) (hz : i.zero = some z)
    (hsize : i.size = size) (hby : i.bytes = bytes) (hzs : z.cells.size = size) (hsz : 0 < size)
    (v : Value) (n : Nat) (xs : List Value) (hown : w.ownsRow base e size v n xs)
    (ad : Option Addr) (m c : Nat) (news : List Value) (hsl : Sl w size ad m c news) (h1 : ∀ u ∈ news, u.oneCell' = true)
    (hnm : n + m ≤ 100000) (hby2 : bytes ≤ 100000) (hbase : base ≤ w.heap.size) :
    ∃ a' cap w', (Builtin.append_ #[t, t] ty #[v, .slice ad m c]).run P w = .ok (.slice a' (n + m) cap) w' ∧ w'.ownsRow base e size (.slice a' (n + m) cap) (n + m) (xs ++ news) ∧ w.grownBy w' v.ownBlock ∧
      (∀ g, (Value.slice a' (n + m) cap).ownBlock = some g → v.ownBlock = some g ∨ g = w.heap.size) := by
  have hbb : (n + m) * bytes ≤ 140737488355328 := Nat.le_trans (Nat.mul_le_mul hnm hby2) (by decide)
  have shape : ∀ (v' : Value) (w' : World), w'.ownsRow base e size v' (n + m) (xs ++ news) → ∃ a' cap, v' = .slice a' (n + m) cap := by
    intro v' w' h
    rcases h.2 with ⟨rfl, h0⟩ | ⟨g, cap, cur, rfl, _⟩
    · exact ⟨none, 0, by rw [h0]⟩
    · exact ⟨_, _, rfl⟩
  have main : ∀ x : Addr, (∀ j u, news[j]? = some u → w.cell? (x.add j) = some u) → ∃ a' cap w', (Builtin.append_ #[t, t] ty #[v, .slice (some x) m c]).run P w = .ok (.slice a' (n + m) cap) w' ∧ w'.ownsRow base e size (.slice a' (n + m) cap) (n + m) (xs ++ news) ∧ w.grownBy w' v.ownBlock ∧
      (∀ g, (Value.slice a' (n + m) cap).ownBlock = some g → v.ownBlock = some g ∨ g = w.heap.size) := by
    intro x hx
    obtain ⟨v', w', hr, ho, hg, _, h5⟩ := run_append_own_at (P := P) w base t ty e i z size bytes ht hi hz hsize hby hzs hsz v n xs hown x m c news hsl.1 hx h1 (by unfold maxLen; omega) hbb hbase
    obtain ⟨a', cap, rfl⟩ := shape v' w' ho
    refine ⟨a', cap, w', hr, ho, hg, fun g hg' => ?_⟩
    rcases h5 with h5 | h5
    · exact .inl (h5.symm.trans hg')
    · rw [hg'] at h5
      exact .inr (by cases h5; rfl)
  obtain ⟨s1, s2, s3, s4, s5⟩ := hsl
  cases ad with
  | some x =>
    refine main x ?_
    rcases s5 with s5 | ⟨g, o, he, hg, hc⟩
    · subst s5
      have : news = [] := List.eq_nil_of_length_eq_zero (by omega)
      subst this
      intro j u hu
      simp at hu
    · cases he
      intro j u hu
      rw [Addr.add_lit]
      exact hc j u hu
  | none =>
    have hm : m = 0 := by have := s4 rfl; omega
    subst hm
    have : news = [] := List.eq_nil_of_length_eq_zero (by omega)
    subst this
    have hc0 := s4 rfl
    subst hc0
    obtain ⟨a', cap, rfl⟩ : ∃ a' cap, v = .slice a' n cap := by
      rcases hown.2 with ⟨rfl, h0⟩ | ⟨g, cap, cur, rfl, _⟩
      · exact ⟨none, 0, by rw [h0]⟩
      · exact ⟨_, _, rfl⟩
    have hle : n ≤ cap := by
      rcases hown.2 with ⟨he, h0⟩ | ⟨g, cap', cur, he, _, _, hn, _⟩
      · cases he; omega
      · cases he; exact hn
    refine ⟨a', cap, w, ?_, ?_, ⟨rfl, rfl, rfl, Nat.le_refl _, fun _ _ _ => rfl⟩, fun g hg => .inl hg⟩
    · exact run_append_owned_none (P := P) (w := w) base t ty e i size ht hi _ n xs hown
    · rw [List.append_nil]; exact hown
theorem wp_append_sl {P : Program} {w : World} {o : Oper} {a : Act} {K : Act → World → Prop} {R : Exit → Act → World → Prop} (s x : Operand) (t : TypeId)
    (ho : o.op = .call { callee := .builtin .append, args := #[s, x], argTypes := #[t, t] })
    (base : Nat) (e : TypeId) (i : TypeInfo) (z : Value) (size bytes : Nat) (ht : P.underlying t = some (.slice e)) (hi : P.info? e = some i) (hz : i.zero = some z)
    (hsize : i.size = size) (hby : i.bytes = bytes) (hzs : z.cells.size = size) (hsz : 0 < size)
    (v : Value) (n : Nat) (xs : List Value) (hs : a.eval s = v) (hown : w.ownsRow base e size v n xs)
    (ad : Option Addr) (m c : Nat) (news : List Value) (hx : a.eval x = .slice ad m c) (hsl : Sl w size ad m c news) (h1 : ∀ u ∈ news, u.oneCell' = true)
    (hnm : n + m ≤ 100000) (hby2 : bytes ≤ 100000) (hbase : base ≤ w.heap.size)
    (h : ∀ a' cap w', w'.ownsRow base e size (.slice a' (n + m) cap) (n + m) (xs ++ news) → w.grownBy w' v.ownBlock → (∀ g, (Value.slice a' (n + m) cap).ownBlock = some g → v.ownBlock = some g ∨ g = w.heap.size) → K (a.put o.dst (.slice a' (n + m) cap)) w') : o.wp P a w K R := by
  obtain ⟨a', cap, w', hr, h2, h3, h4⟩ := run_append_sl (P := P) base t o.type e i z size bytes ht hi hz hsize hby hzs hsz v n xs hown ad m c news hsl h1 hnm hby2 hbase
  unfold Oper.wp execOp
  simp only [ho, resolve, invoke, builtin, Sem.run_bind, Sem.run_pure, Result.andThen_ok, List.map_toArray, List.map_cons, List.map_nil, hs, hx, hr]
  exact h a' cap w' h2 h3 h4
theorem wpList_append_sl {P : Program} {w : World} {ops : Array Oper} {rest : List Oper} {o : Oper} {a : Act} {R : Exit → Act → World → Prop} (hgd : o.guard = none) (s x : Operand) (t : TypeId)
    (ho : o.op = .call { callee := .builtin .append, args := #[s, x], argTypes := #[t, t] })
    (base : Nat) (e : TypeId) (i : TypeInfo) (z : Value) (size bytes : Nat) (ht : P.underlying t = some (.slice e)) (hi : P.info? e = some i) (hz : i.zero = some z)
    (hsize : i.size = size) (hby : i.bytes = bytes) (hzs : z.cells.size = size) (hsz : 0 < size)
    (v : Value) (n : Nat) (xs : List Value) (hs : a.eval s = v) (hown : w.ownsRow base e size v n xs)
    (ad : Option Addr) (m c : Nat) (news : List Value) (hx : a.eval x = .slice ad m c) (hsl : Sl w size ad m c news) (h1 : ∀ u ∈ news, u.oneCell' = true)
    (hnm : n + m ≤ 100000) (hby2 : bytes ≤ 100000) (hbase : base ≤ w.heap.size)
    (h : ∀ a' cap w', w'.ownsRow base e size (.slice a' (n + m) cap) (n + m) (xs ++ news) → w.grownBy w' v.ownBlock → (∀ g, (Value.slice a' (n + m) cap).ownBlock = some g → v.ownBlock = some g ∨ g = w.heap.size) → wpList P ops R rest (a.put o.dst (.slice a' (n + m) cap)) w') :
    wpList P ops R (o :: rest) a w := by
  refine wpList_plain hgd fun K hK => ?_
  refine wp_append_sl s x t ho base e i z size bytes ht hi hz hsize hby hzs hsz v n xs hs hown ad m c news hx hsl h1 hnm hby2 hbase ?_
  intro a' cap w' h2 h3 h4
  exact hK _ _ (h a' cap w' h2 h3 h4)
end Go.Proofs.Ytpoffkkkkieniaa
