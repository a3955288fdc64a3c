/- A row of leaves that the law builds. -/
import Derived.Test.YtcgnihgebifcjaaMkAB
namespace Go.Proofs.Ytcgnihgebifcjaa
open Go Go.RowKit Go.BigFrame

theorem infoLeaf : (Try.prog.info? 25).map (fun i => (i.zero, i.size, i.bytes)) = some (some (.agg #[.int .i64 0, .int .i64 0, .slice none 0 0]), 3, 40) := by kernel_rfl
structure LfsOwn (w : World) (base : Nat) (u : Value) (L : List LF) : Prop where
  own : w.ownsRow base 25 3 u L.length (L.flatMap lfC)
  pr : ∀ x ∈ L, Sl w 1 x.a x.m x.c (x.p.map (Value.int .u64)) ∧ I64 x.i ∧ I64 x.v
  ap : ∀ x ∈ L, ∀ g, x.a = some g → u.ownBlock ≠ some g.block
  sz : ∀ x ∈ L, x.m ≤ 17
  lt : ∀ x ∈ L, ∀ g, x.a = some g → g.block < w.heap.size
section
variable {w w' : World} {base : Nat} {u : Value} {L : List LF}
theorem LfsOwn.nil (w : World) (base : Nat) : LfsOwn w base (.slice none 0 0) [] := ⟨World.ownsRow_nil _ _ _ _, (fun x hx => by cases hx), (fun x hx => by cases hx), (fun x hx => by cases hx), (fun x hx => by cases hx)⟩
theorem LfsOwn.q (h : LfsOwn w base u L) (q : Q w w') : LfsOwn w' base u L := ⟨own_q h.own q, fun x hx => ⟨(h.pr x hx).1.q q, (h.pr x hx).2⟩, h.ap, h.sz, fun x hx g hg => Nat.lt_of_lt_of_le (h.lt x hx g hg) q.size⟩
theorem LfsOwn.lfs (h : LfsOwn w base u L) : ∃ a cap, u = .slice a L.length cap ∧ LfsAt w a L.length cap L := by
  obtain ⟨a, cap, rfl⟩ := ret_shape h.own
  exact ⟨a, cap, rfl, Sl.of_own h.own, h.pr⟩
theorem LfsOwn.app (h : LfsOwn w base u L) (x : LF) (hx : Sl w 1 x.a x.m x.c (x.p.map (Value.int .u64)) ∧ I64 x.i ∧ I64 x.v) (ha : ∀ g, x.a = some g → u.ownBlock ≠ some g.block) (hg : ∀ g, x.a = some g → g.block < w.heap.size) (hm : x.m ≤ 17)
    {v : Value} (ho : w'.ownsRow base 25 3 v (L.length + 1) (L.flatMap lfC ++ lfC x)) (q : QF (fun b => u.ownBlock = some b) w w') (hk : ∀ b, v.ownBlock = some b → u.ownBlock = some b ∨ w.heap.size ≤ b) : LfsOwn w' base v (L ++ [x]) := by
  have apart : ∀ y : LF, (∀ g, y.a = some g → u.ownBlock ≠ some g.block) → (∀ g, y.a = some g → g.block < w.heap.size) → ∀ g, y.a = some g → v.ownBlock ≠ some g.block := by
    intro y h1 h2 g hg e
    rcases hk _ e with h' | h'
    · exact h1 g hg h'
    · have := h2 g hg; omega
  refine ⟨?_, ?_, ?_, ?_, ?_⟩
  · rw [List.length_append, List.flatMap_append, List.flatMap_singleton]
    exact ho
  · intro y hy
    rcases List.mem_append.1 hy with h' | h'
    · exact ⟨(h.pr y h').1.qf q (fun g hg e => h.ap y h' g hg e), (h.pr y h').2⟩
    · rw [List.mem_singleton.1 h']; exact ⟨hx.1.qf q (fun g hg e => ha g hg e), hx.2⟩
  · intro y hy
    rcases List.mem_append.1 hy with h' | h'
    · exact apart y (h.ap y h') (h.lt y h')
    · rw [List.mem_singleton.1 h']; exact apart x ha hg
  · intro y hy
    rcases List.mem_append.1 hy with h' | h'
    · exact h.sz y h'
    · rw [List.mem_singleton.1 h']; exact hm
  · intro y hy g hg'
    rcases List.mem_append.1 hy with h' | h'
    · exact Nat.lt_of_lt_of_le (h.lt y h' g hg') q.size
    · rw [List.mem_singleton.1 h'] at hg'; exact Nat.lt_of_lt_of_le (hg g hg') q.size
end
theorem own_setN {w : World} {base : Nat} {E : TypeId} {size g n cap : Nat} {cs : List Value} (h : w.ownsRow base E size (.slice (some ⟨g, 0, none⟩) n cap) n cs) (k : Nat) (v : Value) :
    (w.setCell ⟨g, k, none⟩ v).ownsRow base E size (.slice (some ⟨g, 0, none⟩) n cap) n (cs.set k v) := by
  obtain ⟨h1, h2⟩ := h
  refine ⟨by simpa using h1, ?_⟩
  rcases h2 with ⟨he, _⟩ | ⟨g', c, cur, he, hb, hg, hn, hm, hs, ht⟩
  · cases he
  · cases he
    refine .inr ⟨g, cap, cur.setIfInBounds k v, rfl, hb, ?_, hn, hm, by simpa using hs, ?_⟩
    · obtain ⟨hlt, hk2⟩ := Array.getElem?_eq_some_iff.1 hg
      show (w.heap.modify g _)[g]? = _
      rw [Array.getElem?_eq_getElem (by rw [Array.size_modify]; exact hlt), Array.getElem_modify_self, hk2]
      rfl
    · rw [← ht]
      simp [List.take_set]
theorem own_cellN {w : World} {base : Nat} {E : TypeId} {size g n cap : Nat} {cs : List Value} (h : w.ownsRow base E size (.slice (some ⟨g, 0, none⟩) n cap) n cs) (k : Nat) (v : Value) (hv : cs[k]? = some v) : w.cell? ⟨g, k, none⟩ = some v ∧ w.frozen? ⟨g, k, none⟩ = false := by
  have hc := h.cells (show (Value.slice (some ⟨g, 0, none⟩) n cap).ownBlock = some g from rfl) k v hv
  refine ⟨by rw [Addr.add_lit, Nat.zero_add] at hc; exact hc, ?_⟩
  rcases h.2 with ⟨he, _⟩ | ⟨g', c, cur, he, hb, hg, _⟩
  · cases he
  · cases he; simp [World.frozen?, hg]
theorem Sl.setC {w : World} {size g o n cap : Nat} {cs : List Value} (h : Sl w size (some ⟨g, o, none⟩) n cap cs) (i : Nat) (v : Value) (hi : i < cs.length) : Sl (w.setCell ⟨g, o + i, none⟩ v) size (some ⟨g, o, none⟩) n cap (cs.set i v) := by
  obtain ⟨h1, h2, h3, h4, h5⟩ := h
  refine ⟨by rw [List.length_set]; exact h1, h2, h3, h4, ?_⟩
  rcases h5 with h5 | ⟨g', o', ha, hg, hc⟩
  · exact .inl h5
  · cases ha
    refine .inr ⟨g, o, rfl, by simpa using hg, fun j u hu => ?_⟩
    by_cases e : i = j
    · subst e
      rw [List.getElem?_set_self hi] at hu
      cases hu
      exact World.cell?_setCell_same _ _ _ (hc i cs[i] (by rw [List.getElem?_eq_getElem hi]))
    · rw [List.getElem?_set_ne e] at hu
      exact (World.cell?_setCell_other _ _ _ _ (by simp)).trans (hc j u hu)
theorem lfs_set : ∀ (L : List LF) (k : Nat) (x : LF), k < L.length → (((L.flatMap lfC).set (k * 3) (.int .i64 x.i)).set (k * 3 + 1) (.int .i64 x.v)).set (k * 3 + 2) (.slice x.a x.m x.c) = (L.set k x).flatMap lfC
  | y :: L, 0, x, _ => rfl
  | y :: L, k + 1, x, hk => by
    have ih := lfs_set L k x (by simpa using hk)
    rw [List.set_cons_succ, List.flatMap_cons, List.flatMap_cons, ← ih, show (k + 1) * 3 = k * 3 + 3 by omega]
    rfl
theorem LfsOwn.cells {w : World} {base g c cap : Nat} {L : List LF} (h : LfsOwn w base (.slice (some ⟨g, 0, none⟩) c cap) L) (k : Nat) (hk : k < L.length) : g < w.heap.size ∧
    (w.cell? ⟨g, k * 3, none⟩ = some (.int .i64 L[k].i) ∧ w.frozen? ⟨g, k * 3, none⟩ = false) ∧ (w.cell? ⟨g, k * 3 + 1, none⟩ = some (.int .i64 L[k].v) ∧ w.frozen? ⟨g, k * 3 + 1, none⟩ = false) ∧ (w.cell? ⟨g, k * 3 + 2, none⟩ = some (.slice L[k].a L[k].m L[k].c) ∧ w.frozen? ⟨g, k * 3 + 2, none⟩ = false) := by
  obtain ⟨a', cap', hsh, _⟩ := h.lfs
  cases hsh
  refine ⟨(h.own.lt g rfl).2, own_cellN h.own _ _ ?_, own_cellN h.own _ _ ?_, own_cellN h.own _ _ ?_⟩
  · have := lfs_get L k 0 hk (by decide); rw [Nat.add_zero] at this; rw [this]; rfl
  · have := lfs_get L k 1 hk (by decide); rw [this]; rfl
  · have := lfs_get L k 2 hk (by decide); rw [this]; rfl
/-- a leaf put in another's place -/
theorem LfsOwn.put {w w' : World} {base g c cap : Nat} {L : List LF} (h : LfsOwn w base (.slice (some ⟨g, 0, none⟩) c cap) L) (k : Nat) (hk : k < L.length) (x : LF) (hx : Sl w 1 x.a x.m x.c (x.p.map (Value.int .u64)) ∧ I64 x.i ∧ I64 x.v)
    (ha : ∀ y, x.a = some y → y.block ≠ g ∧ y.block < w.heap.size) (hm : x.m ≤ 17)
    (he : w' = ((w.setCell ⟨g, k * 3, none⟩ (.int .i64 x.i)).setCell ⟨g, k * 3 + 1, none⟩ (.int .i64 x.v)).setCell ⟨g, k * 3 + 2, none⟩ (.slice x.a x.m x.c)) :
    LfsOwn w' base (.slice (some ⟨g, 0, none⟩) c cap) (L.set k x) ∧ QF (· = g) w w' := by
  obtain ⟨a', cap', hsh, _⟩ := h.lfs
  cases hsh
  have q : QF (· = g) w w' := by
    rw [he]
    exact ((QF.set (F := (· = g)) w g (k * 3) _ rfl).trans (QF.set (F := (· = g)) _ g (k * 3 + 1) _ rfl) (fun b hb => .inl hb)).trans (QF.set (F := (· = g)) _ g (k * 3 + 2) _ rfl) (fun b hb => .inl hb)
  have mem : ∀ y, y ∈ L.set k x → y ∈ L ∨ y = x := fun y hy => (List.mem_or_eq_of_mem_set hy)
  refine ⟨⟨?_, ?_, ?_, ?_, ?_⟩, q⟩
  · rw [List.length_set, ← lfs_set L k x hk, he]
    exact own_setN (own_setN (own_setN h.own _ _) _ _) _ _
  · intro y hy
    rcases mem y hy with h' | rfl
    · exact ⟨(h.pr y h').1.qf q (fun z hz e => h.ap y h' z hz (by rw [e]; rfl)), (h.pr y h').2⟩
    · exact ⟨hx.1.qf q (fun z hz e => (ha z hz).1 e), hx.2⟩
  · intro y hy z hz e
    rcases mem y hy with h' | rfl
    · exact h.ap y h' z hz e
    · cases e; exact (ha z hz).1 rfl
  · intro y hy
    rcases mem y hy with h' | rfl
    · exact h.sz y h'
    · exact hm
  · intro y hy z hz
    rcases mem y hy with h' | rfl
    · exact Nat.lt_of_lt_of_le (h.lt y h' z hz) q.size
    · exact Nat.lt_of_lt_of_le (ha z hz).2 q.size
end Go.Proofs.Ytcgnihgebifcjaa
