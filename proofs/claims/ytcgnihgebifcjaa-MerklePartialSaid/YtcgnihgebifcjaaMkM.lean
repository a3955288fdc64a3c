/- MerkleSets: what the law remembers of its assignments, and that assigning the old values in reverse order undoes them; rows of the law's own beside a tree. -/
import Derived.Test.YtcgnihgebifcjaaMkK
namespace Go.Proofs.Ytcgnihgebifcjaa
open Go Go.RowKit Go.BigFrame

def undo (l : List (Nat × Int)) (cur : List Int) : List Int := l.foldr (fun p c => c.set p.1 p.2) cur
theorem undo_snoc (l : List (Nat × Int)) (p : Nat × Int) (cur : List Int) : undo (l ++ [p]) cur = undo l (cur.set p.1 p.2) := by
  unfold undo
  rw [List.foldr_append]
  rfl
/-- the state of the law after i rounds: L the places with their old values, cur the cells now -/
structure SetsS (cs : List Int) (n i : Nat) (L : List (Nat × Int)) (cur : List Int) : Prop where
  len : cur.length = n
  ok : I64s cur
  le : L.length ≤ i
  und : undo L cur = cs
  lt : ∀ p ∈ L, p.1 < n
  vals : ∀ p ∈ L, -9223372036854775808 ≤ p.2 ∧ p.2 ≤ 9223372036854775807
theorem SetsS.start {cs : List Int} {n : Nat} (h : cs.length = n) (hc : I64s cs) : SetsS cs n 0 [] cs := ⟨h, hc, by simp, rfl, by simp, by simp⟩
theorem SetsS.no {cs : List Int} {n i : Nat} {L : List (Nat × Int)} {cur : List Int} (h : SetsS cs n i L cur) : SetsS cs n (i + 1) L cur := ⟨h.len, h.ok, by have := h.le; omega, h.und, h.lt, h.vals⟩
theorem SetsS.yes {cs : List Int} {n i : Nat} {L : List (Nat × Int)} {cur : List Int} (h : SetsS cs n i L cur) (k : Nat) (o v : Int) (hk : cur[k]? = some o) (hv : -9223372036854775808 ≤ v ∧ v ≤ 9223372036854775807) :
    SetsS cs n (i + 1) (L ++ [(k, o)]) (cur.set k v) := by
  have hkl : k < cur.length := (List.getElem?_eq_some_iff.1 hk).1
  have ho : cur.set k o = cur := by
    apply List.ext_getElem?
    intro m
    by_cases e : k = m
    · subst e; rw [List.getElem?_set_self hkl, hk]
    · rw [List.getElem?_set_ne e]
  refine ⟨by rw [List.length_set]; exact h.len, ?_, by rw [List.length_append]; have := h.le; simp; omega, ?_, ?_, ?_⟩
  · intro y hy
    rcases List.mem_or_eq_of_mem_set hy with h' | rfl
    · exact h.ok _ h'
    · exact hv
  · rw [undo_snoc]
    show undo L ((cur.set k v).set k o) = cs
    rw [List.set_set, ho]
    exact h.und
  · intro p hp
    rcases List.mem_append.1 hp with h' | h'
    · exact h.lt p h'
    · rw [List.mem_singleton.1 h']; have := h.len; exact by show k < n; omega
  · intro p hp
    rcases List.mem_append.1 hp with h' | h'
    · exact h.vals p h'
    · rw [List.mem_singleton.1 h']; exact h.ok o (List.mem_of_getElem? hk)
/-- one assignment taken back -/
theorem undo_back {cs : List Int} {n j : Nat} {L : List (Nat × Int)} {cur : List Int} (hl : cur.length = n) (hj : j < L.length) (hu : undo (L.take (j + 1)) cur = cs) (hlt : ∀ p ∈ L, p.1 < n) :
    undo (L.take j) (setZ cur (L[j].1 : Nat) L[j].2) = cs := by
  have h1 : setZ cur (L[j].1 : Nat) L[j].2 = cur.set L[j].1 L[j].2 := by
    unfold setZ
    have := hlt _ (List.getElem_mem hj)
    rw [if_pos ⟨by omega, by omega⟩, Int.toNat_natCast]
  rw [h1, ← undo_snoc, ← take_snoc_get L j hj]
  exact hu

/-- two values that do not lie in one block -/
def Apart (u v : Value) : Prop := ∀ k, u.ownBlock = some k → v.ownBlock ≠ some k
theorem Apart.symm {u v : Value} (h : Apart u v) : Apart v u := fun k h1 h2 => h k h2 h1
/-- the three rows of the law beside the tree -/
structure SetsW (w : World) (base TB : Nat) (col : Nat → Nat) (n : Nat) (tc nc ps os : List Int) (pv ov nv : Value) : Prop where
  tree : TreeAt w TB col tc (nodeZ tc)
  now : w.ownsRow base 3 1 nv n (nc.map (Value.int .i64))
  pl : w.ownsRow base 3 1 pv ps.length (ps.map (Value.int .i64))
  ol : w.ownsRow base 3 1 ov os.length (os.map (Value.int .i64))
  ap1 : Apart pv ov
  ap2 : Apart pv nv
  ap3 : Apart ov nv
  hb : base ≤ w.heap.size
  c0 : ∀ b, base ≤ b → col b = 0
section
variable {w w' : World} {base TB n : Nat} {col : Nat → Nat} {tc nc ps os : List Int} {pv ov nv : Value}
theorem SetsW.q (h : SetsW w base TB col n tc nc ps os pv ov nv) (q : Q w w') : SetsW w' base TB col n tc nc ps os pv ov nv :=
  ⟨h.tree.q q, own_q h.now q, own_q h.pl q, own_q h.ol q, h.ap1, h.ap2, h.ap3, Nat.le_trans h.hb q.size, h.c0⟩
theorem SetsW.set (h : SetsW w base TB col n tc nc ps os pv ov nv) {i v : Int} {e : Ending} (r : SetRet w TB col tc i v e w') : SetsW w' base TB col n (setZ tc i v) nc ps os pv ov nv := by
  have no : ∀ {E : TypeId} {z : Nat} {u : Value} {m : Nat} {xs : List Value}, w.ownsRow base E z u m xs → ∀ k, u.ownBlock = some k → ¬ col k ≠ 0 := fun ho k hk hc => hc (h.c0 k (ho.lt k hk).1)
  exact ⟨r.2.1, own_qf h.now r.2.2 (no h.now), own_qf h.pl r.2.2 (no h.pl), own_qf h.ol r.2.2 (no h.ol), h.ap1, h.ap2, h.ap3, Nat.le_trans h.hb r.2.2.size, h.c0⟩
theorem apart_grown {u v v' : Value} {E : TypeId} {z m : Nat} {xs : List Value} (ha : Apart u v) (ho : w.ownsRow base E z v m xs) (hk : ∀ k, v'.ownBlock = some k → u.ownBlock = some k ∨ w.heap.size ≤ k) : Apart v' v := by
  intro k h1 h2
  rcases hk k h1 with h' | h'
  · exact ha k h' h2
  · have := (ho.lt k h2).2; omega
theorem SetsW.addP (h : SetsW w base TB col n tc nc ps os pv ov nv) {k : Int} {u : Value} (ho : w'.ownsRow base 3 1 u (ps.length + 1) (ps.map (Value.int .i64) ++ [.int .i64 k])) (q : QF (fun b => pv.ownBlock = some b) w w')
    (hk : ∀ b, u.ownBlock = some b → pv.ownBlock = some b ∨ w.heap.size ≤ b) : SetsW w' base TB col n tc nc (ps ++ [k]) os u ov nv := by
  refine ⟨h.tree.qf q (fun b hb => h.c0 b (h.pl.lt b hb).1), own_qf h.now q (fun b h1 h2 => h.ap2 b h2 h1), ?_, own_qf h.ol q (fun b h1 h2 => h.ap1 b h2 h1), apart_grown h.ap1 h.ol hk, apart_grown h.ap2 h.now hk, h.ap3, Nat.le_trans h.hb q.size, h.c0⟩
  rw [List.length_append, List.map_append]
  exact ho
theorem SetsW.addO (h : SetsW w base TB col n tc nc ps os pv ov nv) {k : Int} {u : Value} (ho : w'.ownsRow base 3 1 u (os.length + 1) (os.map (Value.int .i64) ++ [.int .i64 k])) (q : QF (fun b => ov.ownBlock = some b) w w')
    (hk : ∀ b, u.ownBlock = some b → ov.ownBlock = some b ∨ w.heap.size ≤ b) : SetsW w' base TB col n tc nc ps (os ++ [k]) pv u nv := by
  refine ⟨h.tree.qf q (fun b hb => h.c0 b (h.ol.lt b hb).1), own_qf h.now q (fun b h1 h2 => h.ap3 b h2 h1), own_qf h.pl q (fun b h1 h2 => h.ap1 b h1 h2), ?_, (apart_grown h.ap1.symm h.pl hk).symm, h.ap2, apart_grown h.ap3 h.now hk, Nat.le_trans h.hb q.size, h.c0⟩
  rw [List.length_append, List.map_append]
  exact ho
theorem SetsW.putN {g cap : Nat} (h : SetsW w base TB col n tc nc ps os pv ov (.slice (some ⟨g, 0, none⟩) n cap)) (k : Nat) (v : Int) : SetsW (w.setCell ⟨g, k, none⟩ (.int .i64 v)) base TB col n tc (nc.set k v) ps os pv ov (.slice (some ⟨g, 0, none⟩) n cap) := by
  have q : QF (fun b => b = g) w (w.setCell ⟨g, k, none⟩ (.int .i64 v)) := QF.set (F := fun b => b = g) w g k _ rfl
  refine ⟨h.tree.qf q (fun b hb => h.c0 b (by rw [hb]; exact (h.now.lt g rfl).1)), ?_, own_qf h.pl q (fun b h1 h2 => h.ap2 b h1 (by rw [h2]; rfl)), own_qf h.ol q (fun b h1 h2 => h.ap3 b h1 (by rw [h2]; rfl)), h.ap1, h.ap2, h.ap3, Nat.le_trans h.hb q.size, h.c0⟩
  rw [List.map_set]
  exact own_set h.now k _
end
theorem append_one_f {P : Program} {w1 : World} {ops : Array Oper} {rest : List Oper} {op : Oper} {a : Act} {R : Exit → Act → World → Prop} (hgd : op.guard = none) (s x : Operand) (t : TypeId)
    (ho : op.op = .call { callee := .builtin .append, args := #[s, x], argTypes := #[t, t] })
    (base : Nat) (E : TypeId) (i : TypeInfo) (z : Value) (size bytes : Nat) (ht : P.underlying t = some (.slice E)) (hi : P.info? E = some i) (hz : i.zero = some z)
    (hsize : i.size = size) (hby : i.bytes = bytes) (hzs : z.cells.size = size) (hsz : 0 < size)
    (v : Value) (n : Nat) (xs : List Value) (hs : a.eval s = v) (hown : w1.ownsRow base E size v n xs)
    (B : Nat) (hB : w1.heap.size = B) (news : List Value) (hx : a.eval x = .slice (some ⟨B, 0, none⟩) 1 1) (hl : news.length = size) (h1 : ∀ u ∈ news, u.oneCell' = true)
    (hn : n ≤ 90000) (hby2 : bytes ≤ 100000) (hb : base ≤ w1.heap.size)
    (h : ∀ g cap w', w'.ownsRow base E size (.slice (some ⟨g, 0, none⟩) (n + 1) cap) (n + 1) (xs ++ news) → QF (fun b => v.ownBlock = some b) w1 w' →
      (∀ k, (Value.slice (some ⟨g, 0, none⟩) (n + 1) cap).ownBlock = some k → v.ownBlock = some k ∨ w1.heap.size ≤ k) → wpList P ops R rest (a.put op.dst (.slice (some ⟨g, 0, none⟩) (n + 1) cap)) w') :
    wpList P ops R (op :: rest) a (w1.alloc (.cells news.toArray E)) := by
  subst hB
  have hq : Q w1 (w1.alloc (.cells news.toArray E)) := (Q.refl w1).alloc _
  have hsl : Sl (w1.alloc (.cells news.toArray E)) size (some ⟨w1.heap.size, 0, none⟩) 1 1 news := by
    refine ⟨by omega, by omega, by decide, (fun e => by cases e), .inr ⟨w1.heap.size, 0, rfl, by simp, fun j u hu => ?_⟩⟩
    rw [Nat.zero_add]
    exact ((Box.new w1 news E).2 j u hu).1
  refine wpList_append_sl hgd s x t ho base E i z size bytes ht hi hz hsize hby hzs hsz v n xs hs (hown.alloc _) (some ⟨w1.heap.size, 0, none⟩) 1 1 news hx hsl h1 (by omega) hby2 (by have := hq.size; omega) ?_
  intro a' cap w' hown' hg hk
  obtain ⟨g, rfl⟩ : ∃ g, a' = some ⟨g, 0, none⟩ := by
    rcases hown'.2 with ⟨he, h0⟩ | ⟨g, c, cur, he, _⟩
    · omega
    · cases he; exact ⟨g, rfl⟩
  refine h g cap w' hown' ?_ ?_
  · have h2 := QF.grown (F := fun b => v.ownBlock = some b) hg (fun k e => e)
    exact (QF.of (F := fun b => v.ownBlock = some b) hq).trans h2 (fun i e => .inl e)
  · intro k hk'
    rcases hk k hk' with h' | h'
    · exact .inl h'
    · exact .inr (by have := hq.size; omega)
end Go.Proofs.Ytcgnihgebifcjaa
