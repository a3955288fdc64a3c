/- MerklePartial: the law's rows beside the tree and the partial tree. -/
import Derived.Test.YtcgnihgebifcjaaMkAE
import Derived.Test.YtcgnihgebifcjaaMkAC
namespace Go.Proofs.Ytcgnihgebifcjaa
open Go Go.RowKit Go.BigFrame

def natI (K : List Nat) : List Int := K.map (fun (k : Nat) => (k : Int))
theorem natI_len (K : List Nat) : (natI K).length = K.length := by simp [natI]
theorem natI_snoc (K : List Nat) (k : Nat) : natI (K ++ [k]) = natI K ++ [(k : Int)] := by simp [natI]
/-- the rows that the first loop builds: leaves u, indices v -/
structure PaM (w : World) (base TB : Nat) (col : Nat → Nat) (cs : List Int) (ks : List Int) (L : List LF) (u v : Value) : Prop where
  tree : TreeAt w TB col cs (nodeZ cs)
  lf : LfsOwn w base u L
  ow : w.ownsRow base 3 1 v ks.length (ks.map (Value.int .i64))
  ap : Apart u v
  av : ∀ x ∈ L, ∀ g, x.a = some g → v.ownBlock ≠ some g.block
  hb : base ≤ w.heap.size
  c0 : ∀ b, base ≤ b → col b = 0
section
variable {w w' : World} {base TB : Nat} {col : Nat → Nat} {cs ks : List Int} {L : List LF} {u v : Value}
theorem PaM.q (h : PaM w base TB col cs ks L u v) (q : Q w w') : PaM w' base TB col cs ks L u v :=
  ⟨h.tree.q q, h.lf.q q, own_q h.ow q, h.ap, h.av, Nat.le_trans h.hb q.size, h.c0⟩
theorem PaM.addL (h : PaM w base TB col cs ks L u v) (x : LF) (hx : Sl w 1 x.a x.m x.c (x.p.map (Value.int .u64)) ∧ I64 x.i ∧ I64 x.v) (ha : ∀ g, x.a = some g → u.ownBlock ≠ some g.block ∧ v.ownBlock ≠ some g.block ∧ g.block < w.heap.size) (hm : x.m ≤ 17)
    {u' : Value} (ho : w'.ownsRow base 25 3 u' (L.length + 1) (L.flatMap lfC ++ lfC x)) (q : QF (fun b => u.ownBlock = some b) w w') (hk : ∀ b, u'.ownBlock = some b → u.ownBlock = some b ∨ w.heap.size ≤ b) : PaM w' base TB col cs ks (L ++ [x]) u' v := by
  refine ⟨h.tree.qf q (fun b hb => h.c0 b (h.lf.own.lt b hb).1), h.lf.app x hx (fun g hg => (ha g hg).1) (fun g hg => (ha g hg).2.2) hm ho q hk, own_qf h.ow q (fun b h1 h2 => h.ap b h2 h1), apart_grown h.ap h.ow hk, ?_, Nat.le_trans h.hb q.size, h.c0⟩
  intro y hy g hg
  rcases List.mem_append.1 hy with h' | h'
  · exact h.av y h' g hg
  · rw [List.mem_singleton.1 h'] at hg; exact (ha g hg).2.1
theorem PaM.addK (h : PaM w base TB col cs ks L u v) {k : Int} {v' : Value} (ho : w'.ownsRow base 3 1 v' (ks.length + 1) (ks.map (Value.int .i64) ++ [.int .i64 k])) (q : QF (fun b => v.ownBlock = some b) w w')
    (hk : ∀ b, v'.ownBlock = some b → v.ownBlock = some b ∨ w.heap.size ≤ b) : PaM w' base TB col cs (ks ++ [k]) L u v' := by
  refine ⟨h.tree.qf q (fun b hb => h.c0 b (h.ow.lt b hb).1), ⟨own_qf h.lf.own q (fun b h1 h2 => h.ap b h1 h2), fun x hx => ⟨(h.lf.pr x hx).1.qf q (fun g hg e => h.av x hx g hg e), (h.lf.pr x hx).2⟩, h.lf.ap, h.lf.sz, fun x hx g hg => Nat.lt_of_lt_of_le (h.lf.lt x hx g hg) q.size⟩, ?_, ?_, ?_, Nat.le_trans h.hb q.size, h.c0⟩
  · rw [List.length_append, List.map_append]; exact ho
  · intro b h1 h2
    rcases hk b h2 with h' | h'
    · exact h.ap b h1 h'
    · have := (h.lf.own.lt b h1).2; omega
  · intro x hx g hg e
    rcases hk _ e with h' | h'
    · exact h.av x hx g hg h'
    · have := h.lf.lt x hx g hg; omega
end
/-- the memory behind NewPartial: tree cells tc, row nv of the cells now, row v of the known indices -/
structure PbM (w : World) (base TB PB MC MN : Nat) (col : Nat → Nat) (n : Nat) (tc nc ks : List Int) (s : PS) (v nv : Value) : Prop where
  tree : TreeAt w TB col tc (nodeZ tc)
  part : PartAt w PB MC MN n s
  ow : w.ownsRow base 3 1 v ks.length (ks.map (Value.int .i64))
  now : w.ownsRow base 3 1 nv n (nc.map (Value.int .i64))
  ap : Apart v nv
  pc : ∀ b, (b = PB ∨ b = MC ∨ b = MN) → col b = 0 ∧ v.ownBlock ≠ some b ∧ nv.ownBlock ≠ some b ∧ base ≤ b
  hb : base ≤ w.heap.size
  c0 : ∀ b, base ≤ b → col b = 0
section
variable {w w' : World} {base TB PB MC MN n : Nat} {col : Nat → Nat} {tc nc ks : List Int} {s : PS} {v nv : Value}
theorem PbM.q (h : PbM w base TB PB MC MN col n tc nc ks s v nv) (q : Q w w') : PbM w' base TB PB MC MN col n tc nc ks s v nv :=
  ⟨h.tree.q q, h.part.q q, own_q h.ow q, own_q h.now q, h.ap, h.pc, Nat.le_trans h.hb q.size, h.c0⟩
theorem PbM.pset (h : PbM w base TB PB MC MN col n tc nc ks s v nv) {i x : Int} {e : Ending} (r : PSetRet w PB MC MN n s i x e w') : PbM w' base TB PB MC MN col n tc nc ks (setP n i x s) v nv :=
  ⟨h.tree.qf r.2.2 (fun b hb => (h.pc b hb).1), r.2.1, own_qf h.ow r.2.2 (fun b h1 h2 => (h.pc b h2).2.1 h1), own_qf h.now r.2.2 (fun b h1 h2 => (h.pc b h2).2.2.1 h1), h.ap, h.pc, Nat.le_trans h.hb r.2.2.size, h.c0⟩
theorem PbM.tset (h : PbM w base TB PB MC MN col n tc nc ks s v nv) {i x : Int} {e : Ending} (r : SetRet w TB col tc i x e w') : PbM w' base TB PB MC MN col n (setZ tc i x) nc ks s v nv := by
  have no : ∀ {E : TypeId} {z : Nat} {u : Value} {m : Nat} {xs : List Value}, w.ownsRow base E z u m xs → ∀ k, u.ownBlock = some k → ¬ col k ≠ 0 := fun ho k hk hc => hc (h.c0 k (ho.lt k hk).1)
  exact ⟨r.2.1, h.part.qf r.2.2 (fun hc => hc (h.pc PB (.inl rfl)).1) (fun hc => hc (h.pc MC (.inr (.inl rfl))).1) (fun hc => hc (h.pc MN (.inr (.inr rfl))).1), own_qf h.ow r.2.2 (no h.ow), own_qf h.now r.2.2 (no h.now), h.ap, h.pc, Nat.le_trans h.hb r.2.2.size, h.c0⟩
theorem PbM.putN' {g cap : Nat} (h : PbM w base TB PB MC MN col n tc nc ks s v (.slice (some ⟨g, 0, none⟩) n cap)) (k : Nat) (x : Int) : PbM (w.setCell ⟨g, k, none⟩ (.int .i64 x)) base TB PB MC MN col n tc (nc.set k x) ks s v (.slice (some ⟨g, 0, none⟩) n cap) := by
  have q : QF (fun b => b = g) w (w.setCell ⟨g, k, none⟩ (.int .i64 x)) := QF.set (F := fun b => b = g) w g k _ rfl
  have np : ∀ b, (b = PB ∨ b = MC ∨ b = MN) → b ≠ g := fun b hb e => (h.pc b hb).2.2.1 (by rw [e]; rfl)
  refine ⟨h.tree.qf q (fun b hb => h.c0 b (by rw [hb]; exact (h.now.lt g rfl).1)), h.part.qf q (np PB (.inl rfl)) (np MC (.inr (.inl rfl))) (np MN (.inr (.inr rfl))), own_qf h.ow q (fun b h1 h2 => h.ap b h1 (by rw [h2]; rfl)), ?_, h.ap, h.pc, Nat.le_trans h.hb q.size, h.c0⟩
  rw [List.map_set]
  exact own_set h.now k _
theorem PbM.foot (h : PbM w base TB PB MC MN col n tc nc ks s v nv) {w0 : World} (q : Q w0 w) (hb : w0.heap.size ≤ base) {i x : Int} {e : Ending} (r : PSetRet w PB MC MN n s i x e w') : Q w0 w' :=
  QF.q q r.2.2 (fun b hb' => Nat.le_trans hb (h.pc b hb').2.2.2)
end
theorem setP_none {n : Nat} {i v : Int} {s : PS} (h : (s.cm i).isSome = false) : setP n i v s = s := by unfold setP; rw [h]; rfl
end Go.Proofs.Ytcgnihgebifcjaa
