/- Footprints: which blocks of the memory an operation may turn; a map in memory as a function of its keys. -/
import Derived.Test.YtpoffkkkkieniaaSlices
import Derived.Maps.Own
namespace Go.Proofs.Ytpoffkkkkieniaa
open Go Go.RowKit

/-- nothing of w but the blocks of F has turned -/
structure QF (F : Nat → Prop) (w w' : World) : Prop where
  os : w'.os = w.os
  tape : w'.tape = w.tape
  output : w'.output = w.output
  size : w.heap.size ≤ w'.heap.size
  block : ∀ k, k < w.heap.size → ¬ F k → w'.heap[k]? = w.heap[k]?

theorem QF.refl (F : Nat → Prop) (w : World) : QF F w w := ⟨rfl, rfl, rfl, Nat.le_refl _, fun _ _ _ => rfl⟩
theorem QF.of {F : Nat → Prop} {w w' : World} (h : Q w w') : QF F w w' := ⟨Below.os h, Below.tape h, Below.output h, h.size, fun k hk _ => Below.block h k hk⟩
theorem QF.drew {F : Nat → Prop} {a b : World} (h : QF F a b) : QF F a b.drew := ⟨h.os, h.tape, h.output, h.size, h.block⟩
/-- what is done to blocks of F, or to new ones -/
theorem QF.trans {F G : Nat → Prop} {a b c : World} (h : QF F a b) (k : QF G b c) (hG : ∀ i, G i → F i ∨ a.heap.size ≤ i) : QF F a c :=
  ⟨k.os.trans h.os, k.tape.trans h.tape, k.output.trans h.output, Nat.le_trans h.size k.size, fun i hi hF =>
    (k.block i (Nat.lt_of_lt_of_le hi h.size) (fun hg => (hG i hg).elim hF (fun h' => by omega))).trans (h.block i hi hF)⟩
theorem QF.mono {F G : Nat → Prop} {a b : World} (h : QF F a b) (hG : ∀ i, F i → G i) : QF G a b := ⟨h.os, h.tape, h.output, h.size, fun i hi hg => h.block i hi (fun hf => hg (hG i hf))⟩
theorem QF.set {F : Nat → Prop} (w : World) (B i : Nat) (v : Value) (hB : F B) : QF F w (w.setCell ⟨B, i, none⟩ v) :=
  ⟨rfl, rfl, rfl, by simp, fun k _ hne => Below.heap_setCell _ _ _ _ (fun e => hne (by rw [e]; exact hB))⟩
theorem QF.setNew {F : Nat → Prop} {a w : World} (h : QF F a w) (B i : Nat) (v : Value) (hB : F B ∨ a.heap.size ≤ B) : QF F a (w.setCell ⟨B, i, none⟩ v) :=
  h.trans (QF.set (F := (· = B)) w B i v rfl) (fun _ e => by rw [e]; exact hB)
theorem QF.alloc {F : Nat → Prop} {a w : World} (h : QF F a w) (o : Obj) : QF F a (w.alloc o) :=
  h.trans (QF.of (F := fun _ => False) ((Q.refl w).alloc o)) (fun _ e => e.elim)
theorem QF.grown {F : Nat → Prop} {w w' : World} {row : Option Nat} (h : w.grownBy w' row) (hr : ∀ k, row = some k → F k) : QF F w w' :=
  ⟨h.os, h.tape, h.output, h.size, fun k hk hF => h.block k hk (fun e => hF (hr k e.symm))⟩
theorem QF.q {F : Nat → Prop} {w a b : World} (h : Q w a) (g : QF F a b) (hF : ∀ k, F k → w.heap.size ≤ k) : Q w b :=
  ⟨g.os.trans (Below.os h), g.tape.trans (Below.tape h), g.output.trans (Below.output h), Nat.le_trans h.size g.size, fun k hk =>
    (g.block k (Nat.lt_of_lt_of_le hk h.size) (fun hf => by have := hF k hf; omega)).trans (Below.block h k hk)⟩
theorem Box.qf {w w' : World} {F : Nat → Prop} {B : Nat} {vs : List Value} (h : Box w B vs) (g : QF F w w') (hB : ¬ F B) : Box w' B vs := by
  have hb := g.block B h.1 hB
  refine ⟨Nat.lt_of_lt_of_le h.1 g.size, fun k v hv => ?_⟩
  exact ⟨(World.cell?_of_block (a := ⟨B, k, none⟩) hb).trans (h.2 k v hv).1, (World.frozen?_of_block (a := ⟨B, k, none⟩) hb).trans (h.2 k v hv).2⟩
theorem Sl.qf {w w' : World} {F : Nat → Prop} {size n cap : Nat} {a : Option Addr} {cs : List Value} (h : Sl w size a n cap cs) (g : QF F w w') (hB : ∀ x, a = some x → ¬ F x.block) : Sl w' size a n cap cs := by
  obtain ⟨h1, h2, h3, h4, h5⟩ := h
  refine ⟨h1, h2, h3, h4, ?_⟩
  rcases h5 with h5 | ⟨g', o, ha, hg, hc⟩
  · exact .inl h5
  · exact .inr ⟨g', o, ha, Nat.lt_of_lt_of_le hg g.size, fun j u hu => (World.cell?_of_block (a := ⟨g', o + j, none⟩) (g.block g' hg (hB _ ha))).trans (hc j u hu)⟩
theorem own_qf {w w' : World} {F : Nat → Prop} {base : Nat} {E : TypeId} {size : Nat} {v : Value} {n : Nat} {cs : List Value} (h : w.ownsRow base E size v n cs) (g : QF F w w') (hB : ∀ k, v.ownBlock = some k → ¬ F k) : w'.ownsRow base E size v n cs := by
  obtain ⟨h1, h2⟩ := h
  refine ⟨h1, ?_⟩
  rcases h2 with h2 | ⟨b, c, cur, he, hb, hg, r⟩
  · exact .inl h2
  · exact .inr ⟨b, c, cur, he, hb, (g.block b (Array.getElem?_eq_some_iff.1 hg).1 (hB b (by rw [he]; rfl))).trans hg, r⟩
theorem own_mono {w : World} {base base' : Nat} {E : TypeId} {size : Nat} {v : Value} {n : Nat} {cs : List Value} (h : w.ownsRow base E size v n cs) (hb : base' ≤ base) : w.ownsRow base' E size v n cs := by
  obtain ⟨h1, h2⟩ := h
  refine ⟨h1, ?_⟩
  rcases h2 with h2 | ⟨b, c, cur, he, hb', r⟩
  · exact .inl h2
  · exact .inr ⟨b, c, cur, he, Nat.le_trans hb hb', r⟩

theorem Box.sf {W : World} {B : Nat} {vs : List Value} (h : Box W B vs) (k : Nat) (v : Value) (hv : vs[k]? = some v) : ∀ x : After W, x.w.cell? ⟨B, k, none⟩ = some v := fun x => ((h.after x).2 k v hv).1

/-- block b is a map that holds the element m x under the key f x, and no other -/
def MapIs {κ : Type} (P : Program) (K : TypeId) (f : κ → Value) (w : World) (b : Nat) (m : κ → Option Value) : Prop :=
  ∃ es clock, w.heap[b]? = some (.map es clock) ∧ es.toList.Pairwise (fun x y => x.key ≠ y.key) ∧
    (∀ e ∈ es.toList, (∃ l, keyOf P K e.key = some l) ∧ ∃ x, e.key = f x ∧ m x = some e.val) ∧ ∀ x v, m x = some v → ∃ e ∈ es.toList, e.key = f x ∧ e.val = v
section
variable {κ : Type} {P : Program} {K : TypeId} {f : κ → Value} {w : World} {b : Nat} {m : κ → Option Value} {o' : Obj}
theorem MapIs.lt (h : MapIs P K f w b m) : b < w.heap.size := by
  obtain ⟨es, c, hb, _⟩ := h
  exact (Array.getElem?_eq_some_iff.1 hb).1
theorem MapIs.q {w' : World} (h : MapIs P K f w b m) (q : Q w w') : MapIs P K f w' b m := by
  have hlt := h.lt
  obtain ⟨es, c, hb, r⟩ := h
  exact ⟨es, c, (Below.block q b hlt).trans hb, r⟩
theorem MapIs.qf {w' : World} {F : Nat → Prop} (h : MapIs P K f w b m) (q : QF F w w') (hF : ¬ F b) : MapIs P K f w' b m := by
  have hlt := h.lt
  obtain ⟨es, c, hb, r⟩ := h
  exact ⟨es, c, (q.block b hlt hF).trans hb, r⟩
theorem MapIs.new (w : World) (P : Program) (K : TypeId) (f : κ → Value) : MapIs P K f (w.alloc (.map #[] 0)) w.heap.size (fun _ => none) :=
  ⟨#[], 0, (MapKept.heap_alloc w _).1, by simp, by simp, fun x v h => by cases h⟩
/-- 'm[k]', 'v, ok := m[k]' -/
theorem MapIs.look (h : MapIs P K f w b m) (hK : Maps.Keyed P K) {t e : TypeId} (ht : P.underlying t = some (.map K e)) (hf : ∀ x y, f x = f y → x = y) (c : Bool) {z : Value} (hz : (zeroValue e).run P w = .ok z w) (x : κ) {l : Lit} (hx : keyOf P K (f x) = some l) :
    (Instr.lookup t (.map (some b)) (f x) c).run P w = .ok (if c then .tuple #[(m x).getD z, .bool (m x).isSome] else (m x).getD z) w := by
  obtain ⟨es, clock, hb, hd, h1, h2⟩ := h
  rcases hK.find w hx es.toList (fun e he => (h1 e he).1) with ⟨hr, hn⟩ | ⟨j, e0, hr, hj, hk⟩
  · have hm : m x = none := by
      cases hmx : m x with
      | none => rfl
      | some v => obtain ⟨e, he, hke, _⟩ := h2 x v hmx; exact absurd hke (hn e he)
    simp [Instr.lookup, run_underlying ht, MapKept.run_getObj_map hb, hK.check w _ hx, hr, hz, hm, Result.andThen]
  · obtain ⟨_, y, hy, hv⟩ := h1 e0 (List.mem_of_getElem? hj)
    have : x = y := hf x y (hk.symm.trans hy)
    subst this
    simp [Instr.lookup, run_underlying ht, MapKept.run_getObj_map hb, hK.check w _ hx, hr, hv, Result.andThen]
theorem setB (hb : w.heap[b]? = some o') (o : Obj) : (ChangeMaps.setBlock w b o).heap[b]? = some o ∧ QF (· = b) w (ChangeMaps.setBlock w b o) ∧ (ChangeMaps.setBlock w b o).heap.size = w.heap.size := by
  have hlt := (Array.getElem?_eq_some_iff.1 hb).1
  refine ⟨by simp [ChangeMaps.setBlock, hlt], ⟨rfl, rfl, rfl, by simp [ChangeMaps.setBlock], fun k hk hne => ?_⟩, by simp [ChangeMaps.setBlock]⟩
  simp only [ChangeMaps.setBlock]
  rw [Array.getElem?_setIfInBounds_ne (fun e => hne e.symm)]
theorem mem_set_or {α : Type} {l : List α} {j : Nat} {y x : α} (h : x ∈ l.set j y) : x = y ∨ ∃ i : Nat, i ≠ j ∧ l[i]? = some x := by
  obtain ⟨i, hi, ex⟩ := List.getElem_of_mem h
  rw [List.getElem_set] at ex
  split at ex
  · exact .inl ex.symm
  · rename_i hne
    exact .inr ⟨i, fun e => hne e.symm, by rw [List.getElem?_eq_getElem (by simpa using hi), ex]⟩
theorem apart_get {es : List MapEntry} (hd : es.Pairwise (fun x y => x.key ≠ y.key)) {i j : Nat} {x y : MapEntry} (hi : es[i]? = some x) (hj : es[j]? = some y) (hk : x.key = y.key) : i = j := by
  rw [List.pairwise_iff_getElem] at hd
  obtain ⟨hi1, hi2⟩ := List.getElem?_eq_some_iff.1 hi
  obtain ⟨hj1, hj2⟩ := List.getElem?_eq_some_iff.1 hj
  rcases Nat.lt_trichotomy i j with h | h | h
  · exact absurd (by rw [hi2, hj2]; exact hk) (hd i j hi1 hj1 h)
  · exact h
  · exact absurd (by rw [hi2, hj2]; exact hk.symm) (hd j i hj1 hi1 h)
variable [DecidableEq κ]
/-- 'm[k] = v' -/
theorem MapIs.put (h : MapIs P K f w b m) (hK : Maps.Keyed P K) {t e : TypeId} (ht : P.underlying t = some (.map K e)) (hf : ∀ x y, f x = f y → x = y) (x : κ) {l : Lit} (hx : keyOf P K (f x) = some l) (v : Value) :
    ∃ w', (Instr.mapUpdate t (.map (some b)) (f x) v).run P w = .ok () w' ∧ MapIs P K f w' b (fun y => if y = x then some v else m y) ∧ QF (· = b) w w' ∧ w'.heap.size = w.heap.size := by
  obtain ⟨es, clock, hb, hd, h1, h2⟩ := h
  rcases hK.find w hx es.toList (fun e he => (h1 e he).1) with ⟨hr, hn⟩ | ⟨j, e0, hr, hj, hk⟩
  · obtain ⟨s1, s2, s3⟩ := setB hb (.map (es.push ⟨f x, v, clock⟩) (clock + 1))
    refine ⟨_, by simp [Instr.mapUpdate, run_underlying ht, MapKept.run_getObj_map hb, hK.check w false hx, hr, MapKept.run_setObj_map _ hb, Result.andThen]; rfl, ⟨_, _, s1, ?_, ?_, ?_⟩, s2, s3⟩
    · rw [Array.toList_push, List.pairwise_append]
      exact ⟨hd, by simp, fun a ha c hc => by rw [List.mem_singleton] at hc; rw [hc]; exact hn a ha⟩
    · intro a ha
      rw [Array.toList_push, List.mem_append, List.mem_singleton] at ha
      rcases ha with ha | rfl
      · obtain ⟨k1, y, k2, k3⟩ := h1 a ha
        exact ⟨k1, y, k2, by show (if y = x then some v else m y) = _; rw [if_neg (fun e => hn a ha (by rw [k2, e]))]; exact k3⟩
      · exact ⟨⟨l, hx⟩, x, rfl, by show (if x = x then some v else m x) = _; rw [if_pos rfl]⟩
    · intro y u hy
      replace hy : (if y = x then some v else m y) = some u := hy
      rw [Array.toList_push]
      by_cases hyx : y = x
      · rw [if_pos hyx] at hy
        cases hy
        exact ⟨_, List.mem_append_right _ (List.mem_singleton.2 rfl), by rw [hyx], rfl⟩
      · rw [if_neg hyx] at hy
        obtain ⟨a, ha, k1, k2⟩ := h2 y u hy
        exact ⟨a, List.mem_append_left _ ha, k1, k2⟩
  · have hj' : es[j]? = some e0 := by simpa using hj
    have hjl : j < es.toList.length := (List.getElem?_eq_some_iff.1 hj).1
    obtain ⟨s1, s2, s3⟩ := setB hb (.map (es.modify j (fun e' => { e' with key := f x, val := v })) clock)
    have hlist : (es.modify j (fun e' => { e' with key := f x, val := v })).toList = es.toList.set j { e0 with key := f x, val := v } := by rw [Array.toList_modify, ChangeMaps.modify_eq_set _ _ _ _ hj]
    refine ⟨_, by simp [Instr.mapUpdate, run_underlying ht, MapKept.run_getObj_map hb, hK.check w false hx, hr, hj', hk, hK.stays w hx, MapKept.run_setObj_map _ hb, Result.andThen]; rfl, ⟨_, _, s1, ?_, ?_, ?_⟩, s2, s3⟩
    · rw [hlist, List.pairwise_iff_getElem]
      rw [List.pairwise_iff_getElem] at hd
      intro p q hp hq hpq
      simp only [List.length_set] at hp hq
      rw [List.getElem_set, List.getElem_set]
      have e0k : (es.toList[j]'hjl).key = f x := by rw [(List.getElem?_eq_some_iff.1 hj).2]; exact hk
      split <;> split
      · omega
      · rename_i h3 h4
        subst h3
        exact fun e => hd _ _ hp hq hpq (e0k.trans e)
      · rename_i h3 h4
        subst h4
        exact fun e => hd _ _ hp hq hpq (e.trans e0k.symm)
      · exact hd _ _ hp hq hpq
    · intro a ha
      rw [hlist] at ha
      rcases mem_set_or ha with rfl | ⟨i, hne, hi⟩
      · exact ⟨⟨l, hx⟩, x, rfl, by show (if x = x then some v else m x) = _; rw [if_pos rfl]⟩
      · obtain ⟨k1, y, k2, k3⟩ := h1 a (List.mem_of_getElem? hi)
        refine ⟨k1, y, k2, ?_⟩
        show (if y = x then some v else m y) = _
        rw [if_neg (fun e => hne (apart_get hd hi hj (by rw [k2, e, hk])))]
        exact k3
    · intro y u hy
      replace hy : (if y = x then some v else m y) = some u := hy
      rw [hlist]
      by_cases hyx : y = x
      · rw [if_pos hyx] at hy
        cases hy
        exact ⟨_, List.mem_of_getElem? (List.getElem?_set_self hjl), by rw [hyx], rfl⟩
      · rw [if_neg hyx] at hy
        obtain ⟨a, ha, k1, k2⟩ := h2 y u hy
        obtain ⟨i, hi⟩ := List.mem_iff_getElem?.1 ha
        have hij : j ≠ i := fun e => by
          subst e
          rw [hj] at hi
          cases hi
          exact hyx (hf y x (k1.symm.trans hk))
        exact ⟨a, List.mem_of_getElem? ((List.getElem?_set_ne hij).trans hi), k1, k2⟩
/-- 'delete(m, k)' -/
theorem MapIs.drop (h : MapIs P K f w b m) (hK : Maps.Keyed P K) {t e ty : TypeId} (ht : P.underlying t = some (.map K e)) (hf : ∀ x y, f x = f y → x = y) (x : κ) {l : Lit} (hx : keyOf P K (f x) = some l) :
    ∃ w', (Builtin.delete_ #[t, K] ty #[.map (some b), f x]).run P w = .ok (.tuple #[]) w' ∧ MapIs P K f w' b (fun y => if y = x then none else m y) ∧ QF (· = b) w w' ∧ w'.heap.size = w.heap.size := by
  obtain ⟨es, clock, hb, hd, h1, h2⟩ := h
  rcases hK.find w hx es.toList (fun e he => (h1 e he).1) with ⟨hr, hn⟩ | ⟨j, e0, hr, hj, hk⟩
  · obtain ⟨s1, s2, s3⟩ := setB hb (.map es clock)
    refine ⟨_, by simp [Builtin.delete_, run_underlying ht, MapKept.run_getObj_map hb, hK.check w _ hx, hr, MapKept.run_setObj_map _ hb, Result.andThen]; rfl, ⟨_, _, s1, hd, ?_, ?_⟩, s2, s3⟩
    · intro a ha
      obtain ⟨k1, y, k2, k3⟩ := h1 a ha
      exact ⟨k1, y, k2, by show (if y = x then none else m y) = _; rw [if_neg (fun e => hn a ha (by rw [k2, e]))]; exact k3⟩
    · intro y u hy
      replace hy : (if y = x then none else m y) = some u := hy
      split at hy
      · cases hy
      · exact h2 y u hy
  · have hjl : j < es.toList.length := (List.getElem?_eq_some_iff.1 hj).1
    have hjs : j < es.size := by simpa using hjl
    have hsub : (es.eraseIdxIfInBounds j).toList = es.toList.eraseIdx j := by
      unfold Array.eraseIdxIfInBounds
      rw [dif_pos hjs]
      simp
    obtain ⟨s1, s2, s3⟩ := setB hb (.map (es.eraseIdxIfInBounds j) clock)
    refine ⟨_, by simp [Builtin.delete_, run_underlying ht, MapKept.run_getObj_map hb, hK.check w _ hx, hr, MapKept.run_setObj_map _ hb, Result.andThen]; rfl, ⟨_, _, s1, ?_, ?_, ?_⟩, s2, s3⟩
    · rw [hsub]
      exact hd.sublist (List.eraseIdx_sublist _ _)
    · intro a ha
      rw [hsub] at ha
      obtain ⟨i, hne, hi⟩ := List.mem_eraseIdx_iff_getElem?.1 ha
      obtain ⟨k1, y, k2, k3⟩ := h1 a (List.mem_of_getElem? hi)
      exact ⟨k1, y, k2, by show (if y = x then none else m y) = _; rw [if_neg (fun e => hne (apart_get hd hi hj (by rw [k2, e, hk])))]; exact k3⟩
    · intro y u hy
      replace hy : (if y = x then none else m y) = some u := hy
      rw [hsub]
      split at hy
      · cases hy
      · rename_i hyx
        obtain ⟨a, ha, k1, k2⟩ := h2 y u hy
        obtain ⟨i, hi⟩ := List.mem_iff_getElem?.1 ha
        refine ⟨a, List.mem_eraseIdx_iff_getElem?.2 ⟨i, fun e => ?_, hi⟩, k1, k2⟩
        subst e
        rw [hj] at hi
        cases hi
        exact hyx (hf y x (k1.symm.trans hk))
theorem wpList_drop {ops : Array Oper} {rest : List Oper} {o : Oper} {a : Act} {R : Exit → Act → World → Prop} (hg : o.guard = none) (om ox : Operand) (t : TypeId) (hop : o.op = Op.call { callee := Callee.builtin Builtin.delete, args := #[om, ox], argTypes := #[t, K] })
    (hK : Maps.Keyed P K) {e : TypeId} (ht : P.underlying t = some (.map K e)) (hf : ∀ x y, f x = f y → x = y) (x : κ) {l : Lit} (hx : keyOf P K (f x) = some l)
    (hm : a.eval om = .map (some b)) (hox : a.eval ox = f x) (hmap : MapIs P K f w b m)
    (h : ∀ w', MapIs P K f w' b (fun y => if y = x then none else m y) → QF (· = b) w w' → w'.heap.size = w.heap.size → wpList P ops R rest (a.put o.dst (.tuple #[])) w') : wpList P ops R (o :: rest) a w := by
  refine wpList_plain hg fun K' hK' => ?_
  obtain ⟨w', hrun, r1, r2, r3⟩ := hmap.drop hK ht hf x hx (ty := o.type)
  unfold Oper.wp
  simp [execOp, hop, resolve, invoke, builtin, hm, hox, hrun, Result.andThen]
  exact hK' _ _ (h w' r1 r2 r3)
theorem wpList_put {ops : Array Oper} {rest : List Oper} {o : Oper} {a : Act} {R : Exit → Act → World → Prop} (hg : o.guard = none) (om ox ov : Operand) (t : TypeId) (hop : o.op = Op.mapUpdate t om ox ov)
    (hK : Maps.Keyed P K) {e : TypeId} (ht : P.underlying t = some (.map K e)) (hf : ∀ x y, f x = f y → x = y) (x : κ) {l : Lit} (hx : keyOf P K (f x) = some l) (v : Value)
    (hm : a.eval om = .map (some b)) (hox : a.eval ox = f x) (hov : a.eval ov = v) (hmap : MapIs P K f w b m)
    (h : ∀ w', MapIs P K f w' b (fun y => if y = x then some v else m y) → QF (· = b) w w' → w'.heap.size = w.heap.size → wpList P ops R rest (a.put o.dst undef) w') : wpList P ops R (o :: rest) a w := by
  refine wpList_plain hg fun K' hK' => ?_
  obtain ⟨w', hrun, r1, r2, r3⟩ := hmap.put hK ht hf x hx v
  unfold Oper.wp
  simp [execOp, hop, hm, hox, hov, hrun, Result.andThen]
  exact hK' _ _ (h w' r1 r2 r3)
end
end Go.Proofs.Ytpoffkkkkieniaa
