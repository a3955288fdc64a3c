/- Lemmas for Advance: rows being filled. -/
import Derived.Test.YtpoffkkkkieniaaQC
import Derived.Test.YtpoffkkkkieniaaTree
import Derived.Test.YtpoffkkkkieniaaOwnSet
import Derived.Laws.OwnMore
import Derived.Maps.OwnSet
import Derived.Deep.DeepCutAuto
namespace Go.Proofs.Ytpoffkkkkieniaa
open Go Go.RowKit Go.BigFrame

theorem Ext.trans {w w' : World} {a b c : Nat → Nat} (h : Ext w a b) (k : Ext w' b c) (hs : w.heap.size ≤ w'.heap.size) : Ext w a c := fun i hi => (k i (by omega)).trans (h i hi)
theorem ext_new {w : World} {col col' : Nat → Nat} (h : Ext w col col') : ∀ i, colF col' i → colF col i ∨ w.heap.size ≤ i := fun i hi => by
  rcases Nat.lt_or_ge i w.heap.size with h' | h'
  · left
    show col i ≠ 0
    rw [← h i h']; exact hi
  · exact .inr h'
theorem QDone.trans {B : Nat} {col : Nat → Nat} {w w1 w2 : World} {s' : QS} {col1 : Nat → Nat} (he : Ext w col col1) (hq : QF (colF col) w w1) (h : QDone B col1 w1 s' w2) : QDone B col w s' w2 := by
  obtain ⟨c2, h1, h2, h3⟩ := h
  exact ⟨c2, h1, he.trans h2 hq.size, hq.trans h3 (ext_new he)⟩
theorem own_setG {w : World} {base : Nat} {E : TypeId} {size g n cap : Nat} {cs : List Value} (h : w.ownsRow base E size (.slice (some ⟨g, 0, none⟩) n cap) n cs) (k : Nat) (v : Value) :
    (w.setCell ⟨g, k, none⟩ v).ownsRow base E size (.slice (some ⟨g, 0, none⟩) n cap) n (cs.set k v) := by
  obtain ⟨h1, h2⟩ := h
  refine ⟨by simpa using h1, ?_⟩
  rcases h2 with ⟨he, _⟩ | ⟨g', c, cur, he, hb, hg, hn, hm, hs, ht⟩
  · cases he
  · cases he
    refine .inr ⟨g, cap, cur.setIfInBounds k v, rfl, hb, ?_, hn, hm, by simpa using hs, ?_⟩
    · obtain ⟨hlt, hk2⟩ := Array.getElem?_eq_some_iff.1 hg
      show (w.heap.modify g _)[g]? = _
      rw [Array.getElem?_eq_getElem (by rw [Array.size_modify]; exact hlt), Array.getElem_modify_self, hk2]
      rfl
    · rw [← ht]
      simp [List.take_set]
theorem own_cellG {w : World} {base : Nat} {E : TypeId} {size g n cap : Nat} {cs : List Value} (h : w.ownsRow base E size (.slice (some ⟨g, 0, none⟩) n cap) n cs) (k : Nat) (v : Value) (hv : cs[k]? = some v) : w.cell? ⟨g, k, none⟩ = some v ∧ w.frozen? ⟨g, k, none⟩ = false := by
  have hc := h.cells (show (Value.slice (some ⟨g, 0, none⟩) n cap).ownBlock = some g from rfl) k v hv
  refine ⟨by rw [Addr.add_lit, Nat.zero_add] at hc; exact hc, ?_⟩
  rcases h.2 with ⟨he, _⟩ | ⟨g', c, cur, he, hb, hg, _⟩
  · cases he
  · cases he; simp [World.frozen?, hg]
theorem inCells_set (cs : List Int) (p : Nat) (c : Int) (hp : p < cs.length) :
    (((inCells cs).set (p * 3) (.int .i64 (c % 3 - 1))).set (p * 3 + 1) (.int .i64 (c / 3 % 3 - 1))).set (p * 3 + 2) (.int .i64 (c / 9)) = inCells (cs.set p c) := by
  induction cs generalizing p with
  | nil => simp at hp
  | cons x cs ih =>
    cases p with
    | zero => simp [inCells, inC]
    | succ p =>
      have := ih p (by simpa using hp)
      simp only [inCells, List.flatMap_cons] at this ⊢
      rw [List.set_cons_succ, List.flatMap_cons, ← this]
      rw [show (p + 1) * 3 = (p * 3) + 1 + 1 + 1 by omega]
      simp [inC]
/-- a player's input in a pending row, a zero input if none is given -/
def rawI (r : List (Option Int)) (p : Nat) : Int := (r.getD p none).getD 4
/-- the new row, filled up to player p -/
def inList (s : QS) (p : Nat) : List Int := (List.range s.k).map (fun j => if j < p then fixI s j else rawI (s.acc s.tks.length) j)
def missList (s : QS) (p : Nat) : List Bool := (List.range s.k).map (fun j => if j < p then fixM s j else false)
theorem inList_len (s : QS) (p : Nat) : (inList s p).length = s.k := by simp [inList]
theorem missList_len (s : QS) (p : Nat) : (missList s p).length = s.k := by simp [missList]
theorem inList_end (s : QS) : inList s s.k = (fixRow s).1 := by
  unfold inList fixRow
  exact List.map_congr_left fun j hj => if_pos (List.mem_range.1 hj)
theorem missList_end (s : QS) : missList s s.k = (fixRow s).2 := by
  unfold missList fixRow
  exact List.map_congr_left fun j hj => if_pos (List.mem_range.1 hj)
theorem list_step {α : Type} (k p : Nat) (f g : Nat → α) (hp : p < k) : (List.range k).map (fun j => if j < p + 1 then f j else g j) = ((List.range k).map (fun j => if j < p then f j else g j)).set p (f p) := by
  apply List.ext_getElem?
  intro i
  rw [List.getElem?_set]
  by_cases hi : i < k
  · simp only [List.getElem?_map, List.length_map, List.length_range, List.getElem?_range hi, Option.map_some]
    by_cases he : p = i
    · subst he
      simp [hi]
    · rw [if_neg he]
      by_cases h1 : i < p
      · rw [if_pos h1, if_pos (by omega)]
      · rw [if_neg h1, if_neg (by omega)]
  · have : ∀ (l : List Nat), l.length = k → ∀ (h : Nat → α), (l.map h)[i]? = none := fun l hl h => List.getElem?_eq_none (by rw [List.length_map]; omega)
    rw [this _ (by simp), this _ (by simp)]
    simp; omega
theorem inList_step (s : QS) (p : Nat) (hp : p < s.k) : inList s (p + 1) = (inList s p).set p (fixI s p) := list_step s.k p _ _ hp
theorem missList_step (s : QS) (p : Nat) (hp : p < s.k) : missList s (p + 1) = (missList s p).set p (fixM s p) := list_step s.k p _ _ hp
theorem inList_get (s : QS) (p : Nat) (hp : p < s.k) : (inList s p)[p]? = some (rawI (s.acc s.tks.length) p) := by
  simp [inList, hp]
theorem missList_get (s : QS) (p : Nat) (hp : p < s.k) : (missList s p)[p]? = some false := by
  simp [missList, hp]
theorem set_self {α : Type} (l : List α) (p : Nat) (x : α) (h : l[p]? = some x) : l.set p x = l := by
  obtain ⟨hl, he⟩ := List.getElem?_eq_some_iff.1 h
  rw [← he]; exact List.set_getElem_self hl
theorem step_given (s : QS) (p : Nat) (hp : p < s.k) (h : ((s.acc s.tks.length).getD p none).isSome = true) : inList s (p + 1) = inList s p ∧ missList s (p + 1) = missList s p := by
  obtain ⟨c, hc⟩ := Option.isSome_iff_exists.1 h
  constructor
  · rw [inList_step s p hp]
    refine set_self _ _ _ ?_
    rw [inList_get s p hp]
    unfold rawI fixI
    rw [hc]; rfl
  · rw [missList_step s p hp]
    refine set_self _ _ _ ?_
    rw [missList_get s p hp]
    unfold fixM
    rw [hc]; rfl
theorem step_missing (s : QS) (p : Nat) (hp : p < s.k) (h : ((s.acc s.tks.length).getD p none).isSome = false) : inList s (p + 1) = (inList s p).set p (prevC s p % 9) ∧ missList s (p + 1) = (missList s p).set p true := by
  have hn : (s.acc s.tks.length).getD p none = none := by simpa using h
  constructor
  · rw [inList_step s p hp]
    unfold fixI
    rw [hn]
  · rw [missList_step s p hp]
    unfold fixM
    rw [hn]; rfl
theorem rowC_take (r : List (Option Int)) (hr : r.length = 8) (k : Nat) (hk : k ≤ 8) (j : Nat) (u : Value) (hu : (inCells ((List.range k).map (rawI r)))[j]? = some u) : (rowC r)[j]? = some u := by
  have hj : j < k * 3 := by
    rcases Nat.lt_or_ge j (k * 3) with h | h
    · exact h
    · rw [List.getElem?_eq_none (by rw [inCells_len]; simp; omega)] at hu; cases hu
  obtain ⟨q, i, hi, rfl⟩ : ∃ q i, i < 3 ∧ j = q * 3 + i := ⟨j / 3, j % 3, by omega, by omega⟩
  have hq : q < k := by omega
  rw [rowC_in r hr q i (by omega) hi, ← hu]
  unfold inCells
  rw [flatG inC 3 (fun _ => rfl) _ q i (by simpa using hq) hi]
  simp [rawI]
theorem inList_zero (s : QS) : inList s 0 = (List.range s.k).map (rawI (s.acc s.tks.length)) := by simp [inList]
theorem missList_zero (s : QS) : missList s 0 = List.replicate s.k false := by
  unfold missList
  simp
  exact List.eq_replicate_iff.2 ⟨by simp, fun b hb => by obtain ⟨_, _, rfl⟩ := List.mem_map.1 hb; rfl⟩
/-- the pending inputs of r, read as a slice of its block -/
theorem sl_rowC {w : World} {R : Nat} {r : List (Option Int)} (hr : r.length = 8) (k : Nat) (hk : k ≤ 8) (h : Box w R (rowC r)) : Sl w 3 (some ⟨R, 0, none⟩) k 8 (inCells ((List.range k).map (rawI r))) :=
  ⟨by rw [inCells_len]; simp, hk, by unfold maxLen; omega, (fun e => by cases e), .inr ⟨R, 0, rfl, h.1, fun j u hu => by rw [Nat.zero_add]; exact (h.2 _ _ (rowC_take r hr k hk j u hu)).1⟩⟩
theorem prevC_at (s : QS) (ok : OkS s) (p : Nat) (hp : p < s.k) (x : List Int × List Bool) (hx : s.tks.getLast? = some x) : x.1[p]? = some (prevC s p) := by
  have hm := List.mem_of_getLast? hx
  obtain ⟨h1, _⟩ := ok.tk1 x hm
  unfold prevC
  rw [hx]
  have hp' : p < x.1.length := by omega
  simp [List.getD, hp']
/-- what is pending for a tick is struck -/
def accClear (s : QS) (t : Int) : QS := { s with acc := fun x => if x = t then none8 else s.acc x }
theorem QueX.drop {w w' : World} {B MB tc : Nat} {col : Nat → Nat} {s : QS} {ta : Option Addr} {cs : List (Value × Value)} {mp : Int → Option Nat} (h : QueX w B col s MB ta tc cs mp) (t : Int)
    (q : QF (· = MB) w w') (hmap : MapIs Try.prog 3 kI w' MB (fun y => if y = t then none else rowP (mp y))) : QueX w' B col (accClear s t) MB ta tc cs (fun y => if y = t then none else mp y) where
  box := h.box.qf q (fun e => by have h1 := h.cB; have h2 := h.cM; rw [e] at h1; omega)
  map := by
    have e : (fun y => if y = t then none else rowP (mp y)) = fun y => rowP (if y = t then none else mp y) := by
      funext y
      split <;> rfl
    rw [← e]; exact hmap
  row := fun u b hb => by
    replace hb : (if u = t then none else mp u) = some b := hb
    split at hb
    · cases hb
    · rename_i hu
      obtain ⟨h1, h2⟩ := h.row u b hb
      refine ⟨?_, h2⟩
      show Box w' b (rowC (if u = t then none8 else s.acc u))
      rw [if_neg hu]
      exact h1.qf q (fun e => by have := h.cM; rw [e] at h2; omega)
  inj := fun u v b hu hv => by
    replace hu : (if u = t then none else mp u) = some b := hu
    replace hv : (if v = t then none else mp v) = some b := hv
    split at hu
    · cases hu
    · split at hv
      · cases hv
      · exact h.inj u v b hu hv
  nn := fun u hu hl => by
    replace hu : (if u = t then none else mp u) = none := hu
    show (if u = t then none8 else s.acc u) = none8
    split
    · rfl
    · rename_i hne
      rw [if_neg hne] at hu
      exact h.nn u hu hl
  cl := h.cl
  tk := fun i x hx => by
    obtain ⟨c, hc, hk⟩ := h.tk i x hx
    exact ⟨c, hc, hk.mono q (fun b hb e => by have := h.cM; rw [e] at hb; omega) (fun b hb => hb)⟩
  own := own_qf h.own q (fun g hg e => by have h1 := h.cT g hg; have := h.cM; rw [e] at h1; omega)
  cB := h.cB
  cM := h.cM
  cT := h.cT
  lt := fun b hb => Nat.lt_of_lt_of_le (h.lt b hb) q.size
theorem getLast_at {α : Type} (l : List α) (n : Nat) (h : l.length = n + 1) : ∃ x, l[n]? = some x ∧ l.getLast? = some x := by
  have hn : n < l.length := by omega
  refine ⟨l[n], by simp [hn], ?_⟩
  rw [List.getLast?_eq_getElem?, h]
  simp [hn]
/-- the next tick is appended: a, b its slices, in new blocks; g the block of the array -/
theorem QueX.push {w w' : World} {B MB tc tc' : Nat} {col : Nat → Nat} {s : QS} {ta : Option Addr} {cs : List (Value × Value)} {mp : Int → Option Nat} (h : QueX w B col (accClear s s.tks.length) MB ta tc cs mp) (hm : mp s.tks.length = none)
    (w0 : World) (hc0 : ∀ b, w0.heap.size ≤ b → col b = 0) (gA gB gT cA cB : Nat) (hA : w0.heap.size ≤ gA) (hB : w0.heap.size ≤ gB) (hAl : gA < w'.heap.size) (hBl : gB < w'.heap.size)
    (sA : Sl w' 3 (some ⟨gA, 0, none⟩) s.k cA (inCells (fixRow s).1)) (sB : Sl w' 1 (some ⟨gB, 0, none⟩) s.k cB ((fixRow s).2.map Value.bool))
    (hT : (col gT = 3 ∨ w0.heap.size ≤ gT) ∧ gT ≠ gA ∧ gT ≠ gB ∧ gT < w'.heap.size) (q : QF (fun b => col b = 3 ∨ w0.heap.size ≤ b ∨ b = B) w w')
    (hbox : Box w' B [.int .i64 s.k, .int .i64 s.wt, .map (some MB), .slice (some ⟨gT, 0, none⟩) (s.tks.length + 1 : Nat) tc'])
    (hown : w'.ownsRow 0 74 2 (.slice (some ⟨gT, 0, none⟩) (s.tks.length + 1) tc') (s.tks.length + 1) ((cs ++ [(Value.slice (some ⟨gA, 0, none⟩) s.k cA, Value.slice (some ⟨gB, 0, none⟩) s.k cB)]).flatMap pairC)) :
    QueX w' B (fun b => if b = gA ∨ b = gB then 5 else if b = gT then 3 else col b) (fixT s) MB (some ⟨gT, 0, none⟩) tc' (cs ++ [(Value.slice (some ⟨gA, 0, none⟩) s.k cA, Value.slice (some ⟨gB, 0, none⟩) s.k cB)]) mp := by
  have hcl : cs.length = s.tks.length := h.cl
  have old : ∀ b, b < w0.heap.size → b ≠ gT → (if b = gA ∨ b = gB then 5 else if b = gT then 3 else col b) = col b := fun b hb hne => by
    rw [if_neg (by omega), if_neg hne]
  have cold : ∀ b, col b ≠ 0 → b < w0.heap.size := fun b hb => by
    rcases Nat.lt_or_ge b w0.heap.size with h' | h'
    · exact h'
    · exact absurd (hc0 b h') hb
  have notT : ∀ b, col b ≠ 0 → col b ≠ 3 → b ≠ gT := fun b h1 h2 e => by
    rcases hT.1 with h3 | h3
    · rw [e] at h2; exact h2 h3
    · have := cold b h1; omega
  have keep : ∀ b, col b ≠ 0 → col b ≠ 3 → (if b = gA ∨ b = gB then 5 else if b = gT then 3 else col b) = col b := fun b h1 h2 => old b (cold b h1) (notT b h1 h2)
  have nF : ∀ b, col b ≠ 0 → col b ≠ 3 → b ≠ B → ¬ (col b = 3 ∨ w0.heap.size ≤ b ∨ b = B) := fun b h1 h2 h3 e => by
    have := cold b h1
    omega
  refine ⟨?_, ?_, ?_, h.inj, ?_, ?_, ?_, ?_, ?_, ?_, ?_, ?_⟩
  · have e : (fixT s).tks.length = s.tks.length + 1 := by simp [fixT]
    rw [e]; exact hbox
  · exact h.map.qf q (nF MB (by rw [h.cM]; decide) (by rw [h.cM]; decide) (fun e => by have := h.cB; rw [← e, h.cM] at this; omega))
  · intro t b hb
    have hne : t ≠ s.tks.length := fun e => by rw [e, hm] at hb; cases hb
    obtain ⟨h1, h2⟩ := h.row t b hb
    refine ⟨?_, ?_⟩
    · replace h1 : Box w b (rowC (if t = s.tks.length then none8 else s.acc t)) := h1
      rw [if_neg hne] at h1
      exact h1.qf q (nF b (by omega) (by omega) (fun e => by have := h.cB; rw [← e, h2] at this; omega))
    · show (if b = gA ∨ b = gB then 5 else if b = gT then 3 else col b) = 4
      rw [keep b (by omega) (by omega)]; exact h2
  · intro t ht hl
    have hl' : ((s.tks.length : Int) + 1) ≤ t := by have : (fixT s).tks.length = s.tks.length + 1 := by simp [fixT]
                                                    omega
    have := h.nn t ht (show (s.tks.length : Int) ≤ t by omega)
    replace this : (if t = s.tks.length then none8 else s.acc t) = none8 := this
    rw [if_neg (by omega)] at this
    exact this
  · simp [fixT, hcl]
  · intro i x hx
    replace hx : (s.tks ++ [fixRow s])[i]? = some x := hx
    rcases Nat.lt_trichotomy i s.tks.length with hi | hi | hi
    · rw [List.getElem?_append_left hi] at hx
      obtain ⟨c, hc, hk⟩ := h.tk i x hx
      exact ⟨c, by rw [List.getElem?_append_left (by omega)]; exact hc, hk.mono q (fun b hb => nF b (by omega) (by omega) (fun e => by have := h.cB; rw [← e, hb] at this; omega)) (fun b hb => by
        show (if b = gA ∨ b = gB then 5 else if b = gT then 3 else col b) = 5
        rw [keep b (by omega) (by omega)]; exact hb)⟩
    · rw [hi, List.getElem?_append_right (Nat.le_refl _), Nat.sub_self] at hx
      cases hx
      have l1 : (fixRow s).1.length = s.k := by simp [fixRow]
      have l2 : (fixRow s).2.length = s.k := by simp [fixRow]
      refine ⟨_, by rw [hi, ← hcl, List.getElem?_append_right (Nat.le_refl _), Nat.sub_self]; rfl, some ⟨gA, 0, none⟩, cA, some ⟨gB, 0, none⟩, cB, by rw [l1, l2], by rw [l1]; exact sA, by rw [l2]; exact sB, fun g hg => ?_, fun g hg => ?_⟩
      · cases hg; exact if_pos (.inl rfl)
      · cases hg; exact if_pos (.inr rfl)
    · rw [List.getElem?_eq_none (by simp; omega)] at hx; cases hx
  · have e : (fixT s).tks.length = s.tks.length + 1 := by simp [fixT]
    rw [e]; exact hown
  · show (if B = gA ∨ B = gB then 5 else if B = gT then 3 else col B) = 1
    rw [keep B (by rw [h.cB]; decide) (by rw [h.cB]; decide)]; exact h.cB
  · show (if MB = gA ∨ MB = gB then 5 else if MB = gT then 3 else col MB) = 2
    rw [keep MB (by rw [h.cM]; decide) (by rw [h.cM]; decide)]; exact h.cM
  · intro g hg
    cases hg
    show (if gT = gA ∨ gT = gB then 5 else if gT = gT then 3 else col gT) = 3
    rw [if_neg (by omega), if_pos rfl]
  · intro b hb
    replace hb : (if b = gA ∨ b = gB then 5 else if b = gT then 3 else col b) ≠ 0 := hb
    split at hb
    · rename_i he
      rcases he with rfl | rfl
      · exact hAl
      · exact hBl
    · split at hb
      · rename_i he; rw [he]; exact hT.2.2.2
      · exact Nat.lt_of_lt_of_le (h.lt b hb) q.size
/-- the type of the cells of a block -/
def Typed (w : World) (b : Nat) (t : TypeId) : Prop := ∃ cs fz, w.heap[b]? = some (.cells cs t fz)
theorem Typed.new (w : World) (cs : Array Value) (t : TypeId) : Typed (w.alloc (.cells cs t)) w.heap.size t := ⟨cs, (0, 0), heap_alloc_new w _⟩
theorem Typed.q {w w' : World} {b : Nat} {t : TypeId} (h : Typed w b t) (q : Q w w') : Typed w' b t := by
  obtain ⟨cs, fz, h⟩ := h
  exact ⟨cs, fz, (Below.block q b (Array.getElem?_eq_some_iff.1 h).1).trans h⟩
theorem Typed.own {w : World} {base : Nat} {E : TypeId} {size g n cap : Nat} {cs : List Value} (h : w.ownsRow base E size (.slice (some ⟨g, 0, none⟩) n cap) n cs) : Typed w g E := by
  rcases h.2 with ⟨he, _⟩ | ⟨g', c, cur, he, _, hg, _⟩
  · cases he
  · cases he; exact ⟨_, _, hg⟩
theorem Typed.ne {w : World} {a b : Nat} {t u : TypeId} (h : Typed w a t) (k : Typed w b u) (hn : t ≠ u) : a ≠ b := by
  rintro rfl
  obtain ⟨cs, fz, h⟩ := h
  obtain ⟨cs', fz', k⟩ := k
  rw [h] at k
  cases k
  exact hn rfl
theorem own_repl (w : World) (base k : Nat) (hk : k ≤ 10000) (hb : base ≤ w.heap.size) : (w.alloc (.cells (Array.replicate k (Value.bool false)) 4)).ownsRow base 4 1 (.slice (some ⟨w.heap.size, 0, none⟩) k k) k (List.replicate k (Value.bool false)) :=
  ⟨by simp, .inr ⟨w.heap.size, k, (Array.replicate k (Value.bool false)), rfl, hb, heap_alloc_new w _, Nat.le_refl _, by unfold maxLen; omega, by simp, by simp⟩⟩
theorem mkBools (w : World) (k : Nat) (hk : k ≤ 10000) : (Instr.makeSlice 50 (.int .i64 k) (.int .i64 k)).run Try.prog w = .ok (.slice (some ⟨w.heap.size, 0, none⟩) k k) (w.alloc (.cells (Array.replicate k (Value.bool false)) 4)) := by
  obtain ⟨i, hi, hz, h1, h2⟩ := info_parts infoBool
  have h := run_makeSlice (P := Try.prog) w 50 4 i _ Try.underlying50 hi hz .i64 .i64 k k (by omega) (by omega) (by rw [h1]; omega) (by rw [h2]; omega) (by omega)
  rw [h]
  have e : madeCells (Value.bool false).cells ((k : Int).toNat * i.size) = (Array.replicate k (Value.bool false)) := by
    rw [h1]
    apply Array.ext'
    rw [show (k : Int).toNat * 1 = k by omega]
    have := toList_madeCells_one (Value.bool false) k
    rw [Array.toList_replicate]
    exact this
  rw [e]
  rfl
def hsz (w : World) : Nat := w.heap.size
theorem hsz_le {b0 : Nat} {W w : World} (h : b0 = hsz W) (q : Q W w) : b0 ≤ w.heap.size := by rw [h]; exact q.size
theorem hsz_ge {b0 b : Nat} {W : World} (h : b0 = hsz W) (k : b0 ≤ b) : W.heap.size ≤ b := by rw [h] at k; exact k
/-- the parts of the next tick, made -/
def Made (s : QS) (W : World) (p : Nat) (FB gA cA gB : Nat) (wx : World) : Prop :=
  Box wx FB [.slice (some ⟨gA, 0, none⟩) s.k cA, .slice (some ⟨gB, 0, none⟩) s.k s.k] ∧ wx.ownsRow (hsz W) 34 3 (.slice (some ⟨gA, 0, none⟩) s.k cA) s.k (inCells (inList s p)) ∧
  wx.ownsRow (hsz W) 4 1 (.slice (some ⟨gB, 0, none⟩) s.k s.k) s.k ((missList s p).map Value.bool) ∧ Q W wx ∧ FB ≠ gA ∧ FB ≠ gB ∧ gA ≠ gB ∧ hsz W ≤ FB
theorem Box.setFar {w : World} {B B' : Nat} {vs : List Value} (h : Box w B vs) (i : Nat) (u : Value) (hb : B ≠ B') : Box (w.setCell ⟨B', i, none⟩ u) B vs := h.qf (QF.set (F := (· = B')) w B' i u rfl) hb
theorem own_far {w : World} {base : Nat} {E : TypeId} {size g n cap : Nat} {cs : List Value} (h : w.ownsRow base E size (.slice (some ⟨g, 0, none⟩) n cap) n cs) (B i : Nat) (u : Value) (hb : g ≠ B) : (w.setCell ⟨B, i, none⟩ u).ownsRow base E size (.slice (some ⟨g, 0, none⟩) n cap) n cs :=
  own_qf h (QF.set (F := (· = B)) w B i u rfl) (fun k hk => by cases hk; exact hb)
theorem advMade (s : QS) {b0 : Nat} {w3 W wx : World} {FB gA cA gB : Nat} (hb0 : b0 = hsz W ∧ b0 = hsz w3) (h0 : Q w3 W) (hq : Q W wx) (hA : wx.ownsRow b0 34 3 (.slice (some ⟨gA, 0, none⟩) s.k cA) s.k (inCells (inList s 0))) (hB : wx.ownsRow b0 4 1 (.slice (some ⟨gB, 0, none⟩) s.k s.k) s.k (List.replicate s.k (Value.bool false)))
    (hb : Box wx FB [.slice none 0 0, .slice none 0 0]) (ht : Typed wx FB 74) (hF : b0 ≤ FB) :
    ∃ FB' gA' cA' gB', Value.pointer (some ⟨FB, 0, none⟩) = .pointer (some ⟨FB', 0, none⟩) ∧ Made s w3 0 FB' gA' cA' gB' ((wx.setCell ⟨FB, 0, none⟩ (.slice (some ⟨gA, 0, none⟩) s.k cA)).setCell ⟨FB, 1, none⟩ (.slice (some ⟨gB, 0, none⟩) s.k s.k)) := by
  have n1 := Typed.ne ht (Typed.own hA) (by decide)
  have n2 := Typed.ne ht (Typed.own hB) (by decide)
  have n3 := Typed.ne (Typed.own hA) (Typed.own hB) (by decide)
  have hm : (missList s 0).map Value.bool = List.replicate s.k (Value.bool false) := by rw [missList_zero, List.map_replicate]
  refine ⟨FB, gA, cA, gB, rfl, ?_, ?_, ?_, ?_, n1, n2, n3, by rw [← hb0.2]; exact hF⟩
  · exact Box.set (Box.set hb 0 _ (show 0 < 2 by decide)) 1 _ (show 1 < 2 by decide)
  · rw [← hb0.2]; exact own_far (own_far hA FB 0 _ n1.symm) FB 1 _ n1.symm
  · rw [hm, ← hb0.2]; exact own_far (own_far hB FB 0 _ n2.symm) FB 1 _ n2.symm
  · exact h0.trans ((hq.setCell (p := ⟨FB, 0, none⟩) (hsz_ge hb0.1 hF) _).setCell (p := ⟨FB, 1, none⟩) (hsz_ge hb0.1 hF) _)
theorem Made.q {s : QS} {W wx wy : World} {p FB gA cA gB : Nat} (h : Made s W p FB gA cA gB wx) (q : Q wx wy) : Made s W p FB gA cA gB wy :=
  ⟨Box.q h.1 q, own_q h.2.1 q, own_q h.2.2.1 q, h.2.2.2.1.trans q, h.2.2.2.2⟩
theorem Made.step {s : QS} {W wx : World} {p FB gA cA gB : Nat} (h : Made s W p FB gA cA gB wx) (hs : inList s (p + 1) = (inList s p).set p (prevC s p % 9) ∧ missList s (p + 1) = (missList s p).set p true) (hp : p < s.k) :
    Made s W (p + 1) FB gA cA gB ((((wx.setCell ⟨gA, p * 3, none⟩ (.int .i64 (prevC s p % 3 - 1))).setCell ⟨gA, p * 3 + 1, none⟩ (.int .i64 (prevC s p / 3 % 3 - 1))).setCell ⟨gA, p * 3 + 2, none⟩ (.int .i64 0)).setCell ⟨gB, p, none⟩ (.bool true)) := by
  obtain ⟨h1, h2, h3, h4, n1, n2, n3, h5⟩ := h
  have b2 := h2.lt gA rfl
  have b3 := h3.lt gB rfl
  refine ⟨?_, ?_, ?_, ?_, n1, n2, n3, h5⟩
  · exact (((h1.setFar _ _ n1).setFar _ _ n1).setFar _ _ n1).setFar _ _ n2
  · rw [hs.1, ← inCells_set (inList s p) p (prevC s p % 9) (by rw [inList_len]; exact hp)]
    have e0 : prevC s p % 9 % 3 = prevC s p % 3 := by omega
    have e1 : prevC s p % 9 / 3 % 3 = prevC s p / 3 % 3 := by omega
    have e2 : prevC s p % 9 / 9 = 0 := by omega
    rw [e0, e1, e2]
    exact own_far (own_setG (own_setG (own_setG h2 _ _) _ _) _ _) gB p _ n3
  · rw [hs.2, List.map_set]
    exact own_setG (own_far (own_far (own_far h3 gA _ _ n3.symm) gA _ _ n3.symm) gA _ _ n3.symm) p (.bool true)
  · exact (((h4.setCell (p := ⟨gA, p * 3, none⟩) b2.1 _).setCell (p := ⟨gA, p * 3 + 1, none⟩) b2.1 _).setCell (p := ⟨gA, p * 3 + 2, none⟩) b2.1 _).setCell (p := ⟨gB, p, none⟩) b3.1 _
theorem sl_alloc (w : World) (cs : List Value) (t : TypeId) (size : Nat) (hl : cs.length = size) : Sl (w.alloc (.cells cs.toArray t)) size (some ⟨w.heap.size, 0, none⟩) 1 1 cs :=
  ⟨by omega, Nat.le_refl _, by decide, (fun e => by cases e), .inr ⟨w.heap.size, 0, rfl, by simp, fun j u hu => by
    have h := World.cell?_alloc_mark w cs.toArray t (0, 0) j
    rw [Nat.zero_add]
    refine Eq.trans h ?_
    rw [← hu]
    simp⟩⟩
theorem infoFixed : (Try.prog.info? 74).map (fun i => (i.zero, i.size, i.bytes)) = some (some (.agg #[.slice none 0 0, .slice none 0 0]), 2, 48) := by kernel_rfl
theorem pairs_one (cs : List (Value × Value)) (c : Value × Value) : (cs ++ [c]).flatMap pairC = cs.flatMap pairC ++ [c.1, c.2] := by simp [pairC]
/-- the next tick is appended: what the call leaves -/
theorem advPush {w w3 wr wx : World} {B MB tc tc' : Nat} {col col1 : Nat → Nat} {s : QS} {ta : Option Addr} {cs : List (Value × Value)} {mp : Int → Option Nat} {FB gA cA gB gT : Nat}
    (h : QueX w3 B col1 (accClear s s.tks.length) MB ta tc cs mp) (hm : mp s.tks.length = none) (he : Ext w col col1) (hf : QF (colF col) w w3) (hM : Made s w3 s.k FB gA cA gB wr)
    (q : QF (fun b => col1 b = 3) wr wx) (hown : wx.ownsRow 0 74 2 (.slice (some ⟨gT, 0, none⟩) (s.tks.length + 1) tc') (s.tks.length + 1) ((cs ++ [(Value.slice (some ⟨gA, 0, none⟩) s.k cA, Value.slice (some ⟨gB, 0, none⟩) s.k s.k)]).flatMap pairC))
    (hT : col1 gT = 3 ∨ wr.heap.size ≤ gT) : QDone B col w (fixT s) (wx.setCell ⟨B, 3, none⟩ (.slice (some ⟨gT, 0, none⟩) (s.tks.length + 1 : Nat) tc')) := by
  have c0 : ∀ b, w3.heap.size ≤ b → col1 b = 0 := fun b hb => Classical.byContradiction fun hn => by have := h.lt b hn; omega
  obtain ⟨m1, m2, m3, m4, n1, n2, n3, m5⟩ := hM
  unfold hsz at m2 m3 m5
  have bA := m2.lt gA rfl
  have bB := m3.lt gB rfl
  have hs3 := m4.size
  have hsx := q.size
  have hTl : gT < wx.heap.size := (hown.lt gT rfl).2
  have hT3 : col1 gT = 3 ∨ w3.heap.size ≤ gT := hT.imp id (fun h => by omega)
  have q3 : QF (fun b => col1 b = 3 ∨ w3.heap.size ≤ b ∨ b = B) w3 (wx.setCell ⟨B, 3, none⟩ (.slice (some ⟨gT, 0, none⟩) (s.tks.length + 1 : Nat) tc')) :=
    (((QF.of m4).trans q (fun i hi => .inl (.inl hi)))).setNew B 3 _ (.inl (.inr (.inr rfl)))
  have nTA : gT ≠ gA := fun e => by
    rcases hT with h' | h'
    · have := c0 gA bA.1; rw [e] at h'; omega
    · omega
  have nTB : gT ≠ gB := fun e => by
    rcases hT with h' | h'
    · have := c0 gB bB.1; rw [e] at h'; omega
    · omega
  have hBl := h.lt B (by rw [h.cB]; decide)
  have nAB : gA ≠ B := by omega
  have nBB : gB ≠ B := by omega
  have nTq : gT ≠ B := fun e => by
    rcases hT3 with h' | h'
    · rw [e, h.cB] at h'; omega
    · omega
  have mA := own_qf m2 q (fun k hk (e : col1 k = 3) => by have hk' : gA = k := Option.some.inj hk; have h0 := c0 gA bA.1; rw [hk'] at h0; omega)
  have mB := own_qf m3 q (fun k hk (e : col1 k = 3) => by have hk' : gB = k := Option.some.inj hk; have h0 := c0 gB bB.1; rw [hk'] at h0; omega)
  have hbx : Box wx B [.int .i64 s.k, .int .i64 s.wt, .map (some MB), .slice ta s.tks.length tc] := (Box.q h.box m4).qf q (fun (e : col1 B = 3) => by have := h.cB; omega)
  have hp := h.push hm w3 c0 gA gB gT cA s.k (tc' := tc') bA.1 bB.1 (by rw [World.size_setCell]; omega) (by rw [World.size_setCell]; omega)
    (by have := Sl.of_own (own_far mA B 3 (.slice (some ⟨gT, 0, none⟩) (s.tks.length + 1 : Nat) tc') nAB); rw [inList_end] at this; exact this)
    (by have := Sl.of_own (own_far mB B 3 (.slice (some ⟨gT, 0, none⟩) (s.tks.length + 1 : Nat) tc') nBB); rw [missList_end] at this; exact this)
    ⟨hT3, nTA, nTB, by rw [World.size_setCell]; omega⟩ q3 (Box.set hbx 3 _ (show 3 < 4 by decide)) (own_far hown B 3 _ nTq)
  refine ⟨_, ⟨MB, _, _, _, mp, hp⟩, fun b hb => ?_, ?_⟩
  · have hlt : b < w3.heap.size := Nat.lt_of_lt_of_le hb hf.size
    show (if b = gA ∨ b = gB then 5 else if b = gT then 3 else col1 b) = col b
    rw [if_neg (by omega)]
    split
    · rename_i e
      subst e
      rcases hT3 with h' | h'
      · rw [← he b hb]; exact h'.symm
      · omega
    · exact he b hb
  · refine hf.trans q3 (fun i hi => ?_)
    have hsw := hf.size
    rcases hi with hi | hi | hi
    · exact ext_new he i (show col1 i ≠ 0 by omega)
    · exact .inr (by omega)
    · exact ext_new he i (show col1 i ≠ 0 by rw [hi, h.cB]; decide)
end Go.Proofs.Ytpoffkkkkieniaa
