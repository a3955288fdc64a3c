/- Plain law of Tree.Set: what the levels hold after an assignment. -/
import Derived.Test.YtcgnihgebifcjaaMkS
namespace Go.Proofs.Ytcgnihgebifcjaa
open Go Go.RowKit Go.BigFrame

def setZ (cells : List Int) (i v : Int) : List Int := if 0 ≤ i ∧ i < cells.length then cells.set i.toNat v else cells
/-- the levels with one node replaced -/
def updG (G : Nat → Nat → Int) (l x : Nat) (h : Int) : Nat → Nat → Int := fun l' x' => if l' = l ∧ x' = x then h else G l' x'
/-- a round of Set: the state is the path's hash and the levels -/
def setF (k : Nat) (s : Int × (Nat → Nat → Int)) (m : Nat) : Int × (Nat → Nat → Int) :=
  (joinZ (up k m) s.1 (s.2 m (sib (up k m))), updG s.2 (m + 1) (up k m / 2) (joinZ (up k m) s.1 (s.2 m (sib (up k m)))))
theorem leafC_set (cells : List Int) (k x : Nat) (v : Int) (h : x ≠ k) : leafC (cells.set k v) x = leafC cells x := by
  unfold leafC
  rw [List.length_set, List.getD_eq_getElem?_getD, List.getD_eq_getElem?_getD, List.getElem?_set_ne (fun e => h e.symm)]
theorem node_set (cells : List Int) (k : Nat) (v : Int) : ∀ l x, x ≠ up k l → nodeZ (cells.set k v) l x = nodeZ cells l x := by
  intro l
  induction l with
  | zero => intro x hx; rw [up_zero] at hx; exact leafC_set cells k x v hx
  | succ l ih =>
    intro x hx
    rw [up_succ] at hx
    show pairZ (nodeZ (cells.set k v) l (2 * x)) (nodeZ (cells.set k v) l (2 * x + 1)) = pairZ (nodeZ cells l (2 * x)) (nodeZ cells l (2 * x + 1))
    rw [ih (2 * x) (by omega), ih (2 * x + 1) (by omega)]
theorem sib_ne (k : Nat) : sib k ≠ k := by rw [sib_eq]; omega
/-- after m rounds -/
def midG (cells cells' : List Int) (m : Nat) : Nat → Nat → Int := fun l x => if l ≤ m then nodeZ cells' l x else nodeZ cells l x
theorem set_start (cells : List Int) (k : Nat) (v : Int) (hk : k < cells.length) : updG (nodeZ cells) 0 k (leafZ cells.length k v) = midG cells (cells.set k v) 0 ∧ leafZ cells.length k v = nodeZ (cells.set k v) 0 (up k 0) := by
  have h0 : nodeZ (cells.set k v) 0 k = leafZ cells.length k v := by
    rw [node0 (cells.set k v) k v (by rw [List.getElem?_set_self hk]), List.length_set]
  refine ⟨?_, by rw [up_zero, h0]⟩
  funext l x
  unfold updG midG
  by_cases hl : l = 0
  · subst hl
    rw [if_pos (Nat.le_refl 0)]
    by_cases hx : x = k
    · subst hx; rw [if_pos ⟨rfl, rfl⟩, h0]
    · rw [if_neg (fun h => hx h.2), node_set cells k v 0 x (by rw [up_zero]; exact hx)]
  · rw [if_neg (fun h => hl h.1), if_neg (by omega)]
theorem set_step (cells : List Int) (k : Nat) (v : Int) (m : Nat) : setF k (nodeZ (cells.set k v) m (up k m), midG cells (cells.set k v) m) m = (nodeZ (cells.set k v) (m + 1) (up k (m + 1)), midG cells (cells.set k v) (m + 1)) := by
  have hs : midG cells (cells.set k v) m m (sib (up k m)) = nodeZ (cells.set k v) m (sib (up k m)) := if_pos (Nat.le_refl m)
  have hj : joinZ (up k m) (nodeZ (cells.set k v) m (up k m)) (midG cells (cells.set k v) m m (sib (up k m))) = nodeZ (cells.set k v) (m + 1) (up k (m + 1)) := by rw [hs, join_node, up_succ]
  unfold setF
  refine Prod.ext hj ?_
  show updG (midG cells (cells.set k v) m) (m + 1) (up k m / 2) (joinZ (up k m) (nodeZ (cells.set k v) m (up k m)) (midG cells (cells.set k v) m m (sib (up k m)))) = midG cells (cells.set k v) (m + 1)
  rw [hj, ← up_succ]
  funext l x
  unfold updG midG
  by_cases hl : l = m + 1
  · subst hl
    rw [if_pos (Nat.le_refl _), if_neg (show ¬ m + 1 ≤ m by omega)]
    by_cases hx : x = up k (m + 1)
    · subst hx; rw [if_pos ⟨rfl, rfl⟩]
    · rw [if_neg (fun h => hx h.2), node_set cells k v _ x hx]
  · rw [if_neg (fun h => hl h.1)]
    by_cases h2 : l ≤ m
    · rw [if_pos h2, if_pos (by omega)]
    · rw [if_neg h2, if_neg (by omega)]
theorem set_fold (cells : List Int) (k : Nat) (v : Int) (hk : k < cells.length) : ∀ m, (List.range m).foldl (setF k) (leafZ cells.length k v, updG (nodeZ cells) 0 k (leafZ cells.length k v)) = (nodeZ (cells.set k v) m (up k m), midG cells (cells.set k v) m) := by
  intro m
  induction m with
  | zero =>
    obtain ⟨h1, h2⟩ := set_start cells k v hk
    rw [List.range_zero, List.foldl_nil, h1, ← h2]
  | succ m ih =>
    rw [List.range_succ, List.foldl_append, ih]
    exact set_step cells k v m
end Go.Proofs.Ytcgnihgebifcjaa
