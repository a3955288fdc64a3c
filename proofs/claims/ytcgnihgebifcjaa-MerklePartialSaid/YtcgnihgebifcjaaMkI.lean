/- A tree in memory with its blocks named; what a store into its cells or levels makes of it. -/
import Derived.Test.YtcgnihgebifcjaaMkH
namespace Go.Proofs.Ytcgnihgebifcjaa
open Go Go.RowKit Go.BigFrame

/-- the memory of a tree, its blocks named -/
def TreeE (w : World) (TB CB : Nat) (ca : Option Addr) (cc VB vc : Nat) (B lc : Nat → Nat) (col : Nat → Nat) (n h : Nat) (cells : List Int) (F : Nat → Nat → Int) : Prop :=
  Box w TB [.slice ca n cc, .slice (some ⟨VB, 0, none⟩) (h + 1) vc] ∧ (n ≤ cc ∧ cc ≤ maxLen ∧ h + 1 ≤ vc ∧ vc ≤ maxLen) ∧ (0 < n → ca = some ⟨CB, 0, none⟩ ∧ col CB = 3 ∧ Box w CB (cells.map (Value.int .i64))) ∧
    col VB = 2 ∧ Box w VB ((List.range (h + 1)).map (lvS h B lc)) ∧ ∀ j, j ≤ h → Box w (B j) (rowF F h j) ∧ P2 (h - j) ≤ lc j ∧ lc j ≤ maxLen ∧ col (B j) = 4 + j
theorem TreeAt.named {w : World} {TB : Nat} {col : Nat → Nat} {cells : List Int} {F : Nat → Nat → Int} (h : TreeAt w TB col cells F) :
    ∃ (CB : Nat) (ca : Option Addr) (cc VB vc : Nat) (B lc : Nat → Nat), TreeE w TB CB ca cc VB vc B lc col cells.length (hgt cells.length) cells F := h.ex
theorem rowF_upd (F : Nat → Nat → Int) (h j x : Nat) (y : Int) : rowF (updG F j x y) h j = (rowF F h j).set x (.int .u64 y) := by
  refine List.ext_getElem? fun i => ?_
  unfold rowF updG
  rw [List.getElem?_set, List.getElem?_map, List.getElem?_map, List.length_map, List.length_range]
  by_cases hi : i < P2 (h - j)
  · rw [List.getElem?_range hi]
    by_cases e : x = i
    · subst e; simp [hi]
    · have e2 : ¬ i = x := fun h => e h.symm
      simp [e, e2]
  · rw [List.getElem?_eq_none (by simpa using hi)]
    split
    · rename_i e; subst e; simp [hi]
    · rfl
theorem rowF_upd_ne (F : Nat → Nat → Int) (h j j' x : Nat) (y : Int) (hj : j' ≠ j) : rowF (updG F j x y) h j' = rowF F h j' := by
  unfold rowF updG
  refine List.map_congr_left fun i _ => ?_
  rw [if_neg (fun e => hj e.1)]
section
variable {w w' : World} {TB CB cc VB vc n h : Nat} {ca : Option Addr} {B lc col : Nat → Nat} {cells : List Int} {F : Nat → Nat → Int}
theorem TreeE.qf {G : Nat → Prop} (hE : TreeE w TB CB ca cc VB vc B lc col n h cells F) (hc1 : col TB = 1) (q : QF G w w') (hG : ∀ b, G b → col b = 0) : TreeE w' TB CB ca cc VB vc B lc col n h cells F := by
  obtain ⟨h1, h2, h3, h4, h5, h6⟩ := hE
  refine ⟨h1.qf q (fun e => by rw [hG _ e] at hc1; cases hc1), h2, fun h0 => ?_, h4, h5.qf q (fun e => by rw [hG _ e] at h4; cases h4), fun j hj => ?_⟩
  · obtain ⟨k1, k2, k3⟩ := h3 h0
    exact ⟨k1, k2, k3.qf q (fun e => by rw [hG _ e] at k2; cases k2)⟩
  · obtain ⟨k1, k2, k3, k4⟩ := h6 j hj
    exact ⟨k1.qf q (fun e => by rw [hG _ e] at k4; omega), k2, k3, k4⟩
theorem TreeE.level (hE : TreeE w TB CB ca cc VB vc B lc col n h cells F) (hc1 : col TB = 1) (j x : Nat) (y : Int) (hj : j ≤ h) (hx : x < P2 (h - j)) : TreeE (w.setCell ⟨B j, x, none⟩ (.int .u64 y)) TB CB ca cc VB vc B lc col n h cells (updG F j x y) := by
  obtain ⟨h1, h2, h3, h4, h5, h6⟩ := hE
  have q : QF (· = B j) w (w.setCell ⟨B j, x, none⟩ (.int .u64 y)) := QF.set (F := (· = B j)) w (B j) x _ rfl
  obtain ⟨c1, c2, c3, c4⟩ := h6 j hj
  refine ⟨h1.qf q (fun e => by rw [e] at hc1; omega), h2, fun h0 => ?_, h4, h5.qf q (fun e => by rw [e] at h4; omega), fun j' hj' => ?_⟩
  · obtain ⟨k1, k2, k3⟩ := h3 h0
    exact ⟨k1, k2, k3.qf q (fun e => by rw [e] at k2; omega)⟩
  · obtain ⟨k1, k2, k3, k4⟩ := h6 j' hj'
    by_cases e : j' = j
    · subst e
      rw [rowF_upd]
      exact ⟨Box.setC k1 x _ (by rw [rowF_len]; exact hx), k2, k3, k4⟩
    · rw [rowF_upd_ne _ _ _ _ _ _ e]
      exact ⟨k1.qf q (fun e2 => e (by rw [e2] at k4; omega)), k2, k3, k4⟩
theorem TreeE.cellset (hE : TreeE w TB CB ca cc VB vc B lc col n h cells F) (hc1 : col TB = 1) (hl : cells.length = n) (k : Nat) (v : Int) (hk : k < n) : TreeE (w.setCell ⟨CB, k, none⟩ (.int .i64 v)) TB CB ca cc VB vc B lc col n h (cells.set k v) F := by
  obtain ⟨h1, h2, h3, h4, h5, h6⟩ := hE
  have q : QF (· = CB) w (w.setCell ⟨CB, k, none⟩ (.int .i64 v)) := QF.set (F := (· = CB)) w CB k _ rfl
  obtain ⟨k1, k2, k3⟩ := h3 (by omega)
  refine ⟨h1.qf q (fun e => by rw [e] at hc1; omega), h2, fun _ => ⟨k1, k2, ?_⟩, h4, h5.qf q (fun e => by rw [e] at h4; omega), fun j hj => ?_⟩
  · rw [List.map_set]; exact Box.setC k3 k _ (by rw [List.length_map]; omega)
  · obtain ⟨m1, m2, m3, m4⟩ := h6 j hj
    exact ⟨m1.qf q (fun e => by rw [e] at m4; omega), m2, m3, m4⟩
end
theorem TreeE.at {w : World} {TB CB cc VB vc : Nat} {ca : Option Addr} {B lc col : Nat → Nat} {cells : List Int} {F F' : Nat → Nat → Int} (hE : TreeE w TB CB ca cc VB vc B lc col cells.length (hgt cells.length) cells F)
    (hF : ∀ j x, j ≤ hgt cells.length → F j x = F' j x) (c1 : col TB = 1) (n0 : ∀ b, w.heap.size ≤ b → col b = 0) (ok : I64s cells) (sm : cells.length ≤ 1000) : TreeAt w TB col cells F' := by
  obtain ⟨h1, h2, h3, h4, h5, h6⟩ := hE
  refine ⟨⟨CB, ca, cc, VB, vc, B, lc, h1, h2, h3, h4, h5, fun j hj => ?_⟩, c1, n0, ok, sm⟩
  obtain ⟨k1, k2, k3, k4⟩ := h6 j hj
  refine ⟨?_, k2, k3, k4⟩
  have : rowF F' (hgt cells.length) j = rowF F (hgt cells.length) j := by
    unfold rowF
    exact List.map_congr_left fun x _ => by rw [hF j x hj]
  rw [this]
  exact k1
end Go.Proofs.Ytcgnihgebifcjaa
