/- A tree in memory; contract: New. -/
import Derived.Test.YtcgnihgebifcjaaMkV
import Derived.Test.YtcgnihgebifcjaaClone
import Derived.Test.YtcgnihgebifcjaaOwnSet
import Derived.Test.YtcgnihgebifcjaaApp
namespace Go.Proofs.Ytcgnihgebifcjaa
open Go Go.RowKit Go.BigFrame

theorem box_own {w : World} {base : Nat} {E : TypeId} {g n cap : Nat} {cs : List Value} (h : w.ownsRow base E 1 (.slice (some ⟨g, 0, none⟩) n cap) n cs) : Box w g cs :=
  ⟨(h.lt g rfl).2, fun k v hv => own_cell h k v hv⟩
def rowF (F : Nat → Nat → Int) (h l : Nat) : List Value := (List.range (P2 (h - l))).map fun k => .int .u64 (F l k)
theorem rowF_len (F : Nat → Nat → Int) (h l : Nat) : (rowF F h l).length = P2 (h - l) := by simp [rowF]
theorem rowF_at (F : Nat → Nat → Int) (h l k : Nat) (hk : k < P2 (h - l)) : (rowF F h l)[k]? = some (.int .u64 (F l k)) := by
  unfold rowF
  rw [List.getElem?_map, List.getElem?_range hk]
  rfl
def lvS (h : Nat) (B lc : Nat → Nat) (j : Nat) : Value := .slice (some ⟨B j, 0, none⟩) (P2 (h - j)) (lc j)
/-- a tree that New builds: c levels -/
structure NewAt (W : World) (TB CB : Nat) (ca : Option Addr) (cc n h c : Nat) (cells : List Int) (va : Option Addr) (vc : Nat) (B lc : Nat → Nat) : Prop where
  box : Box W TB [.slice ca n cc, .slice va c vc]
  row : W.ownsRow (TB + 1) 23 1 (.slice va c vc) c ((List.range c).map (lvS h B lc))
  lev : ∀ j, j < c → Box W (B j) (rowF (nodeZ cells) h j) ∧ P2 (h - j) ≤ lc j ∧ lc j ≤ maxLen ∧ TB < B j
  inc : ∀ i j, i < j → j < c → B i < B j
  vne : ∀ j, j < c → ∀ y, va = some y → y.block ≠ B j
  cell : 0 < n → ca = some ⟨CB, 0, none⟩ ∧ CB < TB ∧ Box W CB (cells.map (Value.int .i64))
theorem NewAt.q {W W' : World} {TB CB : Nat} {ca : Option Addr} {cc n h c : Nat} {cells : List Int} {va : Option Addr} {vc : Nat} {B lc : Nat → Nat} (H : NewAt W TB CB ca cc n h c cells va vc B lc) (q : Q W W') : NewAt W' TB CB ca cc n h c cells va vc B lc :=
  ⟨H.box.q q, own_q H.row q, fun j hj => ⟨(H.lev j hj).1.q q, (H.lev j hj).2⟩, H.inc, H.vne, fun h0 => ⟨(H.cell h0).1, (H.cell h0).2.1, (H.cell h0).2.2.q q⟩⟩
theorem lvS_turn (h c G L : Nat) (B lc : Nat → Nat) : (List.range (c + 1)).map (lvS h (fun j => if j = c then G else B j) (fun j => if j = c then L else lc j)) = (List.range c).map (lvS h B lc) ++ [.slice (some ⟨G, 0, none⟩) (P2 (h - c)) L] := by
  rw [List.range_succ, List.map_append]
  congr 1
  · apply List.map_congr_left
    intro j hj
    have := List.mem_range.1 hj
    unfold lvS
    simp only []
    rw [if_neg (by omega), if_neg (by omega)]
  · simp [lvS]
theorem NewAt.boxAt {W W2 w9 : World} {TB CB : Nat} {ca : Option Addr} {cc n h c : Nat} {cells : List Int} {va : Option Addr} {vc : Nat} {B lc : Nat → Nat} (H : NewAt W TB CB ca cc n h c cells va vc B lc) (q : Q W W2) (hgrow : W2.grownBy w9 (Value.slice va c vc).ownBlock) : Box w9 TB [.slice ca n cc, .slice va c vc] := by
  have hgq : QF (fun b => ∃ y, va = some y ∧ y.block = b) W2 w9 := QF.grown hgrow (fun k hk => by
    cases va with
    | none => cases hk
    | some y => exact ⟨y, rfl, Option.some.inj (show some y.block = some k from hk)⟩)
  refine (H.box.q q).qf hgq (fun ⟨y, hy, e⟩ => ?_)
  subst hy
  have := (H.row.lt y.block rfl).1
  omega
theorem slNew (w : World) (cs : List Value) (t : TypeId) (size : Nat) (hl : cs.length = size) : Sl (w.alloc (.cells cs.toArray t)) size (some ⟨w.heap.size, 0, none⟩) 1 1 cs :=
  ⟨by omega, Nat.le_refl _, by decide, (fun e => by cases e), .inr ⟨w.heap.size, 0, rfl, by simp, fun j u hu => by
    have h := World.cell?_alloc_mark w cs.toArray t (0, 0) j
    rw [Nat.zero_add]
    refine Eq.trans h ?_
    simpa using hu⟩⟩
/-- one level more -/
theorem NewAt.step {W W1 W2 w9 : World} {TB CB : Nat} {ca : Option Addr} {cc n h c : Nat} {cells : List Int} {va a' : Option Addr} {vc c' G L : Nat} {B lc : Nat → Nat} (H : NewAt W TB CB ca cc n h c cells va vc B lc) (q : Q W W1) (q2 : Q W1 W2)
    (hnew : Box W1 G (rowF (nodeZ cells) h c)) (hG : W.heap.size ≤ G) (hl1 : P2 (h - c) ≤ L) (hl2 : L ≤ maxLen)
    (hown : w9.ownsRow (TB + 1) 23 1 (.slice a' (c + 1) c') (c + 1) ((List.range c).map (lvS h B lc) ++ [.slice (some ⟨G, 0, none⟩) (P2 (h - c)) L])) (hgrow : W2.grownBy w9 (Value.slice va c vc).ownBlock)
    (hT : ∀ g, (Value.slice a' (c + 1) c').ownBlock = some g → (Value.slice va c vc).ownBlock = some g ∨ g = W2.heap.size) :
    NewAt (w9.setCell ⟨TB, 1, none⟩ (.slice a' (c + 1) c')) TB CB ca cc n h (c + 1) cells a' c' (fun j => if j = c then G else B j) (fun j => if j = c then L else lc j) := by
  have hgq : QF (fun b => ∃ y, va = some y ∧ y.block = b) W2 w9 := QF.grown hgrow (fun k hk => by
    cases va with
    | none => cases hk
    | some y => exact ⟨y, rfl, Option.some.inj (show some y.block = some k from hk)⟩)
  have hqq : QF (fun b => ∃ y, va = some y ∧ y.block = b) W w9 := (QF.of (q.trans q2)).trans hgq (fun b hb => .inl hb)
  have hqn : QF (fun b => ∃ y, va = some y ∧ y.block = b) W1 w9 := (QF.of q2).trans hgq (fun b hb => .inl hb)
  have hvb : ∀ y, va = some y → TB + 1 ≤ y.block ∧ y.block < W.heap.size := fun y hy => by
    subst hy
    exact H.row.lt y.block rfl
  have hset : QF (· = TB) w9 (w9.setCell ⟨TB, 1, none⟩ (.slice a' (c + 1) c')) := QF.set (F := (· = TB)) w9 TB 1 _ rfl
  have hTB : TB < W.heap.size := H.box.1
  have hab : ∀ y, a' = some y → (∃ z, va = some z ∧ z.block = y.block) ∨ y.block = W2.heap.size := fun y hy => by
    subst hy
    rcases hT y.block rfl with h | h
    · left
      cases va with
      | none => cases h
      | some z => exact ⟨z, rfl, Option.some.inj (show some z.block = some y.block from h)⟩
    · exact .inr h
  have hsz := (q.trans q2).size
  have hsz1 := q.size
  have hsz2 := q2.size
  refine ⟨?_, ?_, fun j hj => ?_, fun i j hij hj => ?_, fun j hj y hy => ?_, fun h0 => ?_⟩
  · have hb := H.box.qf hqq (fun ⟨y, hy, e⟩ => by have := hvb y hy; omega)
    exact Box.setC hb 1 _ (show 1 < 2 by decide)
  · rw [lvS_turn]
    refine own_qf hown hset (fun k hk e => ?_)
    have := (hown.lt k hk).1
    omega
  · by_cases hjc : j = c
    · subst hjc
      simp only [if_true]
      refine ⟨(hnew.qf hqn (fun ⟨y, hy, e⟩ => by have := hvb y hy; omega)).qf hset (fun e => by omega), hl1, hl2, by omega⟩
    · have hjl : j < c := by omega
      simp only [if_neg hjc]
      obtain ⟨h1, h2, h3, h4⟩ := H.lev j hjl
      exact ⟨(h1.qf hqq (fun ⟨y, hy, e⟩ => H.vne j hjl y hy e)).qf hset (fun e => by omega), h2, h3, h4⟩
  · by_cases hjc : j = c
    · subst hjc
      simp only [if_true]
      rw [if_neg (by omega)]
      have := (H.lev i hij).1.1
      omega
    · simp only [if_neg hjc]
      rw [if_neg (by omega)]
      exact H.inc i j hij (by omega)
  · rcases hab y hy with ⟨z, hz, e⟩ | e
    · have hzb := hvb z hz
      by_cases hjc : j = c
      · subst hjc
        simp only [if_true]
        omega
      · simp only [if_neg hjc]
        rw [← e]
        exact H.vne j (by omega) z hz
    · by_cases hjc : j = c
      · subst hjc
        simp only [if_true]
        have := hnew.1
        omega
      · simp only [if_neg hjc]
        have := (H.lev j (by omega)).1.1
        omega
  · obtain ⟨h1, h2, h3⟩ := H.cell h0
    exact ⟨h1, h2, (h3.qf hqq (fun ⟨y, hy, e⟩ => by have := hvb y hy; omega)).qf hset (fun e => by omega)⟩
end Go.Proofs.Ytcgnihgebifcjaa
