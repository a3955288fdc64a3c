/- Plain law of the partial tree: what it holds of a tree's cells, after NewPartial over that tree's own proofs and after assignments. -/
import Derived.Test.YtcgnihgebifcjaaMkAB
namespace Go.Proofs.Ytcgnihgebifcjaa
open Go Go.RowKit Go.BigFrame

/-- entries are the tree's, but for those of k's path at level m and above -/
def TrueX (cells : List Int) (k m : Nat) (N : Nat × Nat → Option Int) : Prop := ∀ l x v, N (l, x) = some v → l < hgt cells.length ∧ (v = nodeZ cells l x ∨ (x = up k l ∧ m ≤ l))
def TrueN (cells : List Int) (N : Nat × Nat → Option Int) : Prop := ∀ l x v, N (l, x) = some v → l < hgt cells.length ∧ v = nodeZ cells l x
/-- the siblings on k's path are known -/
def KnowsP (h k : Nat) (N : Nat × Nat → Option Int) : Prop := ∀ l, l < h → ∃ v, N (l, sib (up k l)) = some v
theorem TrueN.x {cells : List Int} {N : Nat × Nat → Option Int} (h : TrueN cells N) (k m : Nat) : TrueX cells k m N := fun l x v hv => ⟨(h l x v hv).1, .inl (h l x v hv).2⟩
theorem TrueN.set {cells : List Int} {N : Nat × Nat → Option Int} (h : TrueN cells N) (k : Nat) (v : Int) : TrueX (cells.set k v) k 0 N := fun l x u hu => by
  rw [List.length_set]
  refine ⟨(h l x u hu).1, ?_⟩
  by_cases e : x = up k l
  · exact .inr ⟨e, Nat.zero_le _⟩
  · exact .inl (by rw [node_set cells k v l x e]; exact (h l x u hu).2)
theorem TrueX.done {cells : List Int} {k : Nat} {N : Nat × Nat → Option Int} (h : TrueX cells k (hgt cells.length) N) : TrueN cells N := fun l x v hv => by
  obtain ⟨h1, h2⟩ := h l x v hv
  rcases h2 with h2 | ⟨_, h2⟩
  · exact ⟨h1, h2⟩
  · omega
theorem KnowsP.put {h k : Nat} {N : Nat × Nat → Option Int} (hk : KnowsP h k N) (p : Nat × Nat) (x : Int) : KnowsP h k (putN N p x) := fun l hl => by
  unfold putN
  split
  · exact ⟨_, rfl⟩
  · exact hk l hl
theorem putYtcgnihgebifcjaane {N : Nat × Nat → Option Int} {p q : Nat × Nat} {x : Int} (h : q ≠ p) : putN N p x q = N q := if_neg h
theorem TrueX.step {cells : List Int} {k m : Nat} {N : Nat × Nat → Option Int} (h : TrueX cells k m N) (hm : m < hgt cells.length) : TrueX cells k (m + 1) (putN N (m, up k m) (nodeZ cells m (up k m))) := fun l x v hv => by
  by_cases e : (l, x) = (m, up k m)
  · unfold putN at hv
    rw [if_pos e] at hv
    cases hv
    cases e
    exact ⟨hm, .inl rfl⟩
  · rw [putYtcgnihgebifcjaane e] at hv
    obtain ⟨h1, h2⟩ := h l x v hv
    refine ⟨h1, ?_⟩
    rcases h2 with h2 | ⟨h2, h3⟩
    · exact .inl h2
    · refine .inr ⟨h2, ?_⟩
      rcases Nat.lt_or_ge m l with h4 | h4
      · exact h4
      · exact absurd (by rw [h2, show l = m by omega]) e
/-- the rounds of update on a path whose siblings are known -/
theorem upd_fold (cells : List Int) (k : Nat) (N : Nat × Nat → Option Int) (hN : TrueX cells k 0 N) (hk : KnowsP (hgt cells.length) k N) : ∀ m, m ≤ hgt cells.length →
    ∃ N', (List.range m).foldl (updF k) (nodeZ cells 0 k, N) = (nodeZ cells m (up k m), N') ∧ TrueX cells k m N' ∧ ∀ j, KnowsP (hgt cells.length) j N → KnowsP (hgt cells.length) j N' := by
  intro m
  induction m with
  | zero => intro _; exact ⟨N, by rw [up_zero]; rfl, hN, fun _ h => h⟩
  | succ m ih =>
    intro hm
    obtain ⟨N', h1, h2, h3⟩ := ih (by omega)
    refine ⟨putN N' (m, up k m) (nodeZ cells m (up k m)), ?_, h2.step (by omega), fun j hj => (h3 j hj).put _ _⟩
    rw [List.range_succ, List.foldl_append, h1]
    show updF k (nodeZ cells m (up k m), N') m = _
    unfold updF
    dsimp only
    have hne : (m, sib (up k m)) ≠ (m, up k m) := fun e => sib_ne (up k m) (congrArg Prod.snd e)
    rw [putYtcgnihgebifcjaane hne]
    obtain ⟨v, hv⟩ := h3 k hk m (by omega)
    obtain ⟨_, h5⟩ := h2 m _ v hv
    have h6 : v = nodeZ cells m (sib (up k m)) := by
      rcases h5 with h5 | ⟨h5, _⟩
      · exact h5
      · exact absurd h5 (sib_ne _)
    rw [hv, h6, Option.getD_some, join_node, up_succ]
/-- a partial tree that holds the cells K of a tree -/
structure PInv (cells : List Int) (K : List Nat) (s : PS) : Prop where
  cm : ∀ i v, s.cm i = some v ↔ ∃ k ∈ K, i = (k : Int) ∧ cells[k]? = some v
  nm : TrueN cells s.N
  kn : ∀ k ∈ K, KnowsP (hgt cells.length) k s.N
  root : s.root = rootZ cells
theorem up_end {cells : List Int} (k : Nat) (hk : k < cells.length) (hn : cells.length ≤ 1000) : up k (hgt cells.length) = 0 := by
  have h := hgt_P2 cells.length (by omega)
  unfold up
  exact Nat.div_eq_of_lt (by omega)
theorem upd_inv {cells : List Int} {K : List Nat} {s : PS} (k : Nat) (v : Int) (hn : cells.length ≤ 1000) (hv : cells[k]? = some v) (hc : s.cm k = some v) (hcm : ∀ i v, s.cm i = some v ↔ ∃ k ∈ K, i = (k : Int) ∧ cells[k]? = some v)
    (hN : TrueX cells k 0 s.N) (hk : k ∈ K) (hkn : ∀ k ∈ K, KnowsP (hgt cells.length) k s.N) : PInv cells K (updP cells.length k s) := by
  have hkl := (List.getElem?_eq_some_iff.1 hv).1
  obtain ⟨N', h1, h2, h3⟩ := upd_fold cells k s.N hN (hkn k hk) (hgt cells.length) (Nat.le_refl _)
  have hr : updR cells.length k s = (nodeZ cells (hgt cells.length) (up k (hgt cells.length)), N') := by
    unfold updR
    rw [hc, Option.getD_some, ← node0 cells k v hv]
    exact h1
  unfold updP
  rw [hr]
  exact ⟨hcm, h2.done, fun j hj => h3 j (hkn j hj), by show nodeZ cells (hgt cells.length) (up k (hgt cells.length)) = _; rw [up_end k hkl hn]; rfl⟩
theorem PInv.upd {cells : List Int} {K : List Nat} {s : PS} (h : PInv cells K s) (k : Nat) (hk : k ∈ K) (hl : k < cells.length) (hn : cells.length ≤ 1000) : PInv cells K (updP cells.length k s) := by
  have hv : cells[k]? = some cells[k] := List.getElem?_eq_getElem hl
  exact upd_inv k _ hn hv ((h.cm k _).2 ⟨k, hk, rfl, hv⟩) h.cm (h.nm.x k 0) hk h.kn
theorem PInv.known {cells : List Int} {K : List Nat} {s : PS} (h : PInv cells K s) (i : Int) (hK : ∀ k ∈ K, k < cells.length) : (s.cm i).isSome = hasL (K.map (fun (k : Nat) => (k : Int))) i := by
  cases hc : s.cm i with
  | some v =>
    obtain ⟨k, hk, e, _⟩ := (h.cm i v).1 hc
    unfold hasL
    rw [Option.isSome_some]
    symm
    rw [List.contains_iff_mem, e]
    exact List.mem_map.2 ⟨k, hk, rfl⟩
  | none =>
    rw [Option.isSome_none]
    symm
    unfold hasL
    cases hh : (K.map (fun (k : Nat) => (k : Int))).contains i with
    | false => rfl
    | true =>
      rw [List.contains_iff_mem] at hh
      obtain ⟨k, hk, e⟩ := List.mem_map.1 hh
      have hkl := hK k hk
      have := (h.cm i cells[k]).2 ⟨k, hk, e.symm, List.getElem?_eq_getElem (hK k hk)⟩
      rw [hc] at this
      cases this
theorem PInv.set {cells : List Int} {K : List Nat} {s : PS} (h : PInv cells K s) (k : Nat) (v : Int) (hk : k ∈ K) (hl : k < cells.length) (hn : cells.length ≤ 1000) : PInv (cells.set k v) K (setP cells.length k v s) := by
  have hv : cells[k]? = some cells[k] := List.getElem?_eq_getElem hl
  have hc := (h.cm k _).2 ⟨k, hk, rfl, hv⟩
  have hz : setP cells.length k v s = updP (cells.set k v).length k ⟨putC s.cm k v, s.N, s.root⟩ := by
    unfold setP
    rw [hc, Option.isSome_some, if_pos rfl, List.length_set, Int.toNat_natCast]
  rw [hz]
  refine upd_inv k v (by rw [List.length_set]; exact hn) (List.getElem?_set_self hl) (if_pos rfl) ?_ (h.nm.set k v) hk (by rw [List.length_set]; exact h.kn)
  intro i u
  show (if i = (k : Int) then some v else s.cm i) = some u ↔ _
  by_cases e : i = (k : Int)
  · rw [if_pos e]
    constructor
    · rintro ⟨⟩
      exact ⟨k, hk, e, List.getElem?_set_self hl⟩
    · rintro ⟨j, hj, e2, h2⟩
      obtain rfl : k = j := by omega
      rw [List.getElem?_set_self hl] at h2
      exact h2
  · rw [if_neg e, h.cm]
    constructor
    · rintro ⟨j, hj, e2, h2⟩
      exact ⟨j, hj, e2, by rw [List.getElem?_set_ne (by omega)]; exact h2⟩
    · rintro ⟨j, hj, e2, h2⟩
      rw [List.getElem?_set_ne (by omega)] at h2
      exact ⟨j, hj, e2, h2⟩
/-- the tree's own proof of cell k -/
def Honest (cells : List Int) (k : Nat) (x : LF) : Prop := x.i = (k : Int) ∧ cells[k]? = some x.v ∧ x.p = proofZ (nodeZ cells) (hgt cells.length) k ∧ x.m = hgt cells.length
def HonestL (cells : List Int) : List Nat → List LF → Prop
  | [], [] => True
  | k :: K, x :: L => Honest cells k x ∧ HonestL cells K L
  | _, _ => False
theorem HonestL.snoc {cells : List Int} : ∀ {K : List Nat} {L : List LF} {k : Nat} {x : LF}, HonestL cells K L → Honest cells k x → HonestL cells (K ++ [k]) (L ++ [x])
  | [], [], _, _, _, h => ⟨h, trivial⟩
  | _ :: _, _ :: _, _, _, h, h' => ⟨h.1, h.2.snoc h'⟩
  | [], _ :: _, _, _, h, _ => h.elim
  | _ :: _, [], _, _, h, _ => h.elim
/-- what the first loop of NewPartial knows -/
structure PPre (cells : List Int) (K : List Nat) (s : PS) : Prop where
  cm : ∀ i v, s.cm i = some v ↔ ∃ k ∈ K, i = (k : Int) ∧ cells[k]? = some v
  nm : TrueN cells s.N
  kn : ∀ k ∈ K, KnowsP (hgt cells.length) k s.N
  root : s.root = rootZ cells
theorem proof_at (cells : List Int) (h k l : Nat) (hl : l < h) : (proofZ (nodeZ cells) h k).getD l 0 = nodeZ cells l (sib (up k l)) := by
  rw [proofZ_eq, List.getD_eq_getElem?_getD, List.getElem?_map, List.getElem?_range hl]
  rfl
theorem add_fold (cells : List Int) (k : Nat) (x : LF) (hx : Honest cells k x) (N : Nat × Nat → Option Int) (hN : TrueN cells N) : ∀ m, m ≤ hgt cells.length →
    TrueN cells ((List.range m).foldl (addF x) N) ∧ (∀ j, KnowsP (hgt cells.length) j N → KnowsP (hgt cells.length) j ((List.range m).foldl (addF x) N)) ∧ ∀ l, l < m → ∃ v, ((List.range m).foldl (addF x) N) (l, sib (up k l)) = some v := by
  intro m
  induction m with
  | zero => intro _; exact ⟨hN, fun _ h => h, fun l hl => by omega⟩
  | succ m ih =>
    intro hm
    obtain ⟨h1, h2, h3⟩ := ih (by omega)
    rw [List.range_succ, List.foldl_append]
    generalize (List.range m).foldl (addF x) N = N' at *
    have hA : addF x N' m = putN N' (m, sib (up k m)) (nodeZ cells m (sib (up k m))) := by
      unfold addF
      rw [hx.1, hx.2.2.1, Int.toNat_natCast, proof_at cells _ k m (by omega)]
    show TrueN cells (addF x N' m) ∧ _
    show TrueN cells (addF x N' m) ∧ (∀ j, KnowsP (hgt cells.length) j N → KnowsP (hgt cells.length) j (addF x N' m)) ∧ ∀ l, l < m + 1 → ∃ v, (addF x N' m) (l, sib (up k l)) = some v
    rw [hA]
    refine ⟨fun l y v hv => ?_, fun j hj => (h2 j hj).put _ _, fun l hl => ?_⟩
    · by_cases e : (l, y) = (m, sib (up k m))
      · unfold putN at hv
        rw [if_pos e] at hv
        cases hv
        cases e
        exact ⟨by omega, rfl⟩
      · rw [putYtcgnihgebifcjaane e] at hv
        exact h1 l y v hv
    · unfold putN
      split
      · exact ⟨_, rfl⟩
      · rename_i e
        rcases Nat.lt_or_ge l m with h' | h'
        · exact h3 l h'
        · exact absurd (by rw [show l = m by omega]) e
theorem PPre.add {cells : List Int} {K : List Nat} {s : PS} (h : PPre cells K s) (k : Nat) (x : LF) (hx : Honest cells k x) : PPre cells (K ++ [k]) (addP s x) := by
  obtain ⟨h1, h2, h3⟩ := add_fold cells k x hx s.N h.nm (hgt cells.length) (Nat.le_refl _)
  have hm : (addP s x).N = (List.range (hgt cells.length)).foldl (addF x) s.N := by
    show (List.range x.m).foldl (addF x) s.N = _
    rw [hx.2.2.2]
  rw [← hm] at h1 h2 h3
  refine ⟨fun i v => ?_, h1, fun j hj => ?_, h.root⟩
  · show (if i = x.i then some x.v else s.cm i) = some v ↔ _
    rw [hx.1]
    by_cases e : i = (k : Int)
    · rw [if_pos e]
      constructor
      · rintro ⟨⟩
        exact ⟨k, List.mem_append_right _ (List.mem_singleton.2 rfl), e, hx.2.1⟩
      · rintro ⟨j, hj, e2, h4⟩
        obtain rfl : k = j := by omega
        rw [hx.2.1] at h4
        exact h4
    · rw [if_neg e, h.cm]
      constructor
      · rintro ⟨j, hj, e2, h4⟩
        exact ⟨j, List.mem_append_left _ hj, e2, h4⟩
      · rintro ⟨j, hj, e2, h4⟩
        rcases List.mem_append.1 hj with h5 | h5
        · exact ⟨j, h5, e2, h4⟩
        · rw [List.mem_singleton.1 h5] at e2; exact absurd e2 e
  · rcases List.mem_append.1 hj with h5 | h5
    · exact h2 j (h.kn j h5)
    · rw [List.mem_singleton.1 h5]
      intro l hl
      exact h3 l hl
theorem honest_good {cells : List Int} {K : List Nat} {s : PS} (h : PPre cells K s) (hn : cells.length ≤ 1000) (k : Nat) (x : LF) (hx : Honest cells k x) : badP (rootZ cells) cells.length s x = false := by
  unfold badP
  rw [hx.1, hx.2.2.1, ver_complete cells k x.v hx.2.1 hn, Bool.not_true, Bool.false_or]
  cases hc : s.cm (k : Int) with
  | none => rfl
  | some u =>
    obtain ⟨j, hj, e, h2⟩ := (h.cm _ _).1 hc
    obtain rfl : k = j := by omega
    rw [hx.2.1] at h2
    cases h2
    simp
theorem np1_honest {cells : List Int} (hn : cells.length ≤ 1000) : ∀ (K : List Nat) (L : List LF) (K0 : List Nat) (s : PS), HonestL cells K L → PPre cells K0 s → ∃ s', np1 (rootZ cells) cells.length s L = some s' ∧ PPre cells (K0 ++ K) s'
  | [], [], K0, s, _, h => ⟨s, rfl, by rw [List.append_nil]; exact h⟩
  | k :: K, x :: L, K0, s, hl, h => by
    obtain ⟨s', h1, h2⟩ := np1_honest hn K L (K0 ++ [k]) (addP s x) hl.2 (h.add k x hl.1)
    refine ⟨s', ?_, by rw [List.append_assoc] at h2; exact h2⟩
    unfold np1
    rw [honest_good h hn k x hl.1]
    exact h1
  | [], _ :: _, _, _, hl, _ => hl.elim
  | _ :: _, [], _, _, hl, _ => hl.elim
theorem np2_honest {cells : List Int} (hn : cells.length ≤ 1000) {A : List Nat} : ∀ (K : List Nat) (L : List LF) (s : PS), HonestL cells K L → (∀ k ∈ K, k ∈ A) → PInv cells A s → PInv cells A (np2 cells.length s L)
  | [], [], _, _, _, h => h
  | k :: K, x :: L, s, hl, hA, h => by
    show PInv cells A (np2 cells.length (updP cells.length x.i.toNat s) L)
    refine np2_honest hn K L _ hl.2 (fun j hj => hA j (List.mem_cons_of_mem _ hj)) ?_
    rw [hl.1.1, Int.toNat_natCast]
    exact h.upd k (hA k List.mem_cons_self) (List.getElem?_eq_some_iff.1 hl.1.2.1).1 hn
  | [], _ :: _, _, hl, _, _ => hl.elim
  | _ :: _, [], _, hl, _, _ => hl.elim
/-- NewPartial over a tree's own proofs -/
theorem np_honest {cells : List Int} (hn : cells.length ≤ 1000) {K : List Nat} {L : List LF} (hl : HonestL cells K L) : ∃ s, npZ (rootZ cells) cells.length L = some s ∧ PInv cells K s := by
  have h0 : PPre cells [] (ps0 (rootZ cells)) := by
    refine ⟨fun i v => ⟨fun h => ?_, fun h => ?_⟩, fun l x v h => ?_, fun k hk => ?_, rfl⟩
    · cases h
    · obtain ⟨k, hk, _⟩ := h; cases hk
    · cases h
    · cases hk
  obtain ⟨s', h1, h2⟩ := np1_honest hn K L [] _ hl h0
  refine ⟨np2 cells.length s' L, by unfold npZ; rw [h1]; rfl, ?_⟩
  rw [List.nil_append] at h2
  exact np2_honest hn K L s' hl (fun _ h => h) ⟨h2.cm, h2.nm, h2.kn, h2.root⟩
theorem PInv.ok {cells : List Int} {K : List Nat} {s : PS} (h : PInv cells K s) (hc : I64s cells) : KnownOk cells.length s.cm := fun i v hv => by
  obtain ⟨k, _, e, h2⟩ := (h.cm i v).1 hv
  have := (List.getElem?_eq_some_iff.1 h2).1
  exact ⟨by omega, by omega, hc v (List.mem_of_getElem? h2)⟩
end Go.Proofs.Ytcgnihgebifcjaa
