/- XTree's trees where one operation s comes up last of all and may turn whatever it likes. -/
import Derived.Test.YtpoffkkkkieniaaTree
import Derived.Test.YtpoffkkkkieniaaMixS
namespace Go.Proofs.Ytpoffkkkkieniaa
open Go Go.RowKit

def MT.isFin : MT → Bool
  | .fin => true
  | _ => false
def MT.okS (md : Region.Mode) (ops : Array Oper) (s : Nat) : MT → Array Bool → Bool
  | .fin, l => (Region.ready md ops l).isEmpty
  | .val i t, l => (Region.ready md ops l).contains i && Region.free md ops l i && (i != s) && lateB md ops s i l && MT.okS md ops s t (l.setIfInBounds i true)
  | .one i t, l => (Region.ready md ops l == [i]) && (i != s || t.isFin) && MT.okS md ops s t (l.setIfInBounds i true)
  | .two i t j u, l => (Region.ready md ops l == [i, j]) && (i != s) && (j != s) && (t.len == u.len) && MT.okS md ops s t (l.setIfInBounds i true) && MT.okS md ops s u (l.setIfInBounds j true)
  | .three i t j u k v, l => (Region.ready md ops l == [i, j, k]) && (i != s) && (j != s) && (k != s) && (t.len == u.len) && (t.len == v.len) && MT.okS md ops s t (l.setIfInBounds i true) && MT.okS md ops s u (l.setIfInBounds j true) && MT.okS md ops s v (l.setIfInBounds k true)

section
variable {P : Program} {ops : Array Oper} {R : Exit → Act → World → Prop} {md : Region.Mode} {C : World → Prop} {s : Nat}

def wpAnyD (s : Nat) (P : Program) (md : Region.Mode) (ops : Array Oper) (R : Exit → Act → World → Prop) (C : World → Prop) : Nat → Array Bool → Act → World → Prop
  | 0, listed, a, w => Region.ready md ops listed = [] ∧ R .normal a w
  | fuel + 1, listed, a, w =>
    (Region.ready md ops listed = [] → R .normal a w) ∧
    ∀ i ∈ Region.ready md ops listed, wpOp P ops R i (fun a' w' => (i ≠ s → C w') ∧ wpAnyD s P md ops R C fuel (listed.setIfInBounds i true) a' w') a w
theorem wpAny_of_D : ∀ (fuel : Nat) (listed : Array Bool) (a : Act) (w : World), wpAnyD s P md ops R C fuel listed a w → wpAny P md ops R fuel listed a w
  | 0, _, _, _, h => h
  | fuel + 1, _, _, _, h => ⟨h.1, fun i hi => wpOp_mono (fun a' w' h' => wpAny_of_D fuel _ a' w' h'.2) (h.2 i hi)⟩
theorem wpAnyD_first {i : Nat} {oi : Oper} {v : Value} (hi : ops[i]? = some oi) (hsel : ∀ (j : Nat) (o : Oper) cs b, ops[j]? = some o → o.op ≠ .select cs b)
    (hR : ∀ c a w, R (.panic c) (a.put oi.dst v) w → R (.panic c) a w)
    (his : i ≠ s) : ∀ (fuel : Nat) (listed : Array Bool) (a : Act) (w : World), C w →
      (∀ j oj, ops[j]? = some oj → j ≠ i → listed.getD j true = false → (∀ e ∈ oj.after, Region.binds md e = true → e.on ≠ i) → oi.apart ops oj = true) →
      (edgeB md ops s i = true ∨ ∃ k, listed.getD k true = false ∧ k ≠ i ∧ edgeB md ops s k = true ∧ edgeB md ops k i = true) → i ∈ Region.ready md ops listed → YieldsIf P ops C oi v a →
      wpAnyD s P md ops R C fuel (listed.setIfInBounds i true) (a.put oi.dst v) w → wpAnyD s P md ops R C (fuel + 1) listed a w := by
  intro fuel
  induction fuel with
  | zero =>
    intro listed a w hC _ _ hr hy H
    refine ⟨fun h => (by rw [h] at hr; cases hr), fun j hj => ?_⟩
    by_cases hji : j = i
    · subst hji; exact hy.wpOp hi hC ⟨fun _ => hC, H⟩
    · have := ready_mono hj hji
      rw [H.1] at this
      cases this
  | succ fuel ih =>
    intro listed a w hC hfree hlate hr hy H
    refine ⟨fun h => (by rw [h] at hr; cases hr), fun j hj => ?_⟩
    by_cases hji : j = i
    · subst hji; exact hy.wpOp hi hC ⟨fun _ => hC, H⟩
    · have h1 := H.2 j (ready_mono hj hji)
      obtain ⟨hjun, oj, hoj, hall⟩ := mem_ready.1 hj
      have hnot : ∀ e ∈ oj.after, Region.binds md e = true → e.on ≠ i := fun e he hb heq => by
        have h1 := hall e he hb
        have h0 := (mem_ready.1 hr).1
        rw [heq] at h1
        rcases Nat.lt_or_ge i listed.size with h' | h'
        · simp [h'] at h0 h1; rw [h0] at h1; cases h1
        · simp [Array.getElem?_eq_none h'] at h1
      have h2 := wpOp_putIf hoj (hfree j oj hoj hji hjun hnot) (fun cs b => hsel i oi cs b hi) (fun cs b => hsel j oj cs b hoj) hR hy h1
      have hfree' : ∀ k ok, ops[k]? = some ok → k ≠ i → (listed.setIfInBounds j true).getD k true = false →
          (∀ e ∈ ok.after, Region.binds md e = true → e.on ≠ i) → oi.apart ops ok = true := fun k ok hk hki hun hno => by
        refine hfree k ok hk hki ?_ hno
        by_cases hjk : j = k
        · subst hjk; exact hjun
        · rw [getD_set_ne true hjk] at hun; exact hun
      have hiu := (mem_ready.1 hr).1
      have hjs : j ≠ s := fun e => by
        rw [e] at hj
        rcases hlate with h | ⟨k, h1, _, h3, _⟩
        · exact edge_not h hj hiu
        · exact edge_not h3 hj h1
      have hlate' : edgeB md ops s i = true ∨ ∃ k, (listed.setIfInBounds j true).getD k true = false ∧ k ≠ i ∧ edgeB md ops s k = true ∧ edgeB md ops k i = true := by
        rcases hlate with h | ⟨k, h1, h2, h3, h4⟩
        · exact .inl h
        · refine .inr ⟨k, ?_, h2, h3, h4⟩
          rw [getD_set_ne true (fun e => by rw [e] at hj; exact edge_not h4 hj hiu)]
          exact h1
      refine wpOp_mono (fun a' w' h3 => ⟨fun _ => h3.2.1 hjs, ih (listed.setIfInBounds j true) a' w' (h3.2.1 hjs) hfree' hlate' (ready_mono hr (Ne.symm hji)) h3.1 ?_⟩) h2
      rw [Array.setIfInBounds_comm _ _ hji]
      exact h3.2.2

def wpTS (s : Nat) (P : Program) (ops : Array Oper) (R : Exit → Act → World → Prop) (C : World → Prop) : MT → Act → World → Prop
  | .fin, a, w => R .normal a w
  | .val i t, a, w => ∃ o v, ops[i]? = some o ∧ YieldsIf P ops C o v a ∧ wpTS s P ops R C t (a.put o.dst v) w
  | .one i t, a, w => wpOp P ops R i (fun a' w' => (i ≠ s → C w') ∧ wpTS s P ops R C t a' w') a w
  | .two i t j u, a, w => wpOp P ops R i (fun a' w' => (i ≠ s → C w') ∧ wpTS s P ops R C t a' w') a w ∧ wpOp P ops R j (fun a' w' => (j ≠ s → C w') ∧ wpTS s P ops R C u a' w') a w
  | .three i t j u k v, a, w => wpOp P ops R i (fun a' w' => (i ≠ s → C w') ∧ wpTS s P ops R C t a' w') a w ∧ wpOp P ops R j (fun a' w' => (j ≠ s → C w') ∧ wpTS s P ops R C u a' w') a w ∧ wpOp P ops R k (fun a' w' => (k ≠ s → C w') ∧ wpTS s P ops R C v a' w') a w
theorem wpAnyD_of_tree (hs : Region.noSelect ops = true) (hR : ∀ c a (d : Tmp) v w, R (.panic c) (a.put (some d) v) w → R (.panic c) a w) :
    ∀ (t : MT) (listed : Array Bool) (a : Act) (w : World), (C w ∨ t.isFin = true) → t.okS md ops s listed = true → wpTS s P ops R C t a w → wpAnyD s P md ops R C t.len listed a w
  | .fin, _, _, _, _, hB, h => ⟨by simpa [MT.okS] using hB, h⟩
  | .val i t, listed, a, w, hC, hB, h => by
    obtain ⟨o, v, ho, hy, hk⟩ := h
    simp only [MT.okS, Bool.and_eq_true, bne_iff_ne, ne_eq] at hB
    obtain ⟨⟨⟨⟨hr, hf⟩, his⟩, hla⟩, hB'⟩ := hB
    have hC' : C w := hC.resolve_right (by simp [MT.isFin])
    exact wpAnyD_first ho (Region.noSelect_spec hs) (fun c a w hh => by cases hd : o.dst with | none => (rw [hd] at hh; exact hh) | some d => (rw [hd] at hh; exact hR c a d _ w hh)) his t.len listed a w hC' (Region.free_spec ho hf) (late_spec hla) (by simpa using hr) hy (wpAnyD_of_tree hs hR t _ _ _ (.inl hC') hB' hk)
  | .one i t, listed, a, w, hC, hB, h => by
    simp only [MT.okS, Bool.and_eq_true, beq_iff_eq, Bool.or_eq_true, bne_iff_ne, ne_eq] at hB
    obtain ⟨⟨hr, hs'⟩, hB'⟩ := hB
    refine ⟨fun h0 => (by rw [hr] at h0; cases h0), fun j hj => ?_⟩
    rw [hr] at hj
    obtain rfl : j = i := by simpa using hj
    exact wpOp_mono (fun a' w' h3 => ⟨h3.1, wpAnyD_of_tree hs hR t _ a' w' (hs'.imp (fun hne => h3.1 hne) id) hB' h3.2⟩) h
  | .two i t j u, listed, a, w, hC, hB, h => by
    simp only [MT.okS, Bool.and_eq_true, beq_iff_eq, bne_iff_ne, ne_eq] at hB
    obtain ⟨⟨⟨⟨⟨hr, his⟩, hjs⟩, hl⟩, hB1⟩, hB2⟩ := hB
    refine ⟨fun h0 => (by rw [hr] at h0; cases h0), fun k hk => ?_⟩
    rw [hr] at hk
    rcases (show k = i ∨ k = j by simpa using hk) with rfl | rfl
    · exact wpOp_mono (fun a' w' h3 => ⟨h3.1, wpAnyD_of_tree hs hR t _ a' w' (.inl (h3.1 his)) hB1 h3.2⟩) h.1
    · refine wpOp_mono (fun a' w' h3 => ⟨h3.1, ?_⟩) h.2
      have := wpAnyD_of_tree hs hR u _ a' w' (.inl (h3.1 hjs)) hB2 h3.2
      rw [← hl] at this
      exact this
  | .three i t j u k v, listed, a, w, hC, hB, h => by
    simp only [MT.okS, Bool.and_eq_true, beq_iff_eq, bne_iff_ne, ne_eq] at hB
    obtain ⟨⟨⟨⟨⟨⟨⟨⟨hr, his⟩, hjs⟩, hks⟩, hl⟩, hl2⟩, hB1⟩, hB2⟩, hB3⟩ := hB
    refine ⟨fun h0 => (by rw [hr] at h0; cases h0), fun m hm => ?_⟩
    rw [hr] at hm
    rcases (show m = i ∨ m = j ∨ m = k by simpa using hm) with rfl | rfl | rfl
    · exact wpOp_mono (fun a' w' h3 => ⟨h3.1, wpAnyD_of_tree hs hR t _ a' w' (.inl (h3.1 his)) hB1 h3.2⟩) h.1
    · refine wpOp_mono (fun a' w' h3 => ⟨h3.1, ?_⟩) h.2.1
      have := wpAnyD_of_tree hs hR u _ a' w' (.inl (h3.1 hjs)) hB2 h3.2
      rw [← hl] at this
      exact this
    · refine wpOp_mono (fun a' w' h3 => ⟨h3.1, ?_⟩) h.2.2
      have := wpAnyD_of_tree hs hR v _ a' w' (.inl (h3.1 hks)) hB3 h3.2
      rw [← hl2] at this
      exact this
theorem wp_region_treeS {id : Nat} {a : Act} {w : World} (C : World → Prop) (s : Nat) (T : MT) (hm : P.follows .mixedOrders = true) (hB : (Region.noSelect ops && (T.len == ops.size) && T.okS .any ops s (Array.replicate ops.size false)) = true)
    (hR : ∀ c a (d : Tmp) v w, R (.panic c) (a.put (some d) v) w → R (.panic c) a w) (hC : C w.drew) (h : wpTS s P ops R C T a w.drew) : (Code.region id ops true).wp P R a w := by
  simp only [Bool.and_eq_true, beq_iff_eq] at hB
  obtain ⟨⟨hs, hl⟩, hB⟩ := hB
  refine wp_region_any hm (wpAny_of_D (C := C) (s := s) _ _ _ _ ?_)
  rw [← hl]
  exact wpAnyD_of_tree hs hR T _ a w.drew (.inl hC) (by rw [hl]; exact hB) h
theorem treeS_val_of {l : List Oper} {i : Nat} {t : MT} {a : Act} {w : World} {o : Oper} (hi' : l[i]? = some o)
    (hv : ∀ w : World, (∃ x w', (execOp a.eval o).run P w = .ok (.value x) w') ∨ ∃ k w', (execOp a.eval o).run P w = .halt k w')
    (h : wpQuiet P l.toArray C (fun a' => wpTS s P l.toArray R C t a' w) [o] a) : wpTS s P l.toArray R C (.val i t) a w := by
  have hi : l.toArray[i]? = some o := by simpa using hi'
  have hst : qOp P l.toArray C i (fun a' => wpTS s P l.toArray R C t a' w) a := by unfold qOp; simp only [hi]; exact h
  obtain ⟨v, hy, hK⟩ := yieldsIn_of_qOp hi hst
  refine ⟨o, v, hi, ?_, hK⟩
  rcases hy with ⟨hw, hq⟩ | ⟨hw, hu⟩
  · refine .inl ⟨hw, fun w'' q => ?_⟩
    have h3 := hq w'' q
    unfold Oper.quietAt at h3
    rcases hv w'' with ⟨x, w3, e⟩ | ⟨k, w3, e⟩
    · rw [e] at h3 ⊢
      obtain ⟨rfl, rfl⟩ := h3
      rfl
    · rw [e] at h3
      exact h3.elim
  · exact .inr ⟨hw, hu⟩
theorem treeS_val {l : List Oper} {i : Nat} {t : MT} {a : Act} {w : World} {o : Oper} (hi' : l[i]? = some o) (hv : valOp o = true)
    (h : wpQuiet P l.toArray C (fun a' => wpTS s P l.toArray R C t a' w) [o] a) : wpTS s P l.toArray R C (.val i t) a w :=
  treeS_val_of hi' (fun w => valOp_run hv a.eval w) h
theorem treeS_nil {l : List Oper} {i : Nat} {t : MT} {a : Act} {w : World} {o : Oper} {x : Operand} {p : Addr} (hi' : l[i]? = some o) (ho : o.op = .nilCheck x) (hx : a.eval x = .pointer (some p))
    (h : wpQuiet P l.toArray C (fun a' => wpTS s P l.toArray R C t a' w) [o] a) : wpTS s P l.toArray R C (.val i t) a w :=
  treeS_val_of hi' (fun w => by unfold execOp; simp only [ho, hx]; exact .inl ⟨_, _, rfl⟩) h
theorem treeS_op {l : List Oper} {i : Nat} {t : MT} {a : Act} {w : World} {o : Oper} (hi' : l[i]? = some o) (hw : Region.wanted o (yielded l.toArray a.tmps) = true)
    (h : ∀ K : Act → World → Prop, (∀ a' w', C w' → wpTS s P l.toArray R C t a' w' → K a' w') → Oper.wp P o a w K R) : wpOp P l.toArray R i (fun a' w' => (i ≠ s → C w') ∧ wpTS s P l.toArray R C t a' w') a w := by
  have hi : l.toArray[i]? = some o := by simpa using hi'
  refine wpOp_step hi (fun K hK => ?_)
  rw [if_pos hw]
  exact h K (fun a' w' q hm => hK a' w' ⟨fun _ => q, hm⟩)
theorem treeS_one {l : List Oper} {i : Nat} {t : MT} {a : Act} {w : World} {o : Oper} (hi : l[i]? = some o) (hw : Region.wanted o (yielded l.toArray a.tmps) = true)
    (h : ∀ K : Act → World → Prop, (∀ a' w', C w' → wpTS s P l.toArray R C t a' w' → K a' w') → Oper.wp P o a w K R) : wpTS s P l.toArray R C (.one i t) a w := treeS_op hi hw h
theorem treeS_pass {l : List Oper} {i : Nat} {t : MT} {a : Act} {w : World} {o : Oper} (hi' : l[i]? = some o) (hw : Region.wanted o (yielded l.toArray a.tmps) = false) (hC : C w)
    (h : wpTS s P l.toArray R C t (a.put o.dst undef) w) : wpTS s P l.toArray R C (.one i t) a w := by
  have hi : l.toArray[i]? = some o := by simpa using hi'
  show wpOp P l.toArray R i (fun a' w' => (i ≠ s → C w') ∧ wpTS s P l.toArray R C t a' w') a w
  refine wpOp_step hi (fun K hK => ?_)
  rw [if_neg (by rw [hw]; exact Bool.false_ne_true)]
  exact hK _ _ ⟨fun _ => hC, h⟩
theorem treeS_last {l : List Oper} {i : Nat} {t : MT} {a : Act} {w : World} {o : Oper} (hi' : l[i]? = some o) (hw : Region.wanted o (yielded l.toArray a.tmps) = true)
    (h : ∀ K : Act → World → Prop, (∀ a' w', wpTS s P l.toArray R C t a' w' → K a' w') → Oper.wp P o a w K R) (his : i = s := by rfl) : wpTS s P l.toArray R C (.one i t) a w := by
  have hi : l.toArray[i]? = some o := by simpa using hi'
  show wpOp P l.toArray R i (fun a' w' => (i ≠ s → C w') ∧ wpTS s P l.toArray R C t a' w') a w
  refine wpOp_step hi (fun K hK => ?_)
  rw [if_pos hw]
  exact h K (fun a' w' hm => hK a' w' ⟨fun e => absurd his e, hm⟩)
theorem treeS_two {i j : Nat} {t u : MT} {a : Act} {w : World} (h1 : wpTS s P ops R C (.one i t) a w) (h2 : wpTS s P ops R C (.one j u) a w) : wpTS s P ops R C (.two i t j u) a w := ⟨h1, h2⟩
theorem treeS_three {i j k : Nat} {t u v : MT} {a : Act} {w : World} (h1 : wpTS s P ops R C (.one i t) a w) (h2 : wpTS s P ops R C (.one j u) a w) (h3 : wpTS s P ops R C (.one k v) a w) : wpTS s P ops R C (.three i t j u k v) a w := ⟨h1, h2, h3⟩
theorem treeS_end {a : Act} {w : World} (h : R .normal a w) : wpTS s P ops R C .fin a w := h
end
end Go.Proofs.Ytpoffkkkkieniaa
