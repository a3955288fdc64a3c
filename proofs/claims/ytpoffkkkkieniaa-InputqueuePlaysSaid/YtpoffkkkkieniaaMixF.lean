/- 'wpMix' where the calls may turn the blocks of F (a queue, a tree), and make memory. -/
import Derived.Test.YtpoffkkkkieniaaMix
import Derived.Test.YtpoffkkkkieniaaFoot
namespace Go.Proofs.Ytpoffkkkkieniaa
open Go Go.RowKit

/-- a world in which nothing of W but the blocks of F has turned -/
structure AfterF (F : Nat → Prop) (W : World) where
  w : World
  q : QF F W w
instance (F : Nat → Prop) (W : World) : Nonempty (AfterF F W) := ⟨⟨W, QF.refl F W⟩⟩

theorem Box.sF {F : Nat → Prop} {W : World} {B : Nat} {vs : List Value} (h : Box W B vs) (hF : ¬ F B) (k : Nat) (v : Value) (hv : vs[k]? = some v) : ∀ x : AfterF F W, x.w.cell? ⟨B, k, none⟩ = some v := fun x => ((h.qf x.q hF).2 k v hv).1

section
variable {F : Nat → Prop} {P : Program} {ops : Array Oper} {R : Exit → Act → World → Prop} {md : Region.Mode}

/-- whatever order is picked from here on, and behind every operation nothing of the world ahead of it has turned -/
def wpAnyF (F : Nat → Prop) (P : Program) (md : Region.Mode) (ops : Array Oper) (R : Exit → Act → World → Prop) : Nat → Array Bool → Act → World → Prop
  | 0, listed, a, w => Region.ready md ops listed = [] ∧ R .normal a w
  | fuel + 1, listed, a, w =>
    (Region.ready md ops listed = [] → R .normal a w) ∧
    ∀ i ∈ Region.ready md ops listed, wpOp P ops R i (fun a' w' => QF F w w' ∧ wpAnyF F P md ops R fuel (listed.setIfInBounds i true) a' w') a w

theorem wpAny_of_F : ∀ (fuel : Nat) (listed : Array Bool) (a : Act) (w : World), wpAnyF F P md ops R fuel listed a w → wpAny P md ops R fuel listed a w
  | 0, _, _, _, h => h
  | fuel + 1, _, _, _, h => ⟨h.1, fun i hi => wpOp_mono (fun a' w' h' => wpAny_of_F fuel _ a' w' h'.2) (h.2 i hi)⟩

theorem YieldsIf.fromF {w w' : World} {o : Oper} {v : Value} {a : Act} (q : QF F w w') (h : YieldsIf P ops (QF F w) o v a) : YieldsIf P ops (QF F w') o v a :=
  h.imp (fun ⟨hw, hv⟩ => ⟨hw, fun w'' q' => hv w'' (q.trans q' (fun _ h => .inl h))⟩) id

theorem wpAnyF_first {i : Nat} {oi : Oper} {v : Value} (hi : ops[i]? = some oi) (hsel : ∀ (j : Nat) (o : Oper) cs b, ops[j]? = some o → o.op ≠ .select cs b)
    (hR : ∀ c a w, R (.panic c) (a.put oi.dst v) w → R (.panic c) a w) :
    ∀ (fuel : Nat) (listed : Array Bool) (a : Act) (w : World),
      (∀ j oj, ops[j]? = some oj → j ≠ i → listed.getD j true = false → (∀ e ∈ oj.after, Region.binds md e = true → e.on ≠ i) → oi.apart ops oj = true) →
      i ∈ Region.ready md ops listed → YieldsIf P ops (QF F w) oi v a →
      wpAnyF F P md ops R fuel (listed.setIfInBounds i true) (a.put oi.dst v) w → wpAnyF F P md ops R (fuel + 1) listed a w := by
  intro fuel
  induction fuel with
  | zero =>
    intro listed a w _ hr hy H
    refine ⟨fun h => (by rw [h] at hr; cases hr), fun j hj => ?_⟩
    by_cases hji : j = i
    · subst hji; exact hy.wpOp hi (QF.refl F w) ⟨QF.refl F w, H⟩
    · have := ready_mono hj hji
      rw [H.1] at this
      cases this
  | succ fuel ih =>
    intro listed a w hfree hr hy H
    refine ⟨fun h => (by rw [h] at hr; cases hr), fun j hj => ?_⟩
    by_cases hji : j = i
    · subst hji; exact hy.wpOp hi (QF.refl F w) ⟨QF.refl F w, H⟩
    · have h1 := H.2 j (ready_mono hj hji)
      obtain ⟨hjun, oj, hoj, hall⟩ := mem_ready.1 hj
      have hnot : ∀ e ∈ oj.after, Region.binds md e = true → e.on ≠ i := fun e he hb heq => by
        have h1 := hall e he hb
        have h0 := (mem_ready.1 hr).1
        rw [heq] at h1
        rcases Nat.lt_or_ge i listed.size with h' | h'
        · simp [h'] at h0 h1; rw [h0] at h1; cases h1
        · simp [Array.getElem?_eq_none h'] at h1
      have h2 := wpOp_putIf hoj (hfree j oj hoj hji hjun hnot) (fun cs b => hsel i oi cs b hi) (fun cs b => hsel j oj cs b hoj) hR hy h1
      have hfree' : ∀ k ok, ops[k]? = some ok → k ≠ i → (listed.setIfInBounds j true).getD k true = false →
          (∀ e ∈ ok.after, Region.binds md e = true → e.on ≠ i) → oi.apart ops ok = true := fun k ok hk hki hun hno => by
        refine hfree k ok hk hki ?_ hno
        by_cases hjk : j = k
        · subst hjk; exact hjun
        · rw [getD_set_ne true hjk] at hun; exact hun
      refine wpOp_mono (fun a' w' h3 => ⟨h3.2.1, ih (listed.setIfInBounds j true) a' w' hfree' (ready_mono hr (Ne.symm hji)) (YieldsIf.fromF h3.2.1 h3.1) ?_⟩) h2
      rw [Array.setIfInBounds_comm _ _ hji]
      exact h3.2.2

/-- The walk in the chosen order: (i, true): operation i yields its value in every later world; (i, false): it is carried out. -/
def wpMixF (F : Nat → Prop) (P : Program) (ops : Array Oper) (R : Exit → Act → World → Prop) : List (Nat × Bool) → Act → World → Prop
  | [], a, w => R .normal a w
  | (i, true) :: rest, a, w => ∃ o v, ops[i]? = some o ∧ YieldsIf P ops (QF F w) o v a ∧ wpMixF F P ops R rest (a.put o.dst v) w
  | (i, false) :: rest, a, w => wpOp P ops R i (fun a' w' => QF F w w' ∧ wpMixF F P ops R rest a' w') a w

theorem wpAnyF_of_mix (hs : Region.noSelect ops = true) (hR : ∀ c a (d : Tmp) v w, R (.panic c) (a.put (some d) v) w → R (.panic c) a w) :
    ∀ (l : List (Nat × Bool)) (listed : Array Bool) (a : Act) (w : World), mixB md ops l listed = true → wpMixF F P ops R l a w → wpAnyF F P md ops R l.length listed a w
  | [], _, _, _, hB, h => ⟨by simpa [mixB] using hB, h⟩
  | (i, true) :: l, listed, a, w, hB, h => by
    obtain ⟨o, v, ho, hy, hk⟩ := h
    simp only [mixB, Bool.and_eq_true] at hB
    obtain ⟨⟨hr, hf⟩, hB'⟩ := hB
    exact wpAnyF_first ho (Region.noSelect_spec hs) (fun c a w hh => by cases hd : o.dst with | none => (rw [hd] at hh; exact hh) | some d => (rw [hd] at hh; exact hR c a d _ w hh)) l.length listed a w (Region.free_spec ho hf) (by simpa using hr) hy (wpAnyF_of_mix hs hR l _ _ _ hB' hk)
  | (i, false) :: l, listed, a, w, hB, h => by
    simp only [mixB, Bool.and_eq_true, beq_iff_eq] at hB
    obtain ⟨hr, hB'⟩ := hB
    refine ⟨fun h0 => (by rw [hr] at h0; cases h0), fun j hj => ?_⟩
    rw [hr] at hj
    obtain rfl : j = i := by simpa using hj
    exact wpOp_mono (fun a' w' h3 => ⟨h3.1, wpAnyF_of_mix hs hR l _ a' w' hB' h3.2⟩) h

theorem wp_region_mixF {id : Nat} {a : Act} {w : World} (l : List (Nat × Bool)) (hm : P.follows .mixedOrders = true) (hB : (Region.noSelect ops && (l.length == ops.size) && mixB .any ops l (Array.replicate ops.size false)) = true)
    (hR : ∀ c a (d : Tmp) v w, R (.panic c) (a.put (some d) v) w → R (.panic c) a w) (h : wpMixF F P ops R l a w.drew) : (Code.region id ops true).wp P R a w := by
  simp only [Bool.and_eq_true, beq_iff_eq] at hB
  obtain ⟨⟨hs, hl⟩, hB⟩ := hB
  refine wp_region_any hm (wpAny_of_F (F := F) _ _ _ _ ?_)
  rw [← hl]
  exact wpAnyF_of_mix hs hR l _ a w.drew (by rw [hl]; exact hB) h

theorem mixF_val_of {l : List Oper} {i : Nat} {rest : List (Nat × Bool)} {a : Act} {w : World} {o : Oper} (hi' : l[i]? = some o)
    (hv : ∀ w : World, (∃ x w', (execOp a.eval o).run P w = .ok (.value x) w') ∨ ∃ k w', (execOp a.eval o).run P w = .halt k w')
    (h : wpQuiet P l.toArray (fun w'' => ∃ x : AfterF F w, w'' = x.w) (fun a' => wpMixF F P l.toArray R rest a' w) [o] a) : wpMixF F P l.toArray R ((i, true) :: rest) a w := by
  have hi : l.toArray[i]? = some o := by simpa using hi'
  have hst : qOp P l.toArray (fun w'' => ∃ x : AfterF F w, w'' = x.w) i (fun a' => wpMixF F P l.toArray R rest a' w) a := by unfold qOp; simp only [hi]; exact h
  obtain ⟨v, hy, hK⟩ := yieldsIn_of_qOp hi hst
  refine ⟨o, v, hi, ?_, hK⟩
  rcases hy with ⟨hw, hq⟩ | ⟨hw, hu⟩
  · refine .inl ⟨hw, fun w'' q => ?_⟩
    have h3 := hq w'' ⟨⟨w'', q⟩, rfl⟩
    unfold Oper.quietAt at h3
    rcases hv w'' with ⟨x, w3, e⟩ | ⟨k, w3, e⟩
    · rw [e] at h3 ⊢
      obtain ⟨rfl, rfl⟩ := h3
      rfl
    · rw [e] at h3
      exact h3.elim
  · exact .inr ⟨hw, hu⟩
theorem mixF_val {l : List Oper} {i : Nat} {rest : List (Nat × Bool)} {a : Act} {w : World} {o : Oper} (hi' : l[i]? = some o) (hv : valOp o = true)
    (h : wpQuiet P l.toArray (fun w'' => ∃ x : AfterF F w, w'' = x.w) (fun a' => wpMixF F P l.toArray R rest a' w) [o] a) : wpMixF F P l.toArray R ((i, true) :: rest) a w :=
  mixF_val_of hi' (fun w => valOp_run hv a.eval w) h
/-- a nil check of a pointer that is not nil -/
theorem mixF_nil {l : List Oper} {i : Nat} {rest : List (Nat × Bool)} {a : Act} {w : World} {o : Oper} {x : Operand} {p : Addr} (hi' : l[i]? = some o) (ho : o.op = .nilCheck x) (hx : a.eval x = .pointer (some p))
    (h : wpQuiet P l.toArray (fun w'' => ∃ x : AfterF F w, w'' = x.w) (fun a' => wpMixF F P l.toArray R rest a' w) [o] a) : wpMixF F P l.toArray R ((i, true) :: rest) a w :=
  mixF_val_of hi' (fun w => by unfold execOp; simp only [ho, hx]; exact .inl ⟨_, _, rfl⟩) h
theorem mixF_do {l : List Oper} {i : Nat} {rest : List (Nat × Bool)} {a : Act} {w : World} {o : Oper} (hi' : l[i]? = some o)
    (h : ∀ K : Act → World → Prop, (∀ a' w', QF F w w' → wpMixF F P l.toArray R rest a' w' → K a' w') → if Region.wanted o (yielded l.toArray a.tmps) = true then Oper.wp P o a w K R else K (a.put o.dst undef) w) : wpMixF F P l.toArray R ((i, false) :: rest) a w := by
  have hi : l.toArray[i]? = some o := by simpa using hi'
  show wpOp P l.toArray R i (fun a' w' => QF F w w' ∧ wpMixF F P l.toArray R rest a' w') a w
  exact wpOp_step hi (fun K hK => h K (fun a' w' q hm => hK a' w' ⟨q, hm⟩))
theorem mixF_run {l : List Oper} {i : Nat} {rest : List (Nat × Bool)} {a : Act} {w : World} {o : Oper} (hi : l[i]? = some o) (hw : Region.wanted o (yielded l.toArray a.tmps) = true)
    (h : ∀ K : Act → World → Prop, (∀ a' w', QF F w w' → wpMixF F P l.toArray R rest a' w' → K a' w') → Oper.wp P o a w K R) : wpMixF F P l.toArray R ((i, false) :: rest) a w :=
  mixF_do hi (fun K hK => by rw [if_pos hw]; exact h K hK)
theorem mixF_pass {l : List Oper} {i : Nat} {rest : List (Nat × Bool)} {a : Act} {w : World} {o : Oper} (hi : l[i]? = some o) (hw : Region.wanted o (yielded l.toArray a.tmps) = false)
    (h : wpMixF F P l.toArray R rest (a.put o.dst undef) w) : wpMixF F P l.toArray R ((i, false) :: rest) a w :=
  mixF_do hi (fun K hK => by rw [if_neg (by rw [hw]; exact Bool.false_ne_true)]; exact hK _ _ (QF.refl F w) h)
theorem mixF_end {l : List Oper} {a : Act} {w : World} (h : R .normal a w) : wpMixF F P l.toArray R [] a w := h
end
end Go.Proofs.Ytpoffkkkkieniaa
