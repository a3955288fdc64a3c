/- 'wpMixS' where one operation s comes up last of all and may turn whatever it likes ('q.f = append(q.f, x)'). -/
import Derived.Test.YtpoffkkkkieniaaMixF
namespace Go.Proofs.Ytpoffkkkkieniaa
open Go Go.RowKit

/-- operation x waits for operation y -/
def edgeB (md : Region.Mode) (ops : Array Oper) (x y : Nat) : Bool := ((ops[x]?).map fun o => o.after.any fun e => Region.binds md e && e.on == y).getD false
/-- operation s cannot come up ahead of operation i -/
def lateB (md : Region.Mode) (ops : Array Oper) (s i : Nat) (listed : Array Bool) : Bool :=
  edgeB md ops s i || (List.range ops.size).any fun k => !(listed.getD k true) && k != i && edgeB md ops s k && edgeB md ops k i
theorem edge_not {md : Region.Mode} {ops : Array Oper} {x y : Nat} {listed : Array Bool} (h : edgeB md ops x y = true) (hr : x ∈ Region.ready md ops listed) (hy : listed.getD y true = false) : False := by
  obtain ⟨hun, os, hos, hall⟩ := mem_ready.1 hr
  unfold edgeB at h
  rw [hos] at h
  simp only [Option.map_some, Option.getD_some, Array.any_eq_true, Bool.and_eq_true, beq_iff_eq] at h
  obtain ⟨k, hk, hb, he⟩ := h
  have h2 := hall (os.after[k]) (Array.getElem_mem hk) hb
  rw [he] at h2
  rcases Nat.lt_or_ge y listed.size with h' | h'
  · simp [h'] at hy h2; rw [hy] at h2; cases h2
  · simp [Array.getElem?_eq_none h'] at h2
theorem late_spec {md : Region.Mode} {ops : Array Oper} {s i : Nat} {listed : Array Bool} (h : lateB md ops s i listed = true) : edgeB md ops s i = true ∨ ∃ k, listed.getD k true = false ∧ k ≠ i ∧ edgeB md ops s k = true ∧ edgeB md ops k i = true := by
  unfold lateB at h
  simp only [Bool.or_eq_true, List.any_eq_true, Bool.and_eq_true, Bool.not_eq_true', bne_iff_ne, ne_eq] at h
  rcases h with h | ⟨k, _, ⟨⟨h1, h2⟩, h3⟩, h4⟩
  · exact .inl h
  · exact .inr ⟨k, h1, h2, h3, h4⟩
/-- the chosen order, and that s comes up behind every value -/
def mixSB (md : Region.Mode) (ops : Array Oper) (s : Nat) : List (Nat × Bool) → Array Bool → Bool
  | [], _ => true
  | (i, v) :: rest, listed => (!v || (i != s && lateB md ops s i listed)) && mixSB md ops s rest (listed.setIfInBounds i true)

section
variable {F : Nat → Prop} {s : Nat} {P : Program} {ops : Array Oper} {R : Exit → Act → World → Prop} {md : Region.Mode}

/-- whatever order is picked from here on, and behind every operation nothing of the world ahead of it has turned -/
def wpAnyS (F : Nat → Prop) (s : Nat) (P : Program) (md : Region.Mode) (ops : Array Oper) (R : Exit → Act → World → Prop) : Nat → Array Bool → Act → World → Prop
  | 0, listed, a, w => Region.ready md ops listed = [] ∧ R .normal a w
  | fuel + 1, listed, a, w =>
    (Region.ready md ops listed = [] → R .normal a w) ∧
    ∀ i ∈ Region.ready md ops listed, wpOp P ops R i (fun a' w' => (i ≠ s → QF F w w') ∧ wpAnyS F s P md ops R fuel (listed.setIfInBounds i true) a' w') a w

theorem wpAny_of_S : ∀ (fuel : Nat) (listed : Array Bool) (a : Act) (w : World), wpAnyS F s P md ops R fuel listed a w → wpAny P md ops R fuel listed a w
  | 0, _, _, _, h => h
  | fuel + 1, _, _, _, h => ⟨h.1, fun i hi => wpOp_mono (fun a' w' h' => wpAny_of_S fuel _ a' w' h'.2) (h.2 i hi)⟩

theorem wpAnyS_first {i : Nat} {oi : Oper} {v : Value} (hi : ops[i]? = some oi) (hsel : ∀ (j : Nat) (o : Oper) cs b, ops[j]? = some o → o.op ≠ .select cs b)
    (hR : ∀ c a w, R (.panic c) (a.put oi.dst v) w → R (.panic c) a w)
    (his : i ≠ s) : ∀ (fuel : Nat) (listed : Array Bool) (a : Act) (w : World),
      (∀ j oj, ops[j]? = some oj → j ≠ i → listed.getD j true = false → (∀ e ∈ oj.after, Region.binds md e = true → e.on ≠ i) → oi.apart ops oj = true) →
      (edgeB md ops s i = true ∨ ∃ k, listed.getD k true = false ∧ k ≠ i ∧ edgeB md ops s k = true ∧ edgeB md ops k i = true) → i ∈ Region.ready md ops listed → YieldsIf P ops (QF F w) oi v a →
      wpAnyS F s P md ops R fuel (listed.setIfInBounds i true) (a.put oi.dst v) w → wpAnyS F s P md ops R (fuel + 1) listed a w := by
  intro fuel
  induction fuel with
  | zero =>
    intro listed a w _ _ hr hy H
    refine ⟨fun h => (by rw [h] at hr; cases hr), fun j hj => ?_⟩
    by_cases hji : j = i
    · subst hji; exact hy.wpOp hi (QF.refl F w) ⟨fun _ => QF.refl F w, H⟩
    · have := ready_mono hj hji
      rw [H.1] at this
      cases this
  | succ fuel ih =>
    intro listed a w hfree hlate hr hy H
    refine ⟨fun h => (by rw [h] at hr; cases hr), fun j hj => ?_⟩
    by_cases hji : j = i
    · subst hji; exact hy.wpOp hi (QF.refl F w) ⟨fun _ => QF.refl F w, H⟩
    · have h1 := H.2 j (ready_mono hj hji)
      obtain ⟨hjun, oj, hoj, hall⟩ := mem_ready.1 hj
      have hnot : ∀ e ∈ oj.after, Region.binds md e = true → e.on ≠ i := fun e he hb heq => by
        have h1 := hall e he hb
        have h0 := (mem_ready.1 hr).1
        rw [heq] at h1
        rcases Nat.lt_or_ge i listed.size with h' | h'
        · simp [h'] at h0 h1; rw [h0] at h1; cases h1
        · simp [Array.getElem?_eq_none h'] at h1
      have h2 := wpOp_putIf hoj (hfree j oj hoj hji hjun hnot) (fun cs b => hsel i oi cs b hi) (fun cs b => hsel j oj cs b hoj) hR hy h1
      have hfree' : ∀ k ok, ops[k]? = some ok → k ≠ i → (listed.setIfInBounds j true).getD k true = false →
          (∀ e ∈ ok.after, Region.binds md e = true → e.on ≠ i) → oi.apart ops ok = true := fun k ok hk hki hun hno => by
        refine hfree k ok hk hki ?_ hno
        by_cases hjk : j = k
        · subst hjk; exact hjun
        · rw [getD_set_ne true hjk] at hun; exact hun
      have hiu := (mem_ready.1 hr).1
      have hjs : j ≠ s := fun e => by
        rw [e] at hj
        rcases hlate with h | ⟨k, h1, _, h3, _⟩
        · exact edge_not h hj hiu
        · exact edge_not h3 hj h1
      have hlate' : edgeB md ops s i = true ∨ ∃ k, (listed.setIfInBounds j true).getD k true = false ∧ k ≠ i ∧ edgeB md ops s k = true ∧ edgeB md ops k i = true := by
        rcases hlate with h | ⟨k, h1, h2, h3, h4⟩
        · exact .inl h
        · refine .inr ⟨k, ?_, h2, h3, h4⟩
          rw [getD_set_ne true (fun e => by rw [e] at hj; exact edge_not h4 hj hiu)]
          exact h1
      refine wpOp_mono (fun a' w' h3 => ⟨fun _ => h3.2.1 hjs, ih (listed.setIfInBounds j true) a' w' hfree' hlate' (ready_mono hr (Ne.symm hji)) (YieldsIf.fromF (h3.2.1 hjs) h3.1) ?_⟩) h2
      rw [Array.setIfInBounds_comm _ _ hji]
      exact h3.2.2

/-- The walk in the chosen order: (i, true): operation i yields its value in every later world; (i, false): it is carried out. -/
def wpMixS (F : Nat → Prop) (s : Nat) (P : Program) (ops : Array Oper) (R : Exit → Act → World → Prop) : List (Nat × Bool) → Act → World → Prop
  | [], a, w => R .normal a w
  | (i, true) :: rest, a, w => ∃ o v, ops[i]? = some o ∧ YieldsIf P ops (QF F w) o v a ∧ wpMixS F s P ops R rest (a.put o.dst v) w
  | (i, false) :: rest, a, w => wpOp P ops R i (fun a' w' => (i ≠ s → QF F w w') ∧ wpMixS F s P ops R rest a' w') a w

theorem wpAnyS_of_mix (hs : Region.noSelect ops = true) (hR : ∀ c a (d : Tmp) v w, R (.panic c) (a.put (some d) v) w → R (.panic c) a w) :
    ∀ (l : List (Nat × Bool)) (listed : Array Bool) (a : Act) (w : World), mixSB md ops s l listed = true → mixB md ops l listed = true → wpMixS F s P ops R l a w → wpAnyS F s P md ops R l.length listed a w
  | [], _, _, _, _, hB, h => ⟨by simpa [mixB] using hB, h⟩
  | (i, true) :: l, listed, a, w, hv, hB, h => by
    simp only [mixSB, Bool.not_true, Bool.false_or, Bool.and_eq_true, bne_iff_ne, ne_eq] at hv
    obtain ⟨o, v, ho, hy, hk⟩ := h
    simp only [mixB, Bool.and_eq_true] at hB
    obtain ⟨⟨hr, hf⟩, hB'⟩ := hB
    exact wpAnyS_first ho (Region.noSelect_spec hs) (fun c a w hh => by cases hd : o.dst with | none => (rw [hd] at hh; exact hh) | some d => (rw [hd] at hh; exact hR c a d _ w hh)) hv.1.1 l.length listed a w (Region.free_spec ho hf) (late_spec hv.1.2) (by simpa using hr) hy (wpAnyS_of_mix hs hR l _ _ _ hv.2 hB' hk)
  | (i, false) :: l, listed, a, w, hv, hB, h => by
    simp only [mixSB, Bool.and_eq_true] at hv
    simp only [mixB, Bool.and_eq_true, beq_iff_eq] at hB
    obtain ⟨hr, hB'⟩ := hB
    refine ⟨fun h0 => (by rw [hr] at h0; cases h0), fun j hj => ?_⟩
    rw [hr] at hj
    obtain rfl : j = i := by simpa using hj
    exact wpOp_mono (fun a' w' h3 => ⟨h3.1, wpAnyS_of_mix hs hR l _ a' w' hv.2 hB' h3.2⟩) h

theorem wp_region_mixS {id : Nat} {a : Act} {w : World} (s : Nat) (l : List (Nat × Bool)) (hm : P.follows .mixedOrders = true) (hB : (mixSB .any ops s l (Array.replicate ops.size false) && Region.noSelect ops && (l.length == ops.size) && mixB .any ops l (Array.replicate ops.size false)) = true)
    (hR : ∀ c a (d : Tmp) v w, R (.panic c) (a.put (some d) v) w → R (.panic c) a w) (h : wpMixS F s P ops R l a w.drew) : (Code.region id ops true).wp P R a w := by
  simp only [Bool.and_eq_true, beq_iff_eq] at hB
  obtain ⟨⟨⟨hv, hs⟩, hl⟩, hB⟩ := hB
  refine wp_region_any hm (wpAny_of_S (F := F) (s := s) _ _ _ _ ?_)
  rw [← hl]
  exact wpAnyS_of_mix hs hR l _ a w.drew (by rw [hl]; exact hv) (by rw [hl]; exact hB) h

theorem mixS_val_of {l : List Oper} {i : Nat} {rest : List (Nat × Bool)} {a : Act} {w : World} {o : Oper} (hi' : l[i]? = some o)
    (hv : ∀ w : World, (∃ x w', (execOp a.eval o).run P w = .ok (.value x) w') ∨ ∃ k w', (execOp a.eval o).run P w = .halt k w')
    (h : wpQuiet P l.toArray (fun w'' => ∃ x : AfterF F w, w'' = x.w) (fun a' => wpMixS F s P l.toArray R rest a' w) [o] a) : wpMixS F s P l.toArray R ((i, true) :: rest) a w := by
  have hi : l.toArray[i]? = some o := by simpa using hi'
  have hst : qOp P l.toArray (fun w'' => ∃ x : AfterF F w, w'' = x.w) i (fun a' => wpMixS F s P l.toArray R rest a' w) a := by unfold qOp; simp only [hi]; exact h
  obtain ⟨v, hy, hK⟩ := yieldsIn_of_qOp hi hst
  refine ⟨o, v, hi, ?_, hK⟩
  rcases hy with ⟨hw, hq⟩ | ⟨hw, hu⟩
  · refine .inl ⟨hw, fun w'' q => ?_⟩
    have h3 := hq w'' ⟨⟨w'', q⟩, rfl⟩
    unfold Oper.quietAt at h3
    rcases hv w'' with ⟨x, w3, e⟩ | ⟨k, w3, e⟩
    · rw [e] at h3 ⊢
      obtain ⟨rfl, rfl⟩ := h3
      rfl
    · rw [e] at h3
      exact h3.elim
  · exact .inr ⟨hw, hu⟩
theorem mixS_val {l : List Oper} {i : Nat} {rest : List (Nat × Bool)} {a : Act} {w : World} {o : Oper} (hi' : l[i]? = some o) (hv : valOp o = true)
    (h : wpQuiet P l.toArray (fun w'' => ∃ x : AfterF F w, w'' = x.w) (fun a' => wpMixS F s P l.toArray R rest a' w) [o] a) : wpMixS F s P l.toArray R ((i, true) :: rest) a w :=
  mixS_val_of hi' (fun w => valOp_run hv a.eval w) h
/-- a nil check of a pointer that is not nil -/
theorem mixS_nil {l : List Oper} {i : Nat} {rest : List (Nat × Bool)} {a : Act} {w : World} {o : Oper} {x : Operand} {p : Addr} (hi' : l[i]? = some o) (ho : o.op = .nilCheck x) (hx : a.eval x = .pointer (some p))
    (h : wpQuiet P l.toArray (fun w'' => ∃ x : AfterF F w, w'' = x.w) (fun a' => wpMixS F s P l.toArray R rest a' w) [o] a) : wpMixS F s P l.toArray R ((i, true) :: rest) a w :=
  mixS_val_of hi' (fun w => by unfold execOp; simp only [ho, hx]; exact .inl ⟨_, _, rfl⟩) h
theorem mixS_run {l : List Oper} {i : Nat} {rest : List (Nat × Bool)} {a : Act} {w : World} {o : Oper} (hi' : l[i]? = some o) (hw : Region.wanted o (yielded l.toArray a.tmps) = true)
    (h : ∀ K : Act → World → Prop, (∀ a' w', QF F w w' → wpMixS F s P l.toArray R rest a' w' → K a' w') → Oper.wp P o a w K R) : wpMixS F s P l.toArray R ((i, false) :: rest) a w := by
  have hi : l.toArray[i]? = some o := by simpa using hi'
  show wpOp P l.toArray R i (fun a' w' => (i ≠ s → QF F w w') ∧ wpMixS F s P l.toArray R rest a' w') a w
  exact wpOp_step hi (fun K hK => by rw [if_pos hw]; exact h K (fun a' w' q hm => hK a' w' ⟨fun _ => q, hm⟩))
theorem mixS_last {l : List Oper} {i : Nat} {rest : List (Nat × Bool)} {a : Act} {w : World} {o : Oper} (hi' : l[i]? = some o) (hw : Region.wanted o (yielded l.toArray a.tmps) = true)
    (h : ∀ K : Act → World → Prop, (∀ a' w', wpMixS F s P l.toArray R rest a' w' → K a' w') → Oper.wp P o a w K R) (his : i = s := by rfl) : wpMixS F s P l.toArray R ((i, false) :: rest) a w := by
  have hi : l.toArray[i]? = some o := by simpa using hi'
  show wpOp P l.toArray R i (fun a' w' => (i ≠ s → QF F w w') ∧ wpMixS F s P l.toArray R rest a' w') a w
  exact wpOp_step hi (fun K hK => by rw [if_pos hw]; exact h K (fun a' w' hm => hK a' w' ⟨fun e => absurd his e, hm⟩))
theorem mixS_end {l : List Oper} {a : Act} {w : World} (h : R .normal a w) : wpMixS F s P l.toArray R [] a w := h
end
end Go.Proofs.Ytpoffkkkkieniaa
