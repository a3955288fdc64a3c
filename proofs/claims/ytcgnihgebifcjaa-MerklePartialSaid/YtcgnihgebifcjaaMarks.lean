/- The end of an activation that has ranged over functions: its marks are taken, nothing else turns. -/
import Derived.Test.YtcgnihgebifcjaaMkP
namespace Go.Proofs.Ytcgnihgebifcjaa
open Go Go.RowKit

theorem Box.setC {w : World} {B : Nat} {vs : List Value} (h : Box w B vs) (i : Nat) (u : Value) (hi : i < vs.length) : Box (w.setCell ⟨B, i, none⟩ u) B (vs.set i u) := by
  refine ⟨by simpa using h.1, fun k v hv => ?_⟩
  rw [World.frozen?_setCell]
  by_cases hk : k = i
  · subst hk
    simp [hi] at hv
    subst hv
    obtain ⟨c, f⟩ := h.2 k vs[k] (by simp [hi])
    exact ⟨World.cell?_setCell_same _ _ _ c, f⟩
  · rw [List.getElem?_set_ne (Ne.symm hk)] at hv
    obtain ⟨c, f⟩ := h.2 k v hv
    exact ⟨(World.cell?_setCell_other _ _ _ _ (by simp)).trans c, f⟩
def MarksOk (ds : List Deferred) (W : World) : Prop := (∀ d ∈ ds, ∃ D, d.target = .collected D ∧ W.heap[D]? = some (.deferred (some []))) ∧ ds.Pairwise (fun x y => x.target ≠ y.target)
def MarkF (ds : List Deferred) (b : Nat) : Prop := ∃ d ∈ ds, d.target = .collected b
theorem qf_putObj (W : World) (l : Nat) (o : Obj) : QF (· = l) W (W.putObj l o) := ⟨rfl, rfl, rfl, by simp [World.putObj], fun k _ hk => World.putObj_heap_other hk⟩
theorem MarksOk.nil (W : World) : MarksOk [] W := ⟨(fun d hd => by cases hd), List.Pairwise.nil⟩
theorem MarksOk.qf {ds : List Deferred} {W W' : World} {F : Nat → Prop} (h : MarksOk ds W) (q : QF F W W') (hF : ∀ b, F b → ∀ o : Obj, W.heap[b]? = some o → o.isCells = true) : MarksOk ds W' := by
  refine ⟨fun d hd => ?_, h.2⟩
  obtain ⟨D, h1, h2⟩ := h.1 d hd
  exact ⟨D, h1, (q.block D (Array.getElem?_eq_some_iff.1 h2).1 (fun hf => by have := hF D hf _ h2; cases this)).trans h2⟩
theorem marks_leave {fn : Func} {tmps : Array Value} {R : Ending → World → Prop} {v : Value} : ∀ (ds : List Deferred) (W : World), MarksOk ds W → (∀ W', QF (MarkF ds) W W' → (results fn tmps).run Try.prog W' = .ok v W' ∧ R (.returned v) W') →
    LeavesInM Fence.wide 5 Try.prog fn tmps R ds .returning W
  | [], W, _, h => by
    obtain ⟨h1, h2⟩ := h W (QF.refl _ W)
    exact ⟨v, h1, h2⟩
  | d :: ds, W, hm, h => by
    obtain ⟨D, hd, hh⟩ := hm.1 d List.mem_cons_self
    have hp := List.pairwise_cons.1 hm.2
    refine ⟨by simp, .inl ⟨D, _, hd, run_takeDeferred hh, marks_leave ds _ ⟨fun x hx => ?_, hp.2⟩ (fun W' q => h W' ?_)⟩⟩
    · obtain ⟨E, he, hw⟩ := hm.1 x (List.mem_cons_of_mem _ hx)
      have hne : E ≠ D := fun e => hp.1 x hx (by rw [hd, he, e])
      exact ⟨E, he, ((qf_putObj W D _).block E (Array.getElem?_eq_some_iff.1 hw).1 hne).trans hw⟩
    · refine ((qf_putObj W D (.deferred none)).mono (fun b hb => ⟨d, List.mem_cons_self, by rw [hb]; exact hd⟩)).trans q (fun b hb => .inl ?_)
      obtain ⟨x, hx, e⟩ := hb
      exact ⟨x, List.mem_cons_of_mem _ hx, e⟩
/-- the body's end of a function that ranges over functions -/
def postM (fn : Func) (R : Ending → World → Prop) : Exit → Act → World → Prop
  | .panic _, _, _ => False
  | .outgrown, _, _ => False
  | e, a, w => bodyPostM Fence.wide 5 Try.prog fn R e a w
theorem calls_marks {f : FuncId} {fn : Func} {c : Go.Code} {args : Array Value} {w : World} {R : Ending → World → Prop} (hf : Try.prog.funcs[f]? = some fn) (hb : fn.body = some c)
    (h : c.wp Try.prog (postM fn R) { tmps := args ++ Array.replicate (fn.ntmps - args.size) undef, defers := [] } w) : Calls Try.prog f args w R := by
  refine (callsIn_wide (n := 5)).1 (callsIn_of_wp_marks hf hb trivial (wpIn_mono (wpIn_wide.2 h) fun e a w he => ?_) rfl)
  cases e <;> first | exact he | exact he.elim
theorem postM_ret {fn : Func} {R : Ending → World → Prop} {a : Act} {W : World} {v : Value} (hm : MarksOk a.defers W) (h : ∀ W', QF (MarkF a.defers) W W' → (results fn a.tmps).run Try.prog W' = .ok v W' ∧ R (.returned v) W') : postM fn R .ret a W := marks_leave _ _ hm h
theorem postM_end {fn : Func} {R : Ending → World → Prop} {a : Act} {W : World} {v : Value} (hm : MarksOk a.defers W) (h : ∀ W', QF (MarkF a.defers) W W' → (results fn a.tmps).run Try.prog W' = .ok v W' ∧ R (.returned v) W') : postM fn R .normal a W := marks_leave _ _ hm h
theorem q_marks {w W W' : World} {ds : List Deferred} (q : Q w W) (h : QF (MarkF ds) W W') (hd : ∀ d ∈ ds, ∀ b, d.target = .collected b → w.heap.size ≤ b) : Q w W' :=
  QF.q q h (fun k ⟨d, hm, e⟩ => hd d hm k e)
/-- the end without a mark -/
theorem postM_ret0 {fn : Func} {R : Ending → World → Prop} {tmps : Array Value} {W : World} {v : Value} (h : ∀ W', Q W W' → (results fn tmps).run Try.prog W' = .ok v W' ∧ R (.returned v) W') : postM fn R .ret { tmps := tmps, defers := [] } W :=
  postM_ret (MarksOk.nil _) (fun W' q => h W' (q_marks (Q.refl W) q (fun d hd => by cases hd)))
theorem postM_end0 {fn : Func} {R : Ending → World → Prop} {tmps : Array Value} {W : World} {v : Value} (h : ∀ W', Q W W' → (results fn tmps).run Try.prog W' = .ok v W' ∧ R (.returned v) W') : postM fn R .normal { tmps := tmps, defers := [] } W :=
  postM_end (MarksOk.nil _) (fun W' q => h W' (q_marks (Q.refl W) q (fun d hd => by cases hd)))
/-- the end with one mark -/
theorem marks_one {D : Nat} {W : World} (hh : W.heap[D]? = some (.deferred (some []))) : MarksOk [{ target := .collected D, args := #[] }] W :=
  ⟨fun d hd => by rw [List.mem_singleton.1 hd]; exact ⟨D, rfl, hh⟩, List.pairwise_singleton _ _⟩
theorem q_one {w W W' : World} {D : Nat} (q : Q w W) (hD : w.heap.size ≤ D) (h : QF (MarkF [{ target := .collected D, args := #[] }]) W W') : Q w W' :=
  q_marks q h (fun d hd b e => by rw [List.mem_singleton.1 hd] at e; injection e with e; omega)
theorem postM_ret1 {fn : Func} {R : Ending → World → Prop} {tmps : Array Value} {W : World} {v : Value} {D : Nat} (hh : W.heap[D]? = some (.deferred (some [])))
    (h : ∀ W', QF (· = D) W W' → (results fn tmps).run Try.prog W' = .ok v W' ∧ R (.returned v) W') : postM fn R .ret { tmps := tmps, defers := [{ target := .collected D, args := #[] }] } W :=
  postM_ret (marks_one hh) (fun W' q => h W' (q.mono (fun b ⟨d, hd, e⟩ => by rw [List.mem_singleton.1 hd] at e; injection e with e; exact e.symm)))
theorem postM_end1 {fn : Func} {R : Ending → World → Prop} {tmps : Array Value} {W : World} {v : Value} {D : Nat} (hh : W.heap[D]? = some (.deferred (some [])))
    (h : ∀ W', QF (· = D) W W' → (results fn tmps).run Try.prog W' = .ok v W' ∧ R (.returned v) W') : postM fn R .normal { tmps := tmps, defers := [{ target := .collected D, args := #[] }] } W :=
  postM_end (marks_one hh) (fun W' q => h W' (q.mono (fun b ⟨d, hd, e⟩ => by rw [List.mem_singleton.1 hd] at e; injection e with e; exact e.symm)))
theorem q_D {w W W' : World} {D : Nat} (q : Q w W) (hD : w.heap.size ≤ D) (h : QF (· = D) W W') : Q w W' := QF.q q h (fun k e => by rw [e]; exact hD)
end Go.Proofs.Ytcgnihgebifcjaa
