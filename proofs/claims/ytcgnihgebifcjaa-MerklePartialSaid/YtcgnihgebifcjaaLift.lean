/- A region that draws its order in the body of a range over a function: what is shown of it in the plain calculus holds in a round. -/
import Derived.Test.YtcgnihgebifcjaaMixS
import Derived.Test.YtcgnihgebifcjaaTreeS
import Derived.OrdersIn
import Derived.TacticsIn
import Derived.RangeFuncCalls
namespace Go.Proofs.Ytcgnihgebifcjaa
open Go Go.RowKit

section
variable {P : Program} {ops : Array Oper} {R : Exit → Act → World → Prop} {md : Region.Mode} {l n : Nat}

theorem rowsIn_round {row : String} {args : Array Value} {w : World} {K : Value → World → Prop} (h : Rows P row args w K) : RowsIn (Fence.wide.inRound l) n P row args w K :=
  fun c cs _ => let ⟨v, w', r, s⟩ := h c cs; ⟨v, w', r, stepsIn_wide.2 s⟩
theorem callsIn_round {f : FuncId} {args : Array Value} {w : World} {K : Ending → World → Prop} (h : Calls P f args w K) : CallsIn (Fence.wide.inRound l) n P f args w K := CallsIn.inRound l (callsIn_wide.2 h)
theorem operIn_round {o : Oper} {a : Act} {w : World} {K : Act → World → Prop} (hd : ∀ c, o.op ≠ .defer c) (h : o.wp P a w K R) : o.wpIn (Fence.wide.inRound l) n P a w K R := by
  refine ⟨fun _ _ => trivial, ?_⟩
  rw [Oper.semAt_eq _ _ _ hd]
  unfold Oper.wp at h
  generalize (execOp a.eval o).run P w = r at *
  cases r with
  | ok x w' =>
    cases x <;> simp only [Oper.upon, Oper.uponIn] at h ⊢ <;>
      first
        | exact h
        | exact ⟨fun e => absurd e (by simp [Fence.wide]), callsIn_round h⟩
        | exact ⟨fun e => absurd e (by simp [Fence.wide]), rowsIn_round h⟩
        | exact h.elim
  | halt x w' => cases x <;> simp only [Oper.upon, Oper.uponIn] at h ⊢ <;> exact h
/-- no operation defers -/
def noDefer (ops : Array Oper) : Bool := ops.all fun o => match o.op with | .defer _ => false | _ => true
theorem noDefer_spec (h : noDefer ops = true) : ∀ (i : Nat) o, ops[i]? = some o → ∀ c, o.op ≠ .defer c := fun i o hi c e => by
  have hm := Array.all_eq_true_iff_forall_mem.1 h o (Array.mem_of_getElem? hi)
  rw [e] at hm
  cases hm
theorem wpOpIn_round (hd : noDefer ops = true) (hL : ¬ LetsOut R) {i : Nat} {K : Act → World → Prop} {a : Act} {w : World} (h : wpOp P ops R i K a w) : wpOpIn (Fence.wide.inRound l) n P ops R i K a w := by
  unfold wpOp at h
  unfold wpOpIn
  split at h
  · rename_i ho
    simp only [ho]
    exact h
  · rename_i o ho
    simp only [ho]
    split at h
    · rename_i hw
      rw [if_pos hw]
      exact operIn_round (noDefer_spec hd i o ho) (h.resolve_right (fun x => hL x.2))
    · rename_i hw
      rw [if_neg hw]
      exact ⟨fun _ _ => trivial, h⟩
theorem wpAnyIn_round (hd : noDefer ops = true) (hL : ¬ LetsOut R) : ∀ (fuel : Nat) (listed : Array Bool) (a : Act) (w : World), wpAny P md ops R fuel listed a w → wpAnyIn (Fence.wide.inRound l) n P md ops R fuel listed a w
  | 0, _, _, _, h => h
  | fuel + 1, _, _, _, h => ⟨h.1, fun i hi => wpOpIn_mono (fun a' w' h' => wpAnyIn_round hd hL fuel _ a' w' h') (wpOpIn_round hd hL (h.2 i hi))⟩
theorem wpIn_region_mix {id : Nat} {a : Act} {w : World} (q : List (Nat × Bool)) (hm : P.follows .mixedOrders = true) (hB : (noDefer ops && Region.noSelect ops && (q.length == ops.size) && mixB .any ops q (Array.replicate ops.size false)) = true)
    (hR : ∀ c a (d : Tmp) v w, R (.panic c) (a.put (some d) v) w → R (.panic c) a w) (hL : ¬ LetsOut R) (h : wpMix P ops R q a w.drew) : (Code.region id ops true).wpIn (Fence.wide.inRound l) n P R a w := by
  simp only [Bool.and_eq_true, beq_iff_eq] at hB
  obtain ⟨⟨⟨hd, hs⟩, hl⟩, hB⟩ := hB
  refine wpIn_region_any hm (wpAnyIn_round hd hL _ _ _ _ (wpAny_of_R _ _ _ _ ?_))
  rw [← hl]
  exact wpAnyR_of_mix hs hR q _ a w.drew (by rw [hl]; exact hB) h
theorem wpIn_region_mixF {F : Nat → Prop} {id : Nat} {a : Act} {w : World} (q : List (Nat × Bool)) (hm : P.follows .mixedOrders = true) (hB : (noDefer ops && Region.noSelect ops && (q.length == ops.size) && mixB .any ops q (Array.replicate ops.size false)) = true)
    (hR : ∀ c a (d : Tmp) v w, R (.panic c) (a.put (some d) v) w → R (.panic c) a w) (hL : ¬ LetsOut R) (h : wpMixF F P ops R q a w.drew) : (Code.region id ops true).wpIn (Fence.wide.inRound l) n P R a w := by
  simp only [Bool.and_eq_true, beq_iff_eq] at hB
  obtain ⟨⟨⟨hd, hs⟩, hl⟩, hB⟩ := hB
  refine wpIn_region_any hm (wpAnyIn_round hd hL _ _ _ _ (wpAny_of_F (F := F) _ _ _ _ ?_))
  rw [← hl]
  exact wpAnyF_of_mix hs hR q _ a w.drew (by rw [hl]; exact hB) h
theorem wpIn_region_mixS {F : Nat → Prop} {id : Nat} {a : Act} {w : World} (s : Nat) (q : List (Nat × Bool)) (hm : P.follows .mixedOrders = true) (hB : (noDefer ops && mixSB .any ops s q (Array.replicate ops.size false) && Region.noSelect ops && (q.length == ops.size) && mixB .any ops q (Array.replicate ops.size false)) = true)
    (hR : ∀ c a (d : Tmp) v w, R (.panic c) (a.put (some d) v) w → R (.panic c) a w) (hL : ¬ LetsOut R) (h : wpMixS F s P ops R q a w.drew) : (Code.region id ops true).wpIn (Fence.wide.inRound l) n P R a w := by
  simp only [Bool.and_eq_true, beq_iff_eq] at hB
  obtain ⟨⟨⟨⟨hd, hv⟩, hs⟩, hl⟩, hB⟩ := hB
  refine wpIn_region_any hm (wpAnyIn_round hd hL _ _ _ _ (wpAny_of_S (F := F) (s := s) _ _ _ _ ?_))
  rw [← hl]
  exact wpAnyS_of_mix hs hR q _ a w.drew (by rw [hl]; exact hv) (by rw [hl]; exact hB) h
/-- a region in its text's order -/
theorem wpListIn_round : ∀ (ls : List Oper), (∀ o ∈ ls, ∀ c, o.op ≠ .defer c) → ¬ LetsOut R → ∀ (a : Act) (w : World), wpList P ops R ls a w → wpListIn (Fence.wide.inRound l) n P ops R ls a w
  | [], _, _, _, _, h => h
  | o :: ls, hd, hL, a, w, h => by
    unfold wpList at h
    unfold wpListIn
    split at h
    · rename_i hw
      rw [if_pos hw]
      refine Oper.wpIn_mono (fun a' w' h' => wpListIn_round ls (fun o' ho' => hd o' (List.mem_cons_of_mem _ ho')) hL a' w' h') (operIn_round (hd o List.mem_cons_self) (h.resolve_right (fun x => hL x.2)))
    · rename_i hw
      rw [if_neg hw]
      exact ⟨fun _ _ => trivial, wpListIn_round ls (fun o' ho' => hd o' (List.mem_cons_of_mem _ ho')) hL _ _ h⟩
theorem wpIn_region_text {id : Nat} {a : Act} {w : World} {ls : List Oper} (hd : noDefer ls.toArray = true) (hL : ¬ LetsOut R) (h : wpList P ls.toArray R ls a w) : (Code.region id ls.toArray false).wpIn (Fence.wide.inRound l) n P R a w :=
  wpIn_region_lit (wpListIn_round ls (fun o ho c => by
    obtain ⟨i, hi, e⟩ := List.getElem_of_mem ho
    exact noDefer_spec hd i o (by simp [← e, hi]) c) hL a w h)
end
end Go.Proofs.Ytcgnihgebifcjaa
