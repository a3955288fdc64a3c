/- The path from a leaf to the root: contracts of path and of its iterator. -/
import Derived.Test.YtcgnihgebifcjaaMkB
import Derived.Test.YtcgnihgebifcjaaSum
namespace Go.Proofs.Ytcgnihgebifcjaa
open Go Go.RowKit Go.Shelf
attribute [local go_sem] Oper.semAt_some

set_option maxRecDepth 100000 in
set_option maxHeartbeats 1000000 in
theorem mPath_any (i h : Nat) (w : World) : Calls Try.prog 37 #[.int .i64 i, .int .i64 h] w fun e w' =>
    e = .returned (.func (.func 46) #[] #[.pointer (some ⟨w.heap.size + 1, 0, none⟩), .pointer (some ⟨w.heap.size, 0, none⟩)]) ∧ w' = (w.alloc (.cells #[.int .i64 i] 3)).alloc (.cells #[.int .i64 h] 3) := by
  go_enter Try.func37, Try.ntmps37
  go_wp2
  go_ret
  exact ⟨rfl, rfl⟩
/-- what is handed to the loop's body on level m -/
def up (i m : Nat) : Nat := i / P2 m
def lvl (i m : Nat) : Array Value := #[.int .i64 m, .int .i64 (up i m)]
/-- the levels below h -/
abbrev Below1 (h : Nat) := { m : Nat // m < h }
def KeepI (B : Nat) (W W' : World) : Prop := W'.heap[B]? = W.heap[B]?
set_option maxRecDepth 100000 in
set_option maxHeartbeats 2000000 in
theorem path1_in (F : Fence) (n : Nat) (hF : F.fn 46) (hro : F.round = none) (hn : 1 ≤ n) (l HB IB i h : Nat) (hh : h ≤ 40) (hi : i ≤ 1000000) (J Jx : List (Below1 h) → World → Prop)
    (hY : ∀ pre x W, J pre W → pre.length < h → YieldAt F (n - 1) Try.prog l (lvl i x.1) W fun e W' =>
      (e = .returned (.bool true) ∧ J (pre ++ [x]) W' ∧ KeepI IB W W') ∨ (e = .returned (.bool false) ∧ Jx (pre ++ [x]) W'))
    (W : World) (hhb : Boxed W HB 3 (.int .i64 h)) (hib : Boxed W IB 3 (.int .i64 i)) (h0 : J [] W) :
    CallsIn F n Try.prog 46 #[.func (.yield l) #[] #[], .pointer (some ⟨HB, 0, none⟩), .pointer (some ⟨IB, 0, none⟩)] W fun e W' => (∃ v, e = .returned v) ∧
      ((∃ ys, ys.map Subtype.val = List.range h ∧ J ys W') ∨ (∃ pre, True ∧ Jx pre W')) := by
  have HY := Lib.hid hY
  clear hY
  have hhc := hhb.cell
  refine callsIn_of_wp Try.func46 rfl hF ?_ hro
  simp only [Try.ntmps46, List.size_toArray, List.length_cons, List.length_nil, Nat.reduceAdd, Nat.reduceSub, Array.replicate_succ, Array.replicate_zero, List.push_toArray, List.append_toArray, List.nil_append, List.cons_append]
  gi_wp2
  clear hhc
  gi_loopw [6] (fun v wr => ∃ j : Nat, j ≤ h ∧ v = .int .i64 j ∧ (∃ pre : List (Below1 h), pre.map Subtype.val = List.range j ∧ J pre wr) ∧ KeepI IB W wr)
    (fun v _ => h - (intOf v).toNat)
  case atStart => exact ⟨0, by omega, rfl, ⟨[], rfl, h0⟩, rfl⟩
  case round =>
    obtain ⟨j, hj, rfl, ⟨pre, hpre, hJ⟩, hk⟩ := hrel
    have HPRE := Lib.hid hpre
    clear hpre
    have hbx : Boxed wr IB 3 (.int .i64 i) := Eq.trans hk hib
    have hcell := hbx.cell
    have HK := Lib.hid hk
    have HJ := Lib.hid hJ
    clear hk hJ hbx
    by_cases hlt : j < h
    · obtain ⟨fn, tmps, assign, body, hy, hR⟩ := HY.out pre ⟨j, hlt⟩ wr HJ.out (by have := congrArg List.length HPRE.out; rw [List.length_map, List.length_range] at this; omega)
      unfold lvl at hy
      have HR := Lib.hid hR
      clear hR
      have HD := Lib.hid (show ((up i j : Nat) : Int) = (i : Int) / 2 ^ j by unfold up P2; rw [Int.natCast_ediv, Int.natCast_pow]; rfl)
      rw [HD.out] at hy
      gi_wp2
      refine HR.out.mono ?_
      rintro e W3 (⟨rfl, hJ3, hk3⟩ | ⟨rfl, hJx3⟩)
      · have HK3 := Lib.hid (show KeepI IB W W3 from Eq.trans hk3 HK.out)
        have HJ3 := Lib.hid (show ∃ pre : List (Below1 h), pre.map Subtype.val = List.range (j + 1) ∧ J pre W3 from ⟨_, by rw [List.map_append, HPRE.out, List.range_succ]; rfl, hJ3⟩)
        clear hk3 hJ3
        gi_wp2
        go_roundw
        case rel => exact ⟨j + 1, by omega, by go_num, HJ3.out, HK3.out⟩
        case measure => simp [intOf]; omega
      · have HJ3 := Lib.hid hJx3
        clear hJx3
        gi_wp2
        refine bodyPost_ret (results_none rfl _ _ _) rfl ?_
        exact ⟨⟨_, rfl⟩, .inr ⟨_, trivial, HJ3.out⟩⟩
    · have hj2 : j = h := by omega
      subst hj2
      gi_wp2
      go_end0
      exact ⟨⟨_, rfl⟩, .inl ⟨_, HPRE.out, HJ.out⟩⟩
theorem stops (n : Nat) (hn : 1 ≤ n) (HB IB i h : Nat) (hh : h ≤ 40) (hi : i ≤ 1000000) (w : World) (hH : Boxed w HB 3 (.int .i64 h)) (hI : Boxed w IB 3 (.int .i64 i)) :
    SeqStopsK Fence.wide n Try.prog 46 #[.pointer (some ⟨HB, 0, none⟩), .pointer (some ⟨IB, 0, none⟩)] (fun x : Below1 h => lvl i x.1) (KeepI IB) (fun ys => ys.map Subtype.val = List.range h) (fun _ => True) h w := by
  intro l J Jx W hW _ _ hY h0
  refine (path1_in Fence.wide n trivial rfl hn l HB IB i h hh hi J Jx hY W ((hW.block HB hH.lt).trans hH) ((hW.block IB hI.lt).trans hI) h0).mono ?_
  rintro e W' ⟨he, ⟨ys, hy, hj⟩ | ⟨pre, _, hj⟩⟩
  · exact ⟨he, .inl ⟨_, hy, hj⟩⟩
  · exact ⟨he, .inr ⟨_, trivial, hj⟩⟩
/-- the blocks that the loop's own book-keeping may turn -/
def BookF (B : Nat) (W : World) (b : Nat) : Prop := B ≤ b ∧ ∃ o : Obj, W.heap[b]? = some o ∧ o.isCells = false
theorem row_cells {W : World} {base : Nat} {E : TypeId} {size : Nat} {v : Value} {n : Nat} {cs : List Value} (h : W.ownsRow base E size v n cs) : ∀ k, v.ownBlock = some k → ∀ o : Obj, W.heap[k]? = some o → o.isCells = true := fun k hk o ho => by
  rcases h.2 with ⟨he, _⟩ | ⟨g, c, cur, he, _, hg, _⟩
  · rw [he] at hk; cases hk
  · rw [he] at hk
    cases hk
    rw [hg] at ho
    cases ho
    rfl
theorem QF.keeps {F : Nat → Prop} {B : Nat} {W W' : World} (q : QF F W W') (hF : ∀ b, F b → B ≤ b → ∀ o : Obj, W.heap[b]? = some o → o.isCells = true) : KeepsFrom B W W' :=
  ⟨q.size, fun k o hB hk ho => (q.block k (Array.getElem?_eq_some_iff.1 hk).1 (fun hf => by rw [hF k hf hB o hk] at ho; cases ho)).trans hk⟩
/-- 'for level, k := range path(i, h)', its body never leaving: what a round makes of the state, whatever the level -/
theorem wp_path {σ : Type} {ps : Array Tmp} {g : Operand} {assign body : Go.Code} {Q : Exit → Act → World → Prop} {a : Act} {w : World} (HB IB i h : Nat) (hh : h ≤ 40) (hi : i ≤ 1000000)
    (hg : a.eval g = .func (.func 46) #[] #[.pointer (some ⟨HB, 0, none⟩), .pointer (some ⟨IB, 0, none⟩)]) (hps : ps.size = 2)
    (hH : Boxed w HB 3 (.int .i64 h)) (hI : Boxed w IB 3 (.int .i64 i)) (f : σ → Nat → σ) (s0 : σ) (I : Nat → σ → World → Prop) (h0 : I 0 s0 w)
    (hst : ∀ j s W W', I j s W → QF (BookF w.heap.size W) W W' → I j s W') (a₁ : Nat → Act)
    (hassign : ∀ (l n : Nat) (m : Nat) (W : World) (K : Act → World → Prop), K (a₁ m) W → assign.wpIn (Fence.wide.inRound l) n Try.prog (Exit.then K (fun _ _ _ => False)) { tmps := (ps.zip (lvl i m)).foldl (fun t (p, v) => t.setIfInBounds p v) a.tmps, defers := [] } W)
    (hbody : ∀ (l n : Nat) (m j : Nat) (s : σ) (W : World) (R : Exit → Act → World → Prop), m < h → j < h → I j s W → ¬ LetsOut R → (∀ c a (d : Tmp) v w, R (.panic c) (a.put (some d) v) w → R (.panic c) a w) →
      (∀ a' W', KeepsFrom w.heap.size W W' → W'.heap[IB]? = W.heap[IB]? → I (j + 1) (f s m) W' → R .normal a' W') → body.wpIn (Fence.wide.inRound l) n Try.prog R (a₁ m) W)
    (hdone : ∀ (D : Nat) (W : World), w.heap.size ≤ D → I h ((List.range h).foldl f s0) W → W.heap[D]? = some (.deferred (some [])) → Q .normal { a with defers := { target := .collected D, args := #[] } :: a.defers } W) :
    (Go.Code.rangeFunc g ps assign body).wp Try.prog Q a w := by
  refine (wpIn_wide (n := 5)).1 ?_
  refine wpIn_rangeFunc_ownG rfl (by omega) (gf := 46) (lb := #[.pointer (some ⟨HB, 0, none⟩), .pointer (some ⟨IB, 0, none⟩)]) hg trivial (enters_of Try.func46 (by kernel_rfl) rfl)
    (stops (5 - 1) (by omega) HB IB i h hh hi w hH hI) (fun h k => Eq.trans k h) (fun W l o o' hl _ _ _ => World.putObj_heap_other (by have := hI.lt; omega)) (Below.refl _ _) (fun _ => by rw [hps]; rfl)
    (fun (pre : List (Below1 h)) W => I pre.length ((pre.map Subtype.val).foldl f s0) W) (fun _ _ _ => False) ?_ (fun _ _ _ _ _ hs _ _ => hs) h0 (fun x => a₁ x.1) (fun l x W K hK => hassign l _ x.1 W K hK) ?_ ?_ (fun _ _ _ _ _ _ h _ => h.elim)
  · rintro pre W W' row hm hgr hrow
    exact hst _ _ W W' hm (QF.grown hgr fun k hk => ⟨(hrow k hk).1, (hrow k hk).2⟩)
  · rintro l pre x W hm hlt
    refine hbody l _ x.1 pre.length _ W _ x.2 hlt hm (fun ⟨_, _, hx⟩ => hx) (fun _ _ _ _ _ hx => hx) (fun a' W' hk hb hI' => ⟨hk, hb, ?_⟩)
    show I (pre ++ [x]).length (((pre ++ [x]).map Subtype.val).foldl f s0) W'
    rw [List.map_append, List.foldl_append, List.length_append]
    exact hI'
  · rintro D xs W hD hxs hI' hK
    have hl : xs.length = h := by have := congrArg List.length hxs; rw [List.length_map, List.length_range] at this; exact this
    rw [hxs, hl] at hI'
    exact hdone D W hD hI' hK
end Go.Proofs.Ytcgnihgebifcjaa
