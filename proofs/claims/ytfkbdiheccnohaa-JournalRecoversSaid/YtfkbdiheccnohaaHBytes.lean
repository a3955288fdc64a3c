/- Contract: Bytes. -/
import Derived.Test.YtfkbdiheccnohaaSum
import Derived.Deep.Heap
namespace Go.Proofs.Ytfkbdiheccnohaa
open Go Go.RowKit Go.Shelf
attribute [local go_sem] Oper.semAt_some

theorem i64wrap (x : Int) : IntKind.i64.wrap x = i64Z x := by rw [IntKind.wrap_i64]; unfold i64Z; omega

theorem i64Z_range (x : Int) : -9223372036854775808 ≤ i64Z x ∧ i64Z x ≤ 9223372036854775807 := by unfold i64Z; omega
theorem row_not {w : World} {base : Nat} {e : TypeId} {size : Nat} {v : Value} {n : Nat} {cs : List Value} (h : w.ownsRow base e size v n cs) {D : Nat} {l : Option (List Deferred)} (hD : w.heap[D]? = some (.deferred l)) : some D ≠ v.ownBlock := by
  rcases h.2 with ⟨rfl, _⟩ | ⟨g, c, cur, rfl, _, hg, _⟩
  · simp [Value.ownBlock]
  · intro e
    obtain rfl : D = g := by simpa [Value.ownBlock] using e
    rw [hD] at hg
    cases hg

set_option maxRecDepth 100000 in
set_option maxHeartbeats 2000000 in
theorem hbytes_any (s : ByteArray) (a : Option Addr) (len cap : Nat) (bs : List Int) (w : World) (hs : s.size ≤ 1000000) (hl : len ≤ 100000) (hsl : Sl w 1 a len cap (bs.map (Value.int .u8))) (hbb : Bys bs) :
    Calls Try.prog 21 #[.string s, .slice a len cap] w fun e w' => e = .returned (.int .u64 (bytesZ (strZ s) bs)) ∧ Q w w' := by
  have HSL := Lib.hid hsl
  have HBB := Lib.hid hbb
  clear hsl
  obtain ⟨i0, hi, hz0, hz1, hz2⟩ := info_parts infoInt
  refine (callsIn_wide (n := 5)).1 ?_
  refine callsIn_of_wp_marks Try.func21 rfl trivial ?_ rfl
  simp only [Try.ntmps21, List.size_toArray, List.length_cons, List.length_nil, Nat.reduceAdd, Nat.reduceSub, Array.replicate_succ, Array.replicate_zero, List.push_toArray, List.append_toArray, List.nil_append, List.cons_append]
  gi_wp2_with (refine ⟨trivial, ?_⟩; gi_at_call 32; refine (wordsB_in _ a len cap _).mono ?_; rintro e w' ⟨rfl, rfl⟩)
  have bO := Boxed.new w 22 (.slice none 0 0)
  have bN := Boxed.new (w.alloc (.cells #[.slice none 0 0] 22)) 27 (.slice a len cap)
  rw [World.size_alloc] at bN
  have hB0 : Below w.heap.size w ((w.alloc (.cells #[.slice none 0 0] 22)).alloc (.cells #[.slice a len cap] 27)) := ((Below.refl _ w).alloc (Nat.le_refl _) _).alloc (by simp) _
  have hQ0 : Q w ((w.alloc (.cells #[.slice none 0 0] 22)).alloc (.cells #[.slice a len cap] 27)) := hB0
  refine wpIn_rangeFunc_ownG rfl (by omega) (gf := 38) (lb := #[.pointer (some ⟨w.heap.size + 1, 0, none⟩)]) rfl trivial (enters_of Try.func38 (by kernel_rfl) rfl)
    (wordsB_stops (5 - 1) (by omega) (w.heap.size + 1) w.heap.size a len cap bs HBB.out (by omega) w _ bN HSL.out rfl hQ0) (fun h k => h.trans k) (keepB_b (by simp; omega) (by simp)) (Below.refl _ _) (fun _ => rfl)
    (fun (pre : List W64) W => (∃ v, Boxed W w.heap.size 22 v ∧ W.ownsRow w.heap.size 3 1 v (pre.map fun x : W64 => i64Z x.1).length ((pre.map fun x : W64 => i64Z x.1).map (Value.int .i64)) ∧ True) ∧ (Boxed W (w.heap.size + 1) 27 (.slice a len cap) ∧ Below w.heap.size w W))
    (fun _ _ _ => False)
    (OwnFrom.and (Own.from (holdsRow_own w.heap.size w.heap.size 22 3 1 (fun pre : List W64 => (pre.map fun x : W64 => i64Z x.1).length) (fun pre : List W64 => (pre.map fun x : W64 => i64Z x.1).map (Value.int .i64)) (fun _ _ => True)) _)
      (OwnFrom.and (Own.from (fun s A B row hs hg hr => hs.kept hg (fun e => by obtain ⟨o, ho, hc⟩ := hr _ e.symm; have := hs.symm.trans ho; cases this; cases hc)) _) (ownFrom_below (Nat.le_refl _) (by simp; omega))))
    (fun _ _ _ _ _ hs _ _ => hs)
    ⟨⟨_, bO.alloc _, World.ownsRow_nil _ _ _ _, trivial⟩, bN, hB0⟩
    (fun x => { tmps := #[.string s, .slice a len cap, undef, undef, .int .u64 0, .pointer (some ⟨w.heap.size, 0, none⟩), .int .u64 x.1, .slice a len cap, .func (.func 38) #[] #[.pointer (some ⟨w.heap.size + 1, 0, none⟩)], .int .u64 x.1, undef, undef, undef, undef, undef, undef, undef, undef, undef, undef, undef, undef], defers := [] }) ?assign ?body ?done ?stop
  case assign =>
    intro l x W K hK
    gi_wp2
    exact hK
  case body =>
    rintro l pre x W ⟨⟨v, hv, hrow, _⟩, hbx, hB⟩ hlt
    have hc := hv.cell
    have hpl : (pre.map fun x : W64 => i64Z x.1).length ≤ 1000000 := by rw [List.length_map]; omega
    have hnr := hbx.not_row (by decide) hrow
    have HBX := Lib.hid hbx
    have HBW := Lib.hid hB
    clear hbx
    generalize hpp : (pre.map fun x : W64 => i64Z x.1) = ps at *
    have HPP := Lib.hid hpp
    clear hpp
    have e64 : IntKind.i64.wrap x.1 = i64Z x.1 := i64wrap x.1
    gi_wp2_with (gi_at_builtin; refine wpListIn_append_own _ rfl _ _ 22 rfl w.heap.size 3 i0 (.int .i64 0) 1 8 Try.underlying22 hi hz0 hz1 hz2 rfl (by decide) _ _ _ rfl (hrow.alloc _) ⟨W.heap.size, 0, none⟩ 1 1 [.int .i64 (i64Z x.1)] rfl rfl (cell_one_new _ _ _) (by simp [Value.oneCell']) (by unfold maxLen; omega) (by omega) (by have := hB.size; simp; omega) ?_; intro v' w1 hown' hgrow _; obtain ⟨g', cap', rfl⟩ := ownsRow_succ hown'; obtain ⟨hv1, hv2, hr2, hk2, hb2⟩ := hv.appended (by decide) hrow hB.size (Nat.le_refl _) hown' hgrow; have hc1 := hv1.cell; have hf1 := hv1.frozen)
    have hblt := HBX.out.lt
    have hbs : (w1.setCell ⟨w.heap.size, 0, none⟩ (.slice (some ⟨g', 0, none⟩) (ps.length + 1) cap')).heap[w.heap.size + 1]? = W.heap[w.heap.size + 1]? :=
      (Below.heap_setCell _ _ _ _ (by simp)).trans ((hgrow.block _ (by simp; omega) hnr).trans (Deep.blk_alloc_lt _ _ _ hblt))
    have e : (pre ++ [x]).map (fun x : W64 => i64Z x.1) = ps ++ [i64Z x.1] := by rw [List.map_append, HPP.out]; rfl
    refine ⟨hk2.from _, ⟨hb2, hbs⟩, ⟨_, hv2, ?_, trivial⟩, ?_, hB.trans hb2⟩
    · rw [e, List.map_append, List.length_append]
      exact hr2
    · exact hbs.trans HBX.out
  case done =>
    rintro D ys W hD rfl ⟨⟨v, hv, hrow, _⟩, hbx, hB⟩ hK
    have hc := hv.cell
    have hcb := hbx.cell
    have HK := Lib.hid hK
    have HD := Lib.hid hD
    have HB := Lib.hid hB
    clear hK hD
    generalize hpp : ((uptoWW bs HBB.out ((len + 7) / 8)).map fun x : W64 => i64Z x.1) = ps at *
    have HPP := Lib.hid hpp
    clear hpp
    have hpl : ps.length ≤ 100000 := by rw [← HPP.out, List.length_map, uptoWW_len]; omega
    gi_wp2_with (gi_at_builtin; refine wpListIn_append_own _ rfl _ _ 22 rfl w.heap.size 3 i0 (.int .i64 0) 1 8 Try.underlying22 hi hz0 hz1 hz2 rfl (by decide) _ _ _ rfl (hrow.alloc _) ⟨W.heap.size, 0, none⟩ 1 1 [.int .i64 len] rfl rfl (cell_one_new _ _ _) (by simp [Value.oneCell']) (by unfold maxLen; omega) (by omega) (by have := hB.size; simp; omega) ?_; intro v' w1 hown' hgrow _; obtain ⟨g', cap', rfl⟩ := ownsRow_succ hown')
    have hsl1 : Sl w1 1 (some ⟨g', 0, none⟩) (ps.length + 1) cap' ((ps ++ [(len : Int)]).map (Value.int .i64)) := by rw [List.map_append]; exact Sl.of_own hown'
    have hDlt : D < W.heap.size := (Array.getElem?_eq_some_iff.1 HK.out).1
    have hK1 : w1.heap[D]? = some (.deferred (some [])) := (hgrow.block D (by simp; omega) (row_not hrow HK.out)).trans ((Deep.blk_alloc_lt _ _ _ hDlt).trans HK.out)
    have hq1 : Q w w1 := Q.grown_own (Below.trans HB.out ((Below.refl _ W).alloc (by have := hB.size; omega) _)) (hrow.alloc _) (Nat.le_refl _) hgrow
    have hw1 : D < w1.heap.size := (Array.getElem?_eq_some_iff.1 hK1).1
    refine ⟨trivial, (callsIn_wide.2 (sum_any s _ _ cap' (ps ++ [(len : Int)]) w1 hs (by omega) hsl1 ?_)).mono ?_⟩
    · intro z hz
      rcases List.mem_append.1 hz with hz | hz
      · rw [← HPP.out] at hz
        obtain ⟨x, _, rfl⟩ := List.mem_map.1 hz
        exact i64Z_range _
      · simp at hz
        subst hz
        omega
    rintro e w2 ⟨rfl, hq2⟩
    have hK2 : w2.heap[D]? = some (.deferred (some [])) := (Below.block hq2 D hw1).trans hK1
    have hD2 := HD.out
    simp at hD2
    clear hsl1 hown' hgrow hc hcb hbx hv hrow hB
    gi_wp2
    refine ⟨by simp, .inl ⟨_, _, rfl, run_takeDeferred hK2, ?_⟩⟩
    refine ⟨_, results_tmp rfl _ _ _, ?_, ?_⟩
    · have e : bytesZ (strZ s) bs = sumZ (strZ s) (ps ++ [(len : Int)]) := by
        have hlen : bs.length = len := by have := HSL.out.1; simpa using this
        unfold bytesZ
        rw [← HPP.out, ← uptoW_all, hlen, ← uptoWW_val bs HBB.out, List.map_map]
        rfl
      rw [e]
      rfl
    · exact Below.trans (Q.trans hq1 hq2) (belowK_b (w := w) (Nat.le_refl _) _ D _ _ (by omega) hK2 rfl rfl)
  case stop =>
    rintro D c pre W _ _ h _
    exact h.elim
end Go.Proofs.Ytfkbdiheccnohaa
