/- Contract: the reference's Advance. -/
import Derived.Test.YtpoffkkkkieniaaQU
import Derived.Deep.DeepCutAuto
namespace Go.Proofs.Ytpoffkkkkieniaa
open Go Go.RowKit Go.BigFrame

theorem infoSlIn : (Try.prog.info? 49).map (fun i => (i.zero, i.size, i.bytes)) = some (some (.slice none 0 0), 1, 24) := by kernel_rfl
theorem infoSlB : (Try.prog.info? 50).map (fun i => (i.zero, i.size, i.bytes)) = some (some (.slice none 0 0), 1, 24) := by kernel_rfl
theorem RQ.push {w : World} {s : QS} {L : List On} {la ra ma : Option Addr} {lc rc mc : Nat} {cs : List (Value × Value)} (h : RQ w s L la lc ra rc ma mc cs) {ra' ma' : Option Addr} {rc' mc' : Nat} {a b : Option Addr} {ca cb : Nat}
    (hr : Sl w 1 ra' (s.tks.length + 1) rc' (cs.flatMap fstV ++ [.slice a s.k ca])) (hm : Sl w 1 ma' (s.tks.length + 1) mc' (cs.flatMap sndV ++ [.slice b s.k cb])) (ha : Sl w 3 a s.k ca (inCells (fixRow s).1)) (hb : Sl w 1 b s.k cb ((fixRow s).2.map Value.bool)) :
    RQ w (fixT s) L la lc ra' rc' ma' mc' (cs ++ [(.slice a s.k ca, .slice b s.k cb)]) where
  sl := h.sl
  rows := by rw [List.flatMap_append]; show Sl w 1 ra' (s.tks ++ [fixRow s]).length rc' _; rw [List.length_append]; exact hr
  miss := by rw [List.flatMap_append]; show Sl w 1 ma' (s.tks ++ [fixRow s]).length mc' _; rw [List.length_append]; exact hm
  cl := by rw [List.length_append, h.cl]; show _ = (s.tks ++ [fixRow s]).length; rw [List.length_append]; rfl
  tk := fun i x hx => by
    replace hx : (s.tks ++ [fixRow s])[i]? = some x := hx
    rcases Nat.lt_or_ge i s.tks.length with h' | h'
    · rw [List.getElem?_append_left h'] at hx
      obtain ⟨c, h1, h2⟩ := h.tk i x hx
      exact ⟨c, by rw [List.getElem?_append_left (by rw [h.cl]; exact h')]; exact h1, h2⟩
    · rw [List.getElem?_append_right h'] at hx
      have hi : i = s.tks.length := by
        rcases Nat.lt_or_ge (i - s.tks.length) 1 with h2 | h2
        · omega
        · rw [List.getElem?_eq_none (by simpa using h2)] at hx; cases hx
      subst hi
      rw [Nat.sub_self] at hx
      cases hx
      have l1 : (fixRow s).1.length = s.k := by simp [fixRow]
      have l2 : (fixRow s).2.length = s.k := by simp [fixRow]
      refine ⟨(.slice a s.k ca, .slice b s.k cb), by rw [List.getElem?_append_right (by rw [h.cl]; exact Nat.le_refl _), h.cl, Nat.sub_self]; rfl, a, ca, b, cb, by rw [l1, l2], by rw [l1]; exact ha, by rw [l2]; exact hb, fun _ _ => rfl, fun _ _ => rfl⟩
  acc := h.acc
  small := h.small
theorem RQ.one {w : World} {s : QS} {L : List On} {la ra ma : Option Addr} {lc rc mc : Nat} {cs : List (Value × Value)} (h : RQ w s L la lc ra rc ma mc cs) : (∀ u ∈ cs.flatMap fstV, u.oneCell' = true) ∧ ∀ u ∈ cs.flatMap sndV, u.oneCell' = true := by
  have key : ∀ c ∈ cs, ∃ a n m b n' m', c = (.slice a n m, .slice b n' m') := by
    intro c hc
    obtain ⟨i, hi⟩ := List.mem_iff_getElem?.1 hc
    have hil := (List.getElem?_eq_some_iff.1 hi).1
    rw [h.cl] at hil
    obtain ⟨c', h1, a, ca, b, cb, h2, _⟩ := h.tk i s.tks[i] (List.getElem?_eq_getElem hil)
    rw [hi] at h1
    cases h1
    exact ⟨a, _, ca, b, _, cb, h2⟩
  constructor <;>
  · intro u hu
    obtain ⟨c, hc, hu⟩ := List.mem_flatMap.1 hu
    obtain ⟨a, n, m, b, n', m', rfl⟩ := key c hc
    simp only [fstV, sndV, List.mem_singleton] at hu
    rw [hu]
    rfl
/-- the memory between two rounds of the reference's Advance -/
structure AdvM (G0 : Nat → Prop) (w wr : World) (top QB RB : Nat) (s : QS) (L : List On) (la : Option Addr) (lc : Nat) (ra : Option Addr) (rc : Nat) (ma : Option Addr) (mc : Nat) (cs : List (Value × Value)) : Prop where
  ref : RQ wr s L la lc ra rc ma mc cs
  qb : Box wr QB [.int .i64 s.k, .int .i64 s.wt, .slice la L.length lc, .slice ra s.tks.length rc, .slice ma s.tks.length mc]
  rb : Box wr RB [.int .i64 0, .int .i64 0, .slice none 0 0, .slice none 0 0, .slice none 0 0]
  cl : Cl (fun b => G0 b ∨ (w.heap.size + 2 ≤ b ∧ b < top)) la ra ma cs
  tp : top ≤ wr.heap.size
  q : Q w wr
section
variable {G0 : Nat → Prop} {w wr wx : World} {top QB RB : Nat} {s : QS} {L : List On} {la ra ma : Option Addr} {lc rc mc : Nat} {cs : List (Value × Value)}
theorem AdvM.q' (h : AdvM G0 w wr top QB RB s L la lc ra rc ma mc cs) (q : Q wr wx) : AdvM G0 w wx top QB RB s L la lc ra rc ma mc cs :=
  ⟨h.ref.q q, h.qb.q q, h.rb.q q, h.cl, Nat.le_trans h.tp q.size, h.q.trans q⟩
theorem AdvM.up (h : AdvM G0 w wr top QB RB s L la lc ra rc ma mc cs) : AdvM G0 w wr wr.heap.size QB RB s L la lc ra rc ma mc cs :=
  ⟨h.ref, h.qb, h.rb, h.cl.mono (fun b hb => hb.imp id (fun k => ⟨k.1, Nat.lt_of_lt_of_le k.2 h.tp⟩)), Nat.le_refl _, h.q⟩
theorem AdvM.qf' {F : Nat → Prop} (h : AdvM G0 w wr top QB RB s L la lc ra rc ma mc cs) (q : QF F wr wx) (hF : ∀ b, F b → top ≤ b) (hG : ∀ b, G0 b → b < w.heap.size) (ht : w.heap.size + 2 ≤ top) (hQ : QB < top) (hR : RB < top) : AdvM G0 w wx top QB RB s L la lc ra rc ma mc cs := by
  refine ⟨h.ref.qf q (h.cl.mono (fun b hb e => ?_)), h.qb.qf q (fun e => by have := hF _ e; omega), h.rb.qf q (fun e => by have := hF _ e; omega), h.cl, Nat.le_trans h.tp q.size, QF.q h.q q (fun b hb => by have := hF b hb; omega)⟩
  have h1 := hF b e
  rcases hb with hb | hb
  · have := hG b hb; omega
  · omega
end
def RAdv (G0 : Nat → Prop) (w : World) (L : List On) (la : Option Addr) (lc : Nat) (s' : QS) (e : Ending) (w' : World) : Prop :=
  ∃ ra rc ma mc cs, e = .returned (rqA s' L.length la lc ra rc ma mc) ∧ RQ w' s' L la lc ra rc ma mc cs ∧ Q w w' ∧ Cl (fun b => G0 b ∨ (w.heap.size ≤ b ∧ b < w'.heap.size)) la ra ma cs
/-- the rows of the round, up to player p -/
structure InnM (s : QS) (base p : Nat) (rv mv : Value) (wr : World) : Prop where
  row : wr.ownsRow base 34 3 rv p (inCells ((List.range p).map (fixI s)))
  mis : wr.ownsRow base 4 1 mv p (((List.range p).map (fixM s)).map Value.bool)
  ap : Apart rv mv
theorem InnM.q {s : QS} {base p : Nat} {rv mv : Value} {wr wx : World} (h : InnM s base p rv mv wr) (q : Q wr wx) : InnM s base p rv mv wx := ⟨own_q h.row q, own_q h.mis q, h.ap⟩
theorem fix_snoc {α : Type} (f : Nat → α) (p : Nat) : (List.range (p + 1)).map f = (List.range p).map f ++ [f p] := by rw [List.range_succ, List.map_append]; rfl
theorem inC_snoc (cs : List Int) (c : Int) : inCells (cs ++ [c]) = inCells cs ++ inC c := inCells_snoc cs c
/-- the inputs' row has grown, the other has not yet -/
structure InnH (s : QS) (base p : Nat) (rv mv : Value) (wr : World) : Prop where
  row : wr.ownsRow base 34 3 rv (p + 1) (inCells ((List.range (p + 1)).map (fixI s)))
  mis : wr.ownsRow base 4 1 mv p (((List.range p).map (fixM s)).map Value.bool)
  ap : Apart rv mv
theorem InnH.q {s : QS} {base p : Nat} {rv mv : Value} {wr wx : World} (h : InnH s base p rv mv wr) (q : Q wr wx) : InnH s base p rv mv wx := ⟨own_q h.row q, own_q h.mis q, h.ap⟩
theorem InnM.row1 {s : QS} {base p : Nat} {rv mv rv' : Value} {w w' : World} (h : InnM s base p rv mv w) (ho : w'.ownsRow base 34 3 rv' (p + 1) (inCells ((List.range p).map (fixI s)) ++ inC (fixI s p))) (q : QF (fun b => rv.ownBlock = some b) w w')
    (hk : ∀ k, rv'.ownBlock = some k → rv.ownBlock = some k ∨ w.heap.size ≤ k) : InnH s base p rv' mv w' := by
  refine ⟨?_, own_qf h.mis q (fun b h1 h2 => h.ap b h2 h1), apart_grown h.ap h.mis hk⟩
  rw [fix_snoc, inCells_snoc]
  exact ho
theorem InnH.mis1 {s : QS} {base p : Nat} {rv mv mv' : Value} {w w' : World} (h : InnH s base p rv mv w) (ho : w'.ownsRow base 4 1 mv' (p + 1) (((List.range p).map (fixM s)).map Value.bool ++ [.bool (fixM s p)])) (q : QF (fun b => mv.ownBlock = some b) w w')
    (hk : ∀ k, mv'.ownBlock = some k → mv.ownBlock = some k ∨ w.heap.size ≤ k) : InnM s base (p + 1) rv mv' w' := by
  refine ⟨own_qf h.row q (fun b h1 h2 => h.ap b h1 h2), ?_, (apart_grown h.ap.symm h.row hk).symm⟩
  rw [fix_snoc, List.map_append]
  exact ho
set_option maxRecDepth 100000 in
set_option maxHeartbeats 4000000 in
theorem rAdvance_any (G0 : Nat → Prop) (s : QS) (L : List On) (la : Option Addr) (lc : Nat) (ra : Option Addr) (rc : Nat) (ma : Option Addr) (mc : Nat) (cs : List (Value × Value)) (now : Int) (w : World) (hR : RQ w s L la lc ra rc ma mc cs) (ok : OkS s) (hn : -1000000 ≤ now ∧ now ≤ 1000000)
    (hG : ∀ b, G0 b → b < w.heap.size) (hC : Cl G0 la ra ma cs) :
    Calls Try.prog 13 #[rqA s L.length la lc ra rc ma mc, .int .i64 now] w (RAdv G0 w L la lc (advT s now)) := by
  obtain ⟨i0, hinf0, hx0, hx1, hx2⟩ := info_parts infoIn
  obtain ⟨i1, hinf1, hy0, hy1, hy2⟩ := info_parts infoBool
  obtain ⟨i2, hinf2, hz0, hz1, hz2⟩ := info_parts infoSlIn
  obtain ⟨i3, hinf3, hw0, hw1, hw2⟩ := info_parts infoSlB
  have HI0 := Lib.hid hinf0
  have HI1 := Lib.hid hinf1
  have HI2 := Lib.hid hinf2
  have HI3 := Lib.hid hinf3
  clear hinf0 hinf1 hinf2 hinf3
  have HG := Lib.hid hG
  have hsm := hR.small
  have b0 := Box.new w [.int .i64 s.k, .int .i64 s.wt, .slice la L.length lc, .slice ra s.tks.length rc, .slice ma s.tks.length mc] 30
  have b2 := Box.new (w.alloc (.cells #[.int .i64 s.k, .int .i64 s.wt, .slice la L.length lc, .slice ra s.tks.length rc, .slice ma s.tks.length mc] 30)) [.int .i64 0, .int .i64 0, .slice none 0 0, .slice none 0 0, .slice none 0 0] 30
  simp only [World.size_alloc] at b2
  have hq0 := ((Q.refl w).alloc (.cells #[.int .i64 s.k, .int .i64 s.wt, .slice la L.length lc, .slice ra s.tks.length rc, .slice ma s.tks.length mc] 30)).alloc (.cells #[.int .i64 0, .int .i64 0, .slice none 0 0, .slice none 0 0, .slice none 0 0] 30)
  have HM := Lib.hid (show AdvM G0 w _ 0 w.heap.size (w.heap.size + 1) s L la lc ra rc ma mc cs from ⟨hR.q hq0, b0.alloc (.cells #[.int .i64 0, .int .i64 0, .slice none 0 0, .slice none 0 0, .slice none 0 0] 30), b2, hC.mono (fun b hb => .inl hb), Nat.zero_le _, hq0⟩)
  have HOK := Lib.hid ok
  clear hR ok b0 b2 hq0 hG hC
  have HWS := Lib.hid (show ∃ h0, h0 = w.heap.size from ⟨_, rfl⟩)
  unfold rqA
  go_enter Try.func13, Try.ntmps13
  go_upto_region 1 with (fail)
  generalize (w.alloc (.cells #[.int .i64 s.k, .int .i64 s.wt, .slice la L.length lc, .slice ra s.tks.length rc, .slice ma s.tks.length mc] 30)).alloc (.cells #[.int .i64 0, .int .i64 0, .slice none 0 0, .slice none 0 0, .slice none 0 0] 30) = W0 at *
  generalize hRB : w.heap.size + 1 = RB at *
  generalize hQB : w.heap.size = QB at *
  have HRB := Lib.hid hRB
  have HQB := Lib.hid hQB
  have HG2 := Lib.hid (show ∀ b, G0 b → b < w.heap.size by rw [HQB.out]; exact HG.out)
  clear hRB hQB
  obtain ⟨l0, c00, c01, c02, c03, c04⟩ := Box.here5 HM.out.qb
  go_wp2_with (fail)
  clear l0 c00 c01 c02 c03 c04
  go_loopw [5] (fun iv wr => ∃ s2 ra2 rc2 ma2 mc2 cs2 top, iv = .int .i64 (s2.tks.length : Nat) ∧ OkS s2 ∧ s2.k = s.k ∧ s2.wt = s.wt ∧ advT s2 now = advT s now ∧ AdvM G0 w wr top QB RB s2 L la lc ra2 rc2 ma2 mc2 cs2) (fun iv _ => 6000 - (intOf iv).toNat)
  case atStart => exact ⟨s, ra, rc, ma, mc, cs, 0, rfl, HOK.out, rfl, rfl, rfl, HM.out⟩
  case round =>
    obtain ⟨s2, ra2, rc2, ma2, mc2, cs2, top, rfl, hok2, hk2, hwt2, hadv, hm⟩ := hrel
    have HO2 := Lib.hid hok2
    have HK2 := Lib.hid hk2
    have HT2 := Lib.hid hwt2
    have HAD := Lib.hid hadv
    have HM2 := Lib.hid hm
    have hn6 := hok2.n6000
    have hk8 := hok2.k8
    have hw8 := hok2.wt8
    obtain ⟨l0, c00, c01, c02, c03, c04⟩ := Box.here5 hm.qb
    clear hok2 hk2 hwt2 hadv hm HM
    go_upto_region 2 with (fail)
    go_cut [28] (fun s28 wx => s28 = .bool (decide (s2.tks.length < 6000) && due s2 now) ∧ Q wr wx)
    case first =>
      by_cases h6 : s2.tks.length < 6000
      · have h6i : (s2.tks.length : Int) < 6000 := by omega
        have HD6 := Lib.hid (show decide (s2.tks.length < 6000) = true from decide_eq_true h6)
        by_cases hnow : (s2.tks.length : Int) + s2.wt ≤ now
        · have HD := Lib.hid (show due s2 now = true by unfold due; rw [decide_eq_true hnow, Bool.or_true])
          go_wp2_with (fail)
          go_meet
          rw [HD6.out, HD.out]
          exact ⟨rfl, Q.refl _⟩
        · have HD := Lib.hid (show due s2 now = complA s2 (s2.tks.length : Nat) by unfold due; rw [decide_eq_false hnow, Bool.or_false]; rfl)
          go_wp2_with (fail)
          refine (rComplete_any s2 L la lc ra2 rc2 ma2 mc2 cs2 (s2.tks.length : Nat) wr HM2.out.ref (by omega)).mono ?_
          rintro e w1 ⟨rfl, hq1⟩
          have HQ1 := Lib.hid hq1
          clear hq1
          go_wp2_with (fail)
          go_meet
          rw [HD6.out, HD.out]
          exact ⟨rfl, HQ1.out⟩
      · have h6i : ¬ (s2.tks.length : Int) < 6000 := by omega
        have HD6 := Lib.hid (show decide (s2.tks.length < 6000) = false from decide_eq_false h6)
        go_wp2_with (fail)
        go_meet
        rw [HD6.out]
        exact ⟨rfl, Q.refl _⟩
    case rest =>
      obtain ⟨rfl, hqc⟩ := hcut
      have HM3 := Lib.hid (HM2.out.q' hqc)
      clear hqc l0 c00 c01 c02 c03 c04 HM2
      cases hb : (decide (s2.tks.length < 6000) && due s2 now) with
      | false =>
        have HEN := Lib.hid (show advT s now = s2 by
          rw [← HAD.out]
          cases hd : due s2 now with
          | false => exact advT_not hd
          | true =>
            rw [hd, Bool.and_true] at hb
            exact advT_end (by have := of_decide_eq_false hb; omega))
        clear hb
        obtain ⟨l0, c00, c01, c02, c03, c04⟩ := Box.here5 HM3.out.qb
        obtain ⟨l2, z0, z1, z2, z3, z4⟩ := Box.here5 HM3.out.rb
        obtain ⟨fz0, fz1, fz2, fz3, fz4⟩ := Box.free5 HM3.out.rb
        have HQs := Lib.hid (HM3.out.q.store5 (B := RB) (by rw [HQB.out, ← HRB.out]; omega) (.int .i64 s2.k) (.int .i64 s2.wt) (.slice la L.length lc) (.slice ra2 s2.tks.length rc2) (.slice ma2 s2.tks.length mc2))
        have HBs := Lib.hid (HM3.out.rb.store5 (a' := .int .i64 s2.k) (b' := .int .i64 s2.wt) (c' := .slice la L.length lc) (d' := .slice ra2 s2.tks.length rc2) (e' := .slice ma2 s2.tks.length mc2))
        have HFs := Lib.hid (show QF (· = RB) wc (((((wc.setCell ⟨RB, 0, none⟩ (.int .i64 s2.k)).setCell ⟨RB, 1, none⟩ (.int .i64 s2.wt)).setCell ⟨RB, 2, none⟩ (.slice la L.length lc)).setCell ⟨RB, 3, none⟩ (.slice ra2 s2.tks.length rc2)).setCell ⟨RB, 4, none⟩ (.slice ma2 s2.tks.length mc2)) from
          ((((QF.set (F := (· = RB)) wc RB 0 _ rfl).setNew RB 1 _ (.inl rfl)).setNew RB 2 _ (.inl rfl)).setNew RB 3 _ (.inl rfl)).setNew RB 4 _ (.inl rfl))
        go_wp2
        generalize (((((wc.setCell ⟨RB, 0, none⟩ (.int .i64 s2.k)).setCell ⟨RB, 1, none⟩ (.int .i64 s2.wt)).setCell ⟨RB, 2, none⟩ (.slice la L.length lc)).setCell ⟨RB, 3, none⟩ (.slice ra2 s2.tks.length rc2)).setCell ⟨RB, 4, none⟩ (.slice ma2 s2.tks.length mc2)) = W at *
        obtain ⟨_, y0, y1, y2, y3, y4⟩ := Box.here5 HBs.out
        clear z0 z1 z2 z3 z4 fz0 fz1 fz2 fz3 fz4 c00 c01 c02 c03 c04
        refine bodyPost_ret (v := rqA s2 L.length la lc ra2 rc2 ma2 mc2) (by simp [results, Try.results13, go_sem, rqA, y0, y1, y2, y3, y4]) rfl ?_
        rw [HEN.out]
        have hq := HQB.out
        have hr := HRB.out
        refine ⟨ra2, rc2, ma2, mc2, cs2, rfl, HM3.out.ref.qf HFs.out (HM3.out.cl.mono (fun b hb e => ?_)), HQs.out, HM3.out.cl.mono (fun b hb => hb.imp id (fun h => ⟨by omega, by have h1 := HM3.out.tp; have h2 := HFs.out.size; omega⟩))⟩
        rcases hb with hb | hb
        · have := HG.out b hb; omega
        · omega
      | true =>
        simp only [Bool.and_eq_true, decide_eq_true_eq] at hb
        have h6 := hb.1
        have HDU := Lib.hid hb.2
        clear hb
        obtain ⟨l0, c00, c01, c02, c03, c04⟩ := Box.here5 HM3.out.qb
        go_wp2_with (fail)
        have HIN := Lib.hid (show InnM s2 wc.heap.size 0 (.slice none 0 0) (.slice none 0 0) wc from ⟨World.ownsRow_nil _ _ _ _, World.ownsRow_nil _ _ _ _, (fun k h => by cases h)⟩)
        clear l0 c00 c01 c02 c03 c04
        have HW3 := Lib.hid (show w.heap.size + 2 ≤ wc.heap.size from by have := HM3.out.rb.1; have := HRB.out; have := HQB.out; omega)
        have HM4 := Lib.hid HM3.out.up
        clear HM3
        generalize hwb : wc.heap.size = base at *
        have HWB := Lib.hid hwb
        clear hwb
        have HQT := Lib.hid (show QB < base ∧ RB < base from ⟨by have := HW3.out; have := HQB.out; omega, by have := HW3.out; have := HQB.out; have := HRB.out; omega⟩)
        go_loopw [6, 7, 8] (fun rv mv pv wr => ∃ p : Nat, p ≤ s2.k ∧ pv = .int .i64 p ∧ InnM s2 base p rv mv wr ∧ AdvM G0 w wr base QB RB s2 L la lc ra2 rc2 ma2 mc2 cs2) (fun _ _ pv _ => s2.k - (intOf pv).toNat)
        case atStart => exact ⟨0, by omega, rfl, HIN.out, HM4.out⟩
        case round =>
          obtain ⟨p, hp, rfl, hin, hm⟩ := hrel
          have HI := Lib.hid hin
          have HM := Lib.hid hm
          obtain ⟨l0, c00, c01, c02, c03, c04⟩ := Box.here5 hm.qb
          clear hin hm HM4 HIN HWB
          by_cases hpk : p < s2.k
          · have hpi : (p : Int) < (s2.k : Int) := by omega
            have HAC := Lib.hid (HM.out.ref.acc (s2.tks.length : Nat) p)
            go_wp2_with (fail)
            refine (rFind_any _ _ la lc _ _ L p (s2.tks.length : Nat) wr HM.out.ref.sl hsm).mono ?_
            cases hf : L.find? (isOn p (s2.tks.length : Nat)) with
            | some o =>
              obtain ⟨i, hi1, hi2⟩ := findZ_some hf
              rw [hi1]
              rw [hf] at HAC
              have HFI := Lib.hid (show fixI s2 p = o.c by unfold fixI; rw [HAC.out]; rfl)
              have HFM := Lib.hid (show fixM s2 p = false by unfold fixM; rw [HAC.out]; rfl)
              have hil := (List.getElem?_eq_some_iff.1 hi2).1
              rintro e w1 ⟨rfl, hq1⟩
              have HN1 := Lib.hid (HI.out.q hq1)
              have HM1 := Lib.hid (HM.out.q' hq1)
              clear hq1 hf hi1 l0 c00 c01 c02 c03 c04
              obtain ⟨l0, c00, c01, c02, c03, c04⟩ := Box.here5 HM1.out.qb
              obtain ⟨gl, ol, rfl, hgl, hcl⟩ := HM1.out.ref.sl.onAt i hil
              have hge : L[i] = o := (List.getElem?_eq_some_iff.1 hi2).2
              rw [hge] at hcl
              have d2 : w1.cell? ⟨gl, ol + i * 5 + 2, none⟩ = some (.int .i64 (o.c % 3 - 1)) := hcl 2 _ rfl
              have d3 : w1.cell? ⟨gl, ol + i * 5 + 3, none⟩ = some (.int .i64 (o.c / 3 % 3 - 1)) := hcl 3 _ rfl
              have d4 : w1.cell? ⟨gl, ol + i * 5 + 4, none⟩ = some (.int .i64 (o.c / 9)) := hcl 4 _ rfl
              have hii : (i : Int) < (L.length : Int) := by omega
              have hi0 : (0 : Int) ≤ (i : Int) := by omega
              clear hcl hge hi2
              generalize o.c = oc at *
              have HB1 := Lib.hid HM1.out.tp
              go_wp2_with (at_builtin; refine stopAt ?_)
              refine goOn ?_
              refine append_one_f rfl _ _ 49 rfl base 34 i0 _ 3 24 Try.underlying49 HI0.out hx0 hx1 hx2 rfl (by decide) _ _ _ rfl HN1.out.row _ rfl [.int .i64 (oc % 3 - 1), .int .i64 (oc / 3 % 3 - 1), .int .i64 (oc / 9)] rfl rfl (by simp [Value.oneCell']) (by omega) (by decide) HB1.out ?_
              intro g6 cap6 w6 hown6 hqf6 hk6
              have HN6 := Lib.hid (HN1.out.row1 (by rw [HFI.out]; exact hown6) hqf6 hk6)
              have HM6 := Lib.hid (HM1.out.qf' hqf6 (fun b hb => (HN1.out.row.lt b hb).1) HG2.out HW3.out HQT.out.1 HQT.out.2)
              clear hown6 hqf6 hk6 HB1 HM1 HN1 l0 c00 c01 c02 c03 c04 d2 d3 d4 HI HM
              have HB6 := Lib.hid HM6.out.tp
              go_wp2_with (at_builtin; refine stopAt ?_)
              refine goOn ?_
              refine append_one_f rfl _ _ 50 rfl base 4 i1 _ 1 1 Try.underlying50 HI1.out hy0 hy1 hy2 rfl (by decide) _ _ _ rfl HN6.out.mis _ rfl [.bool false] rfl rfl (by simp [Value.oneCell']) (by omega) (by decide) HB6.out ?_
              intro g7 cap7 w7 hown7 hqf7 hk7
              have HN7 := Lib.hid (HN6.out.mis1 (by rw [HFM.out]; exact hown7) hqf7 hk7)
              have HM7 := Lib.hid (HM6.out.qf' hqf7 (fun b hb => (HN6.out.mis.lt b hb).1) HG2.out HW3.out HQT.out.1 HQT.out.2)
              clear hown7 hqf7 hk7 HB6 HM6 HN6
              go_wp2_with (fail)
              go_roundw
              case rel => exact ⟨p + 1, by omega, by go_num, HN7.out, HM7.out⟩
              case measure => simp [intOf]; omega
            | none =>
              rw [findZ_none hf]
              rw [hf] at HAC
              have HFI := Lib.hid (show fixI s2 p = prevC s2 p % 9 by unfold fixI; rw [HAC.out]; rfl)
              have HFM := Lib.hid (show fixM s2 p = true by unfold fixM; rw [HAC.out]; rfl)
              have HPV := Lib.hid (ok_prev HO2.out p)
              rintro e w1 ⟨rfl, hq1⟩
              have HN1 := Lib.hid (HI.out.q hq1)
              have HM1 := Lib.hid (HM.out.q' hq1)
              clear hq1 hf l0 c00 c01 c02 c03 c04
              go_upto_if 57 with (fail)
              have hqa : Q w1 (w1.alloc (.cells #[.int .i64 0, .int .i64 0, .int .i64 0] 34)) := (Q.refl w1).alloc _
              have HX2 := Lib.hid (Box.new w1 [.int .i64 0, .int .i64 0, .int .i64 0] 34)
              have HN2 := Lib.hid (HN1.out.q hqa)
              have HM2' := Lib.hid (HM1.out.q' hqa)
              have HLB := Lib.hid (show base ≤ w1.heap.size ∧ (∀ b, u6.ownBlock = some b → b ≠ w1.heap.size) ∧ ∀ b, u7.ownBlock = some b → b ≠ w1.heap.size from
                ⟨HM1.out.tp, fun b hb e => by have := (HN1.out.row.lt b hb).2; omega, fun b hb e => by have := (HN1.out.mis.lt b hb).2; omega⟩)
              clear hqa HN1 HM1 HI HM
              generalize w1.alloc (.cells #[.int .i64 0, .int .i64 0, .int .i64 0] 34) = w2 at *
              generalize w1.heap.size = LB at *
              go_cut [] (fun wx => InnM s2 base p u6 u7 wx ∧ AdvM G0 w wx base QB RB s2 L la lc ra2 rc2 ma2 mc2 cs2 ∧ Box wx LB (inC (prevC s2 p)))
              case first =>
                rcases Nat.eq_zero_or_pos s2.tks.length with ht | ht
                · have hpc : prevC s2 p = 4 := by
                    unfold prevC
                    rw [List.eq_nil_of_length_eq_zero ht]
                    rfl
                  have HPC := Lib.hid hpc
                  have hnt : ¬ (0 : Int) < ((s2.tks.length : Nat) : Int) := by omega
                  clear hpc ht
                  go_wp2_with (fail)
                  go_meet
                  rw [HPC.out]
                  exact ⟨HN2.out, HM2'.out, HX2.out⟩
                · obtain ⟨tn, hte⟩ : ∃ tn, s2.tks.length = tn + 1 := ⟨s2.tks.length - 1, by omega⟩
                  obtain ⟨x, hx1, hx2⟩ := getLast_at s2.tks tn hte
                  obtain ⟨c, hc1, a, ca, b, cb, rfl, hsa, _, _, _⟩ := HM2'.out.ref.tk tn x hx1
                  have hxl := HO2.out.tk1 x (List.mem_of_getElem? hx1)
                  have hpx : p < x.1.length := by rw [hxl.1]; exact hpk
                  have hpv := prevC_at s2 HO2.out p hpk x hx2
                  have hxp : x.1[p] = prevC s2 p := by
                    rw [List.getElem?_eq_getElem hpx] at hpv
                    exact Option.some.inj hpv
                  obtain ⟨gr, or, hra, hgr, hcr⟩ := HM2'.out.ref.rows.pos (by omega)
                  obtain ⟨hcl, hce⟩ := List.getElem?_eq_some_iff.1 hc1
                  have r1 : w2.cell? ⟨gr, or + tn, none⟩ = some (.slice a x.1.length ca) := hcr tn _ (by
                    have := flatG fstV 1 (fun _ => rfl) cs2 tn 0 hcl (by decide)
                    rw [Nat.mul_one, Nat.add_zero, hce] at this
                    exact this)
                  obtain ⟨ga, oa, hae, hga, hca⟩ := hsa.pos (by omega)
                  obtain ⟨e0, e1, e2⟩ := inCells_get x.1 p hpx
                  rw [hxp] at e0 e1 e2
                  have a0 : w2.cell? ⟨ga, oa + p * 3, none⟩ = some _ := hca _ _ e0
                  have a1 : w2.cell? ⟨ga, oa + p * 3 + 1, none⟩ = some _ := hca _ _ e1
                  have a2 : w2.cell? ⟨ga, oa + p * 3 + 2, none⟩ = some _ := hca _ _ e2
                  have hsub : ((s2.tks.length : Nat) : Int) - 1 = (tn : Int) := by omega
                  have hnt : (0 : Int) < ((s2.tks.length : Nat) : Int) := by omega
                  have htl : (tn : Int) < ((s2.tks.length : Nat) : Int) := by omega
                  have hpxi : (p : Int) < (x.1.length : Int) := by omega
                  subst hra
                  subst hae
                  obtain ⟨hxl2, x0, x1, x2⟩ := Box.here3 HX2.out
                  have f0 := (HX2.out.2 0 _ rfl).2
                  have f1 := (HX2.out.2 1 _ rfl).2
                  have f2 := (HX2.out.2 2 _ rfl).2
                  obtain ⟨l0, c00, c01, c02, c03, c04⟩ := Box.here5 HM2'.out.qb
                  clear hte ht hx1 hx2 hc1 hsa hxl hpx hpv hxp hcr hcl hce hca e0 e1 e2
                  generalize prevC s2 p = pv at *
                  go_wp2_with (fail)
                  go_meet
                  have hst : QF (· = LB) w2 (((w2.setCell ⟨LB, 0, none⟩ (.int .i64 (pv % 3 - 1))).setCell ⟨LB, 1, none⟩ (.int .i64 (pv / 3 % 3 - 1))).setCell ⟨LB, 2, none⟩ (.int .i64 (pv / 9))) :=
                    ((QF.set (F := (· = LB)) w2 LB 0 _ rfl).setNew LB 1 _ (.inl rfl)).setNew LB 2 _ (.inl rfl)
                  obtain ⟨b1, b2, b3⟩ := HLB.out
                  exact ⟨⟨own_qf HN2.out.row hst (fun b hb => b2 b hb), own_qf HN2.out.mis hst (fun b hb => b3 b hb), HN2.out.ap⟩, HM2'.out.qf' hst (fun b hb => by omega) HG2.out HW3.out HQT.out.1 HQT.out.2,
                    Box.set (Box.set (Box.set HX2.out 0 _ (show 0 < 3 by decide)) 1 _ (show 1 < 3 by decide)) 2 _ (show 2 < 3 by decide)⟩
              case rest =>
                obtain ⟨hn3, hm3, hx3⟩ := hcut
                have HN3 := Lib.hid hn3
                have HM3 := Lib.hid hm3
                obtain ⟨hxl, x0, x1, x2⟩ := Box.here3 hx3
                clear hn3 hm3 hx3 HX2 HN2 HM2'
                have HPE := Lib.hid (show inC (prevC s2 p % 9) = [.int .i64 (prevC s2 p % 3 - 1), .int .i64 (prevC s2 p / 3 % 3 - 1), .int .i64 0] by
                  have h := HPV.out
                  unfold inC
                  rw [show prevC s2 p % 9 % 3 = prevC s2 p % 3 by omega, show prevC s2 p % 9 / 3 % 3 = prevC s2 p / 3 % 3 by omega, show prevC s2 p % 9 / 9 = 0 by omega])
                go_wp2_with (fail)
                refine (rPredict_any _ _ _ _).mono ?_
                rintro e w4 ⟨rfl, hq4⟩
                have HN4 := Lib.hid (HN3.out.q hq4)
                have HM4 := Lib.hid (HM3.out.q' hq4)
                have HB4 := Lib.hid HM4.out.tp
                clear hq4 HN3 HM3 hxl x0 x1 x2
                go_wp2_with (at_builtin; refine stopAt ?_)
                refine goOn ?_
                refine append_one_f rfl _ _ 49 rfl base 34 i0 _ 3 24 Try.underlying49 HI0.out hx0 hx1 hx2 rfl (by decide) _ _ _ rfl HN4.out.row _ rfl [.int .i64 (prevC s2 p % 3 - 1), .int .i64 (prevC s2 p / 3 % 3 - 1), .int .i64 0] rfl rfl (by simp [Value.oneCell']) (by omega) (by decide) HB4.out ?_
                intro g6 cap6 w6 hown6 hqf6 hk6
                have HN6 := Lib.hid (HN4.out.row1 (by rw [HFI.out, HPE.out]; exact hown6) hqf6 hk6)
                have HM6 := Lib.hid (HM4.out.qf' hqf6 (fun b hb => (HN4.out.row.lt b hb).1) HG2.out HW3.out HQT.out.1 HQT.out.2)
                clear hown6 hqf6 hk6 HB4 HM4 HN4
                have HB6 := Lib.hid HM6.out.tp
                go_wp2_with (at_builtin; refine stopAt ?_)
                refine goOn ?_
                refine append_one_f rfl _ _ 50 rfl base 4 i1 _ 1 1 Try.underlying50 HI1.out hy0 hy1 hy2 rfl (by decide) _ _ _ rfl HN6.out.mis _ rfl [.bool true] rfl rfl (by simp [Value.oneCell']) (by omega) (by decide) HB6.out ?_
                intro g7 cap7 w7 hown7 hqf7 hk7
                have HN7 := Lib.hid (HN6.out.mis1 (by rw [HFM.out]; exact hown7) hqf7 hk7)
                have HM7 := Lib.hid (HM6.out.qf' hqf7 (fun b hb => (HN6.out.mis.lt b hb).1) HG2.out HW3.out HQT.out.1 HQT.out.2)
                clear hown7 hqf7 hk7 HB6 HM6 HN6
                go_wp2_with (fail)
                go_roundw
                case rel => exact ⟨p + 1, by omega, by go_num, HN7.out, HM7.out⟩
                case measure => simp [intOf]; omega
          · have hpe : p = s2.k := by omega
            have hkk : ¬ (p : Int) < (s2.k : Int) := by omega
            obtain ⟨ra', rca, hra⟩ := ret_shape HI.out.row
            obtain ⟨ma', mca, hma⟩ := ret_shape HI.out.mis
            subst hra
            subst hma
            have HRA := Lib.hid (show Sl wr 3 ra' s2.k rca (inCells (fixRow s2).1) by have h := Sl.of_own HI.out.row; rw [hpe] at h; exact h)
            have HMA := Lib.hid (show Sl wr 1 ma' s2.k mca ((fixRow s2).2.map Value.bool) by have h := Sl.of_own HI.out.mis; rw [hpe] at h; exact h)
            have HAB := Lib.hid (show (∀ g, ra' = some g → base ≤ g.block ∧ g.block < wr.heap.size) ∧ ∀ g, ma' = some g → base ≤ g.block ∧ g.block < wr.heap.size from
              ⟨fun g hg => HI.out.row.lt g.block (by rw [hg]; rfl), fun g hg => HI.out.mis.lt g.block (by rw [hg]; rfl)⟩)
            have HPE := Lib.hid hpe
            have HQL := Lib.hid (show QB < wr.heap.size from l0)
            clear hpe HI
            go_wp2_with (at_builtin; refine stopAt ?_)
            refine goOn ?_
            refine wpList_append_sl rfl _ _ 27 rfl wr.heap.size 49 i2 _ 1 24 Try.underlying27 HI2.out hz0 hz1 hz2 rfl (by decide) _ 0 [] rfl (World.ownsRow_made wr #[] 0 (Nat.le_refl _) (by decide) rfl) ra2 s2.tks.length rc2 _ rfl (HM.out.ref.rows.q ((Q.refl wr).alloc _)) HM.out.ref.one.1 (by omega) (by decide) (by simp) ?_
            intro a5 cap5 w5 hown5 hg5 _
            rw [Nat.zero_add] at hown5 ⊢
            have HO5 := Lib.hid (show w5.ownsRow wr.heap.size 49 1 (.slice a5 s2.tks.length cap5) s2.tks.length (cs2.flatMap fstV) from hown5)
            have HQ5 := Lib.hid (((Q.refl wr).alloc (.cells #[] 49)).grown hg5 (fun k hk => by cases hk; exact Nat.le_refl _))
            have HB5 := Lib.hid HQ5.out.size
            clear hown5 hg5 hkk l0 c00 c01 c02 c03 c04
            go_wp2_with (at_builtin; refine stopAt ?_)
            refine goOn ?_
            refine append_one_f rfl _ _ 27 rfl wr.heap.size 49 i2 _ 1 24 Try.underlying27 HI2.out hz0 hz1 hz2 rfl (by decide) _ _ _ rfl HO5.out _ rfl [.slice ra' p rca] rfl rfl (by simp [Value.oneCell']) (by omega) (by decide) HB5.out ?_
            intro g6 cap6 w6 hown6 hqf6 _
            have HO6 := Lib.hid hown6
            have HQ6 := Lib.hid (show Q wr w6 from QF.q HQ5.out hqf6 (fun b hb => (HO5.out.lt b hb).1))
            clear hown6 hqf6 HB5 HQ5 HO5
            have HB6 := Lib.hid (HM.out.qb.q HQ6.out)
            obtain ⟨l0, c00, c01, c02, c03, c04⟩ := Box.here5 HB6.out
            obtain ⟨f0, f1, f2, f3, f4⟩ := Box.free5 HB6.out
            go_upto_region 19 with (fail)
            have hst7 : QF (· = QB) w6 (w6.setCell ⟨QB, 3, none⟩ (.slice (some ⟨g6, 0, none⟩) (s2.tks.length + 1) cap6)) := QF.set (F := (· = QB)) w6 QB 3 _ rfl
            have HB7 := Lib.hid (show Box (w6.setCell ⟨QB, 3, none⟩ (.slice (some ⟨g6, 0, none⟩) (s2.tks.length + 1) cap6)) QB [.int .i64 s2.k, .int .i64 s2.wt, .slice la L.length lc, .slice (some ⟨g6, 0, none⟩) (s2.tks.length + 1) cap6, .slice ma2 s2.tks.length mc2] from Box.set HB6.out 3 _ (show 3 < 5 by decide))
            have HF7 := Lib.hid ((QF.of (F := (· = QB)) HQ6.out).trans hst7 (fun b hb => .inl hb))
            have HCQ := Lib.hid (show Cl (fun b => ¬ b = QB) la ra2 ma2 cs2 from HM.out.cl.mono (fun b hb e => by
              rcases hb with hb | hb
              · have := HG.out b hb; omega
              · have := HQB.out; omega))
            have HR7 := Lib.hid (HM.out.ref.qf HF7.out HCQ.out)
            have HS7 := Lib.hid ((Sl.of_own HO6.out).qf hst7 (fun x hx => by cases hx; have h1 := (HO6.out.lt g6 rfl).1; have h2 := HQL.out; show ¬ g6 = QB; omega))
            have HS67 := Lib.hid hst7.size
            have HG6 := Lib.hid (show wr.heap.size ≤ g6 ∧ g6 < w6.heap.size from HO6.out.lt g6 rfl)
            clear hst7 l0 c00 c01 c02 c03 c04 f0 f1 f2 f3 f4 HB6 HQ6 HO6
            generalize w6.setCell ⟨QB, 3, none⟩ (.slice (some ⟨g6, 0, none⟩) (s2.tks.length + 1) cap6) = w7 at *
            obtain ⟨l0, c00, c01, c02, c03, c04⟩ := Box.here5 HB7.out
            go_wp2_with (at_builtin; refine stopAt ?_)
            refine goOn ?_
            refine wpList_append_sl rfl _ _ 28 rfl w7.heap.size 50 i3 _ 1 24 Try.underlying28 HI3.out hw0 hw1 hw2 rfl (by decide) _ 0 [] rfl (World.ownsRow_made w7 #[] 0 (Nat.le_refl _) (by decide) rfl) ma2 s2.tks.length mc2 _ rfl (HR7.out.miss.q ((Q.refl w7).alloc _)) HR7.out.one.2 (by omega) (by decide) (by simp) ?_
            intro a8 cap8 w8 hown8 hg8 _
            rw [Nat.zero_add] at hown8 ⊢
            have HO8 := Lib.hid (show w8.ownsRow w7.heap.size 50 1 (.slice a8 s2.tks.length cap8) s2.tks.length (cs2.flatMap sndV) from hown8)
            have HQ8 := Lib.hid (((Q.refl w7).alloc (.cells #[] 50)).grown hg8 (fun k hk => by cases hk; exact Nat.le_refl _))
            have HB8 := Lib.hid HQ8.out.size
            clear hown8 hg8 l0 c00 c01 c02 c03 c04
            go_wp2_with (at_builtin; refine stopAt ?_)
            refine goOn ?_
            refine append_one_f rfl _ _ 28 rfl w7.heap.size 50 i3 _ 1 24 Try.underlying28 HI3.out hw0 hw1 hw2 rfl (by decide) _ _ _ rfl HO8.out _ rfl [.slice ma' p mca] rfl rfl (by simp [Value.oneCell']) (by omega) (by decide) HB8.out ?_
            intro g9 cap9 w9 hown9 hqf9 _
            have HO9 := Lib.hid hown9
            have HQ9 := Lib.hid (show Q w7 w9 from QF.q HQ8.out hqf9 (fun b hb => (HO8.out.lt b hb).1))
            clear hown9 hqf9 HB8 HQ8 HO8
            have HB9 := Lib.hid (HB7.out.q HQ9.out)
            obtain ⟨l0, c00, c01, c02, c03, c04⟩ := Box.here5 HB9.out
            obtain ⟨f0, f1, f2, f3, f4⟩ := Box.free5 HB9.out
            go_upto_region 3 with (fail)
            have hstA : QF (· = QB) w9 (w9.setCell ⟨QB, 4, none⟩ (.slice (some ⟨g9, 0, none⟩) (s2.tks.length + 1) cap9)) := QF.set (F := (· = QB)) w9 QB 4 _ rfl
            have HFA := Lib.hid ((HF7.out.trans (QF.of (F := fun _ => False) HQ9.out) (fun _ h => h.elim)).trans hstA (fun b hb => .inl hb))
            have HBA := Lib.hid (show Box (w9.setCell ⟨QB, 4, none⟩ (.slice (some ⟨g9, 0, none⟩) (s2.tks.length + 1) cap9)) QB [.int .i64 s2.k, .int .i64 s2.wt, .slice la L.length lc, .slice (some ⟨g6, 0, none⟩) (s2.tks.length + 1) cap6, .slice (some ⟨g9, 0, none⟩) (s2.tks.length + 1) cap9] from Box.set HB9.out 4 _ (show 4 < 5 by decide))
            have HRA' := Lib.hid (HM.out.ref.qf HFA.out HCQ.out)
            have HSA := Lib.hid ((HS7.out.q HQ9.out).qf hstA (fun x hx => by cases hx; have h1 := HG6.out.1; have h2 := HQL.out; show ¬ g6 = QB; omega))
            have HTA := Lib.hid ((Sl.of_own HO9.out).qf hstA (fun x hx => by cases hx; have h1 := (HO9.out.lt g9 rfl).1; have h2 := HB7.out.1; show ¬ g9 = QB; omega))
            have HG9 := Lib.hid (show w7.heap.size ≤ g9 ∧ g9 < w9.heap.size from HO9.out.lt g9 rfl)
            have HS79 := Lib.hid (show w6.heap.size ≤ w7.heap.size ∧ wr.heap.size ≤ w7.heap.size ∧ w7.heap.size ≤ w9.heap.size from ⟨HS67.out, HF7.out.size, HQ9.out.size⟩)
            have HSZ := Lib.hid (show w9.heap.size ≤ (w9.setCell ⟨QB, 4, none⟩ (.slice (some ⟨g9, 0, none⟩) (s2.tks.length + 1) cap9)).heap.size from hstA.size)
            clear hstA l0 c00 c01 c02 c03 c04 f0 f1 f2 f3 f4 HB9 HQ9 HO9 HS7 HR7 HF7 HB7
            generalize w9.setCell ⟨QB, 4, none⟩ (.slice (some ⟨g9, 0, none⟩) (s2.tks.length + 1) cap9) = wA at *
            have hpk2 := HPE.out
            have HRX := Lib.hid (HRA.out.qf HFA.out (fun x hx => by have h1 := (HAB.out.1 x hx).1; have h2 := HQT.out.1; show ¬ x.block = QB; omega))
            have HMX := Lib.hid (HMA.out.qf HFA.out (fun x hx => by have h1 := (HAB.out.2 x hx).1; have h2 := HQT.out.1; show ¬ x.block = QB; omega))
            have HNEW : Hid (AdvM G0 w wA wA.heap.size QB RB (fixT s2) L la lc (some ⟨g6, 0, none⟩) cap6 (some ⟨g9, 0, none⟩) cap9 (cs2 ++ [(.slice ra' s2.k rca, .slice ma' s2.k mca)])) := by
              have hlen : (fixT s2).tks.length = s2.tks.length + 1 := by show (s2.tks ++ [fixRow s2]).length = _; rw [List.length_append]; rfl
              have hs := HSA.out
              have ht := HTA.out
              rw [hpk2] at hs ht
              have h1 := HSZ.out
              have h2 := HS79.out
              have h3 := HG6.out
              have h4 := HG9.out
              have h5 := HW3.out
              have h6' := HM.out.tp
              refine Lib.hid ⟨HRA'.out.push hs ht HRX.out HMX.out, by rw [hlen]; exact HBA.out, HM.out.rb.qf HFA.out (by have := HQB.out; have := HRB.out; omega), ⟨fun x hx => ?_, fun c hc x n' m' hx => ?_⟩, Nat.le_refl _, QF.q HM.out.q HFA.out (fun b hb => by have := HQB.out; omega)⟩
              · rcases hx with hx | hx | hx
                · exact (HM.out.cl.1 x (.inl hx)).imp id (fun k => ⟨k.1, by omega⟩)
                · cases hx; exact .inr ⟨by show w.heap.size + 2 ≤ g6; omega, by show g6 < _; omega⟩
                · cases hx; exact .inr ⟨by show w.heap.size + 2 ≤ g9; omega, by show g9 < _; omega⟩
              · rcases List.mem_append.1 hc with hc | hc
                · exact (HM.out.cl.2 c hc x n' m' hx).imp id (fun k => ⟨k.1, by omega⟩)
                · rw [List.mem_singleton.1 hc] at hx
                  rcases hx with hx | hx
                  · cases hx
                    have := HAB.out.1 x rfl
                    exact .inr ⟨by omega, by omega⟩
                  · cases hx
                    have := HAB.out.2 x rfl
                    exact .inr ⟨by omega, by omega⟩
            clear hpk2
            go_wp2_with (fail)
            go_roundw
            case rel => exact ⟨fixT s2, _, _, _, _, _, _, by show Value.int .i64 ((s2.tks.length : Int) + 1) = .int .i64 ((s2.tks ++ [fixRow s2]).length : Nat); rw [List.length_append]; rfl, ok_fix HO2.out h6, HK2.out, HT2.out, by rw [← HAD.out, advT_due h6 HDU.out], HNEW.out⟩
            case measure => simp [intOf]; omega
end Go.Proofs.Ytpoffkkkkieniaa
