/- Contract: the law's same: a fixed tick is as the reference says. -/
import Derived.Test.YtpoffkkkkieniaaQV
import Derived.Test.YtpoffkkkkieniaaEqual
namespace Go.Proofs.Ytpoffkkkkieniaa
open Go Go.RowKit Go.BigFrame

theorem eqB_self (xs : List Int) : eqB xs xs = true := by simp [eqB]
/-- where the reference's slices of tick i lie -/
theorem RQ.tick {w : World} {s : QS} {L : List On} {la ra ma : Option Addr} {lc rc mc : Nat} {cs : List (Value × Value)} (h : RQ w s L la lc ra rc ma mc cs) (i : Nat) (x : List Int × List Bool) (hx : s.tks[i]? = some x) :
    ∃ gr or gm om a ca b cb, ra = some ⟨gr, or, none⟩ ∧ ma = some ⟨gm, om, none⟩ ∧ w.cell? ⟨gr, or + i, none⟩ = some (.slice a x.1.length ca) ∧ w.cell? ⟨gm, om + i, none⟩ = some (.slice b x.2.length cb) ∧ Sl w 3 a x.1.length ca (inCells x.1) ∧ Sl w 1 b x.2.length cb (x.2.map Value.bool) := by
  have hil := (List.getElem?_eq_some_iff.1 hx).1
  obtain ⟨c, hc, a, ca, b, cb, rfl, ha, hb, _, _⟩ := h.tk i x hx
  obtain ⟨hcl, hce⟩ := List.getElem?_eq_some_iff.1 hc
  obtain ⟨gr, or, hr, _, hcr⟩ := h.rows.pos (by omega)
  obtain ⟨gm, om, hm, _, hcm⟩ := h.miss.pos (by omega)
  refine ⟨gr, or, gm, om, a, ca, b, cb, hr, hm, hcr i _ ?_, hcm i _ ?_, ha, hb⟩
  · have := flatG fstV 1 (fun _ => rfl) cs i 0 hcl (by decide)
    rw [Nat.mul_one, Nat.add_zero, hce] at this
    exact this
  · have := flatG sndV 1 (fun _ => rfl) cs i 0 hcl (by decide)
    rw [Nat.mul_one, Nat.add_zero, hce] at this
    exact this
set_option maxRecDepth 100000 in
set_option maxHeartbeats 2000000 in
theorem same22_no (B : Nat) (col : Nat → Nat) (s : QS) (L : List On) (la : Option Addr) (lc : Nat) (ra : Option Addr) (rc : Nat) (ma : Option Addr) (mc : Nat) (t : Int) (w : World) (hQ : Que w B col s) (h : t < 0 ∨ (s.tks.length : Int) ≤ t) :
    Calls Try.prog 18 #[.pointer (some ⟨B, 0, none⟩), rqA s L.length la lc ra rc ma mc, .int .i64 t] w fun e w' => e = .returned (.bool true) ∧ Q w w' := by
  have HB := Lib.hid (Box.new w [.int .i64 s.k, .int .i64 s.wt, .slice la L.length lc, .slice ra s.tks.length rc, .slice ma s.tks.length mc] 30)
  have HQ := Lib.hid ((Q.refl w).alloc (.cells #[.int .i64 s.k, .int .i64 s.wt, .slice la L.length lc, .slice ra s.tks.length rc, .slice ma s.tks.length mc] 30))
  have HQQ := Lib.hid (hQ.q HQ.out)
  have HT := Lib.hid h
  clear hQ h
  unfold rqA
  go_enter Try.func18, Try.ntmps18
  go_wp2_with (fail)
  generalize w.alloc (.cells #[.int .i64 s.k, .int .i64 s.wt, .slice la L.length lc, .slice ra s.tks.length rc, .slice ma s.tks.length mc] 30) = wa at *
  generalize w.heap.size = QB at *
  refine (qFixed_no B col s t _ HQQ.out HT.out).mono ?_
  rintro e w1 ⟨rfl, rfl⟩
  obtain ⟨l0, c0, c1, c2, c3, c4⟩ := Box.here5 HB.out
  by_cases ht : t < 0
  · go_wp2
    go_ret
    exact ⟨rfl, HQ.out⟩
  · have htl : (s.tks.length : Int) ≤ t := by have := HT.out; omega
    go_wp2
    go_ret
    exact ⟨rfl, HQ.out⟩
set_option maxRecDepth 100000 in
set_option maxHeartbeats 2000000 in
theorem same22_yes (B : Nat) (col : Nat → Nat) (s : QS) (L : List On) (la : Option Addr) (lc : Nat) (ra : Option Addr) (rc : Nat) (ma : Option Addr) (mc : Nat) (cs : List (Value × Value)) (i : Nat) (x : List Int × List Bool) (w : World) (hQ : Que w B col s) (ok : OkS s) (hR : RQ w s L la lc ra rc ma mc cs) (hx : s.tks[i]? = some x) :
    Calls Try.prog 18 #[.pointer (some ⟨B, 0, none⟩), rqA s L.length la lc ra rc ma mc, .int .i64 i] w fun e w' => e = .returned (.bool true) ∧ Q w w' := by
  have HB := Lib.hid (Box.new w [.int .i64 s.k, .int .i64 s.wt, .slice la L.length lc, .slice ra s.tks.length rc, .slice ma s.tks.length mc] 30)
  have HQ := Lib.hid ((Q.refl w).alloc (.cells #[.int .i64 s.k, .int .i64 s.wt, .slice la L.length lc, .slice ra s.tks.length rc, .slice ma s.tks.length mc] 30))
  have HQQ := Lib.hid (hQ.q HQ.out)
  have HR := Lib.hid (hR.q HQ.out)
  have HOK := Lib.hid ok
  have hil : i < s.tks.length := (List.getElem?_eq_some_iff.1 hx).1
  have hk := ok.tk1 x (List.mem_of_getElem? hx)
  have hk8 := ok.k8
  have HX := Lib.hid hx
  have HL1 := Lib.hid hk.1
  have HL2 := Lib.hid hk.2.1
  have HCD := Lib.hid hk.2.2
  clear hQ hR ok hk hx
  unfold rqA
  go_enter Try.func18, Try.ntmps18
  go_wp2_with (fail)
  generalize w.alloc (.cells #[.int .i64 s.k, .int .i64 s.wt, .slice la L.length lc, .slice ra s.tks.length rc, .slice ma s.tks.length mc] 30) = wa at *
  generalize w.heap.size = QB at *
  refine (qFixed_yes B col s i x _ HQQ.out HOK.out HX.out).mono ?_
  rintro e w1 ⟨a, ca, b, cb, rfl, hoa, hob, hq1⟩
  have HSA := Lib.hid (Sl.of_own hoa)
  have HSB := Lib.hid (Sl.of_own hob)
  have HQ1 := Lib.hid (HQ.out.trans hq1)
  have HR1 := Lib.hid (HR.out.q hq1)
  have HB1 := Lib.hid (HB.out.q hq1)
  obtain ⟨gr, or, gm, om, a2, ca2, b2, cb2, rfl, rfl, r1, m1, hsa, hsb⟩ := HR1.out.tick i x HX.out
  have HSA2 := Lib.hid hsa
  have HSB2 := Lib.hid hsb
  have HM1 := Lib.hid m1
  have hni : ¬ (i : Int) < 0 := by omega
  have hii : (i : Int) < (s.tks.length : Int) := by omega
  have hi2 : ¬ (s.tks.length : Int) ≤ (i : Int) := by omega
  have hgm : gm < w1.heap.size := (HR1.out.miss.pos (by omega)).elim (fun g h => h.elim (fun o h => by have := h.1; cases this; exact h.2.1))
  clear hoa hob hq1 hsa hsb HB HR HQQ
  obtain ⟨l0, c0, c1, c2, c3, c4⟩ := Box.here5 HB1.out
  have hll : ((x.2.length : Int) != (x.2.length : Int)) = false := by simp
  go_wp2_with (fail)
  refine (equal_any a a2 _ _ ca ca2 x.1 x.1 _ HSA.out HSA2.out HCD.out HCD.out).mono ?_
  rw [eqB_self]
  rintro e w2 ⟨rfl, hq2⟩
  have HQ2 := Lib.hid (HQ1.out.trans hq2)
  have HQ12 := Lib.hid hq2
  have HB2 := Lib.hid (HB1.out.q hq2)
  have hn8 : x.2.length ≤ 8 := by rw [HL2.out]; exact hk8
  clear hq2 l0 c0 c1 c2 c3 c4 r1 m1 hll
  generalize hn : x.2.length = n at *
  have HN := Lib.hid hn
  clear hn
  go_wp2_with (fail)
  go_loopw [10] (fun v wr => ∃ j : Nat, j ≤ n ∧ v = .int .i64 j ∧ Q w2 wr) (fun v _ => n - (intOf v).toNat)
  case atStart => exact ⟨0, by omega, rfl, Q.refl _⟩
  case round =>
    obtain ⟨j, hj, rfl, hq⟩ := hrel
    have HQr := Lib.hid hq
    clear hq
    by_cases hjn : j < n
    · have hji : (j : Int) < (n : Int) := by omega
      have hjl : j < x.2.length := by rw [HN.out]; exact hjn
      go_upto_region 9 with (fail)
      refine wp_region_mix [(0, true), (1, true), (2, true), (3, true), (4, true), (5, true), (6, true), (7, true), (8, true), (9, true), (10, true), (11, true), (12, true)] (by kernel_rfl) (by kernel_rfl) (fun _ _ _ _ _ h => h) ?_
      have HQ3 := Lib.hid (HQr.out.drew)
      have HB3 := Lib.hid (HB2.out.q HQ3.out)
      have HSB3 := Lib.hid ((HSB.out.q HQ12.out).q HQ3.out)
      have HSB4 := Lib.hid ((HSB2.out.q HQ12.out).q HQ3.out)
      have HM3 := Lib.hid (show wr.drew.cell? ⟨gm, om + i, none⟩ = some (.slice b2 n cb2) ∧ gm < wr.drew.heap.size from
        ⟨((HQ12.out.trans HQ3.out).cells.1 gm (om + i) hgm).trans HM1.out, Nat.lt_of_lt_of_le hgm (HQ12.out.trans HQ3.out).size⟩)
      generalize wr.drew = w3 at *
      obtain ⟨gb, ob, rfl, hgb, hcb⟩ := HSB3.out.pos (by omega)
      obtain ⟨gc, oc, rfl, hgc, hcc⟩ := HSB4.out.pos (by omega)
      have hv : (x.2.map Value.bool)[j]? = some (.bool x.2[j]) := by rw [List.getElem?_map, List.getElem?_eq_getElem hjl]; rfl
      have y0 : ∀ y : After w3, y.w.cell? ⟨gb, ob + j, none⟩ = some (.bool x.2[j]) := fun y => (y.q.cells.1 _ _ hgb).trans (hcb j _ hv)
      have y1 : ∀ y : After w3, y.w.cell? ⟨gc, oc + j, none⟩ = some (.bool x.2[j]) := fun y => (y.q.cells.1 _ _ hgc).trans (hcc j _ hv)
      have y2 : ∀ y : After w3, y.w.cell? ⟨gm, om + i, none⟩ = some (.slice (some ⟨gc, oc, none⟩) n cb2) := fun y => (y.q.cells.1 _ _ HM3.out.2).trans HM3.out.1
      have y3 : ∀ y : After w3, y.w.cell? ⟨QB, 4, none⟩ = some _ := Box.sf HB3.out 4 _ rfl
      clear hcb hcc hv hgb hgc
      generalize x.2[j] = bv at *
      have hbv : (bv != bv) = false := by simp
      repeat (refine mix_val rfl rfl ?_; go_big_quiet_step (fail); refine wpQuiet_nil ?_)
      clear y0 y1 y2 y3
      refine mix_end ?_
      go_wp2_with (fail)
      go_roundw
      case rel => exact ⟨j + 1, by omega, by go_num, HQ3.out⟩
      case measure => simp [intOf]; omega
    · have hje : j = n := by omega
      have hjj : ¬ (j : Int) < (n : Int) := by omega
      clear hje
      go_wp2
      go_ret
      exact ⟨rfl, HQ2.out.trans HQr.out⟩
end Go.Proofs.Ytpoffkkkkieniaa
