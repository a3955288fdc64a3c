/- The walk of InputqueueRaw. -/
import Derived.Test.YtpoffkkkkieniaaQWalkB
import Derived.Test.YtpoffkkkkieniaaQT
import Derived.Test.YtpoffkkkkieniaaMixF
namespace Go.Proofs.Ytpoffkkkkieniaa
open Go Go.RowKit Go.BigFrame

theorem offT_same (s : QS) (now p t a b f : Int) : (offT s now p t a b f).k = s.k ∧ (offT s now p t a b f).wt = s.wt ∧ (offT s now p t a b f).tks = s.tks := by unfold offT; split <;> exact ⟨rfl, rfl, rfl⟩
theorem rq0 (w : World) (col : Nat → Nat) (k wt : Nat) : RQO w col (qs0 k wt) [] none 0 none 0 none 0 [] :=
  ⟨⟨⟨rfl, Nat.le_refl _, by decide, fun _ => rfl, .inl rfl⟩, ⟨rfl, Nat.le_refl _, by decide, fun _ => rfl, .inl rfl⟩, ⟨rfl, Nat.le_refl _, by decide, fun _ => rfl, .inl rfl⟩, rfl, fun i x h => by simp [qs0] at h, fun t p => by
    show (List.replicate 8 none).getD p none = _
    rw [List.getD, List.getElem?_replicate]
    split <;> rfl, by decide⟩, ⟨(fun x h => by rcases h with h | h | h <;> cases h), fun c h => by cases h⟩⟩
/-- where the law stands: the queue, the reference's queue in block RB -/
structure RawAt (w0 w : World) (B RB : Nat) (col : Nat → Nat) (s : QS) (L : List On) (la : Option Addr) (lc : Nat) : Prop where
  que : Que w B col s
  ok : OkS s
  tks : s.tks = []
  ref : RQO w col s L la lc none 0 none 0 []
  box : Box w RB [.int .i64 s.k, .int .i64 s.wt, .slice la L.length lc, .slice none s.tks.length 0, .slice none s.tks.length 0]
  rb : col RB = 0 ∧ w0.heap.size ≤ RB ∧ ∀ x, la = some x → x.block ≠ RB
  q : Q w0 w
  z : ∀ b, b < w0.heap.size → col b = 0
set_option maxRecDepth 100000 in
set_option maxHeartbeats 2000000 in
theorem raw_walk (now player tick r0 r1 r2 players : Int) (w : World) (w0 : (Lit.int .i64 now).wf = true) (w1 : (Lit.int .i64 player).wf = true) (w2 : (Lit.int .i64 tick).wf = true) (_w30 : (Lit.int .i64 r0).wf = true) (_w31 : (Lit.int .i64 r1).wf = true) (_w32 : (Lit.int .i64 r2).wf = true) (w4 : (Lit.int .i64 players).wf = true) :
    Calls Try.prog 4 #[.int .i64 now, .int .i64 player, .int .i64 tick, .agg #[.int .i64 r0, .int .i64 r1, .int .i64 r2], .int .i64 players] w fun e w' => e = .returned (.bool true) ∧ Q w w' := by
  have G0 := Lib.hid (wf_i64 w0)
  have G1 := Lib.hid (wf_i64 w1)
  have G2 := Lib.hid (wf_i64 w2)
  have G4 := Lib.hid (wf_i64 w4)
  clear w0 w1 w2 _w30 _w31 _w32 w4
  have HQ0 := Lib.hid ((Q.refl w).alloc (.cells #[.int .i64 r0, .int .i64 r1, .int .i64 r2] 34))
  have HBI := Lib.hid (Box.new w [.int .i64 r0, .int .i64 r1, .int .i64 r2] 34)
  go_enter Try.func4, Try.ntmps4
  go_wp2_with (fail)
  have HBI' : Hid (Box (w.alloc (.cells #[.int .i64 r0, .int .i64 r1, .int .i64 r2] 34)) w.heap.size [.int .i64 r0, .int .i64 r1, .int .i64 r2]) := HBI
  clear HBI
  generalize w.alloc (.cells #[.int .i64 r0, .int .i64 r1, .int .i64 r2] 34) = wI at *
  generalize w.heap.size = IB at *
  refine (around_any players 8 _ G4.out (by omega)).mono ?_
  rintro e w1 ⟨rfl, rfl⟩
  have p0 := aroundZ_lo players 8 (by omega)
  have p1 := aroundZ_hi players 8 (by omega)
  obtain ⟨k0, hk0⟩ := Int.eq_ofNat_of_zero_le p0
  rw [hk0] at p1 ⊢
  have hkz : (1 : Int) + k0 = ((k0 + 1 : Nat) : Int) := by omega
  have hk8 : k0 + 1 ≤ 8 := by omega
  have hk1 : 1 ≤ k0 + 1 := by omega
  generalize k0 + 1 = k at *
  clear hk0 p0 p1
  go_wp2_with (fail)
  clear hkz
  refine (around_any now 7000 _ G0.out (by omega)).mono ?_
  rintro e w1 ⟨rfl, rfl⟩
  have t0 := aroundZ_lo now 7000 (by omega)
  have t1 := aroundZ_hi now 7000 (by omega)
  generalize aroundZ now 7000 = t at *
  go_wp2_with (fail)
  refine (qNew_any k 3 _).mono ?_
  rintro e w1 ⟨B, col, rfl, hQ, hq, hc⟩
  have HQ1 := Lib.hid hQ
  have Hq1 := Lib.hid hq
  have HC1 := Lib.hid hc
  clear hQ hq hc
  go_upto_region 7 with (fail)
  have HR0 : Hid (RawAt wI (w1.alloc (.cells #[.int .i64 k, .int .i64 3, .slice none 0 0, .slice none 0 0, .slice none 0 0] 30)) B w1.heap.size col (qs0 k 3) [] none 0) := Lib.hid
    ⟨HQ1.out.q ((Q.refl w1).alloc _), ok0 hk1 hk8 (by omega), rfl, rq0 _ _ _ _, Box.new w1 _ 30, ⟨HQ1.out.new0 _ (Nat.le_refl _), Hq1.out.size, fun x h => by cases h⟩, Hq1.out.alloc _, HC1.out⟩
  clear HQ1 Hq1 HC1
  generalize w1.alloc (.cells #[.int .i64 k, .int .i64 3, .slice none 0 0, .slice none 0 0, .slice none 0 0] 30) = wa at *
  generalize w1.heap.size = RB at *
  go_wp2_with (fail)
  go_loopw [15] (fun v wr => ∃ i : Nat, i ≤ 2 ∧ v = .int .i64 i ∧ ∃ col' s' L la lc, RawAt wI wr B RB col' s' L la lc ∧ s'.k = k ∧ L.length ≤ i) (fun v _ => 2 - (intOf v).toNat)
  case atStart => exact ⟨0, by omega, rfl, col, _, [], none, 0, HR0.out, rfl, by simp⟩
  case round =>
    obtain ⟨i, hi, rfl, col', s', L, la, lc, hR, hk', hL⟩ := hrel
    have HRr := Lib.hid hR
    have HKr := Lib.hid hk'
    have HTl := Lib.hid (show s'.tks.length = 0 by rw [hR.tks]; rfl)
    obtain ⟨lR, c0, c1, c2, c3, c4⟩ := Box.here5 hR.box
    have hbi := Box.q HBI'.out hR.q
    obtain ⟨lI, i0, i1, i2⟩ := Box.here3 hbi
    have HBIr := Lib.hid hbi
    clear hR hk' hbi HR0
    by_cases hi2 : i < 2
    · have hii : (i : Int) < 2 := by omega
      go_wp2_with (fail)
      refine (rOffer_any s' L la lc none 0 none 0 [] t player tick r0 r1 r2 _ HRr.out.ref.1 (by omega) HRr.out.ok (by omega)).mono ?_
      rintro e w2 ⟨L2, la2, lc2, rfl, hRQ, hq2, hL2, hla2⟩
      have HRO := Lib.hid (RQO.off HRr.out.que HRr.out.ref hRQ hq2 hla2)
      have HQ2 := Lib.hid (HRr.out.que.q hq2)
      have HBR2 := Lib.hid (Box.q HRr.out.box hq2)
      have HBI2 := Lib.hid (Box.q HBIr.out hq2)
      have Hq2 := Lib.hid (HRr.out.q.trans hq2)
      have HLA2 := Lib.hid (show ∀ x, la2 = some x → x.block ≠ RB from fun x hx => by
        rcases hla2 with h | h
        · rw [h] at hx; exact HRr.out.rb.2.2 x hx
        · have h1 := (h x hx).1
          have h2 := HRr.out.box.1
          omega)
      have HS2 := Lib.hid (offT_same s' t player tick r0 r1 r2)
      have HO2 := Lib.hid (ok_off HRr.out.ok t player tick r0 r1 r2)
      have HTE : (offT s' t player tick r0 r1 r2).k = s'.k ∧ (offT s' t player tick r0 r1 r2).wt = s'.wt ∧ (offT s' t player tick r0 r1 r2).tks.length = s'.tks.length := ⟨HS2.out.1, HS2.out.2.1, by rw [HS2.out.2.2]⟩
      unfold rqA
      rw [HTE.1, HTE.2.1, HTE.2.2]
      clear hRQ hq2 hla2 c0 c1 c2 c3 c4 i0 i1 i2 lR lI HTE
      obtain ⟨lI, i0, i1, i2⟩ := Box.here3 HBI2.out
      go_upto_region 11 with (fail)
      have HNX := Lib.hid (Box.new w2 [.int .i64 s'.k, .int .i64 s'.wt, .slice la2 L2.length lc2, .slice none s'.tks.length 0, .slice none s'.tks.length 0] 30)
      have HN0 := Lib.hid (show col' w2.heap.size = 0 from HQ2.out.new0 _ (Nat.le_refl _))
      have HNR := Lib.hid (show RB < w2.heap.size from HBR2.out.1)
      have hqa : Q w2 (w2.alloc (.cells #[.int .i64 s'.k, .int .i64 s'.wt, .slice la2 L2.length lc2, .slice none s'.tks.length 0, .slice none s'.tks.length 0] 30)) := (Q.refl w2).alloc _
      have HRO3 := Lib.hid (HRO.out.q hqa)
      have HQ3 := Lib.hid (HQ2.out.q hqa)
      have HBR3 := Lib.hid (Box.q HBR2.out hqa)
      have HBI3 := Lib.hid (Box.q HBI2.out hqa)
      have Hq3 := Lib.hid (Hq2.out.trans hqa)
      have HNX' : Hid (Box (w2.alloc (.cells #[.int .i64 s'.k, .int .i64 s'.wt, .slice la2 L2.length lc2, .slice none s'.tks.length 0, .slice none s'.tks.length 0] 30)) w2.heap.size [.int .i64 s'.k, .int .i64 s'.wt, .slice la2 L2.length lc2, .slice none s'.tks.length 0, .slice none s'.tks.length 0]) := HNX
      clear hqa HRO HQ2 HBR2 HBI2 Hq2 HNX i0 i1 i2 lI
      generalize w2.alloc (.cells #[.int .i64 s'.k, .int .i64 s'.wt, .slice la2 L2.length lc2, .slice none s'.tks.length 0, .slice none s'.tks.length 0] 30) = w3 at *
      generalize w2.heap.size = NB at *
      obtain ⟨lI, i0, i1, i2⟩ := Box.here3 HBI3.out
      go_wp2_with (fail)
      refine (qOffer_any B col' s' t player tick r0 r1 r2 _ HQ3.out HRr.out.ok (by omega) G2.out).mono ?_
      rintro e w4 ⟨rfl, hd⟩
      obtain ⟨col4, h1, h2, h3, h4, h5⟩ := qstep Hq3.out HRr.out.z hd
      have HQ4 := Lib.hid h1
      have Hq4 := Lib.hid h2
      have HC4 := Lib.hid h3
      have HRO4 := Lib.hid (HRO3.out.done h4 h5)
      have HBR4 := Lib.hid (BoxO.done HBR3.out HRr.out.rb.1 h4 h5)
      have HNX4 := Lib.hid (BoxO.done HNX'.out HN0.out h4 h5)
      have HTz := Lib.hid (show ((offT s' t player tick r0 r1 r2).tks.length : Int) = 0 by rw [HS2.out.2.2, HTl.out]; rfl)
      clear hd h1 h2 h3 h4 h5 HQ3 Hq3 HRO3 HBR3 HNX' HBI3 lI i0 i1 i2
      generalize offE s' t player tick r0 r1 r2 = er at *
      go_wp2_with (fail)
      refine (qNext_any B col4 _ _ HQ4.out).mono ?_
      rintro e w5 ⟨rfl, rfl⟩
      rw [HTz.out]
      obtain ⟨lN, n0, n1, n2, n3, n4⟩ := Box.here5 HNX4.out.1
      obtain ⟨lR, c0, c1, c2, c3, c4⟩ := Box.here5 HBR4.out.1
      obtain ⟨f0, f1, f2, f3, f4⟩ := Box.free5 HBR4.out.1
      have HB5 := Lib.hid (HBR4.out.1.store5 (a' := .int .i64 s'.k) (b' := .int .i64 s'.wt) (c' := .slice la2 L2.length lc2) (d' := .slice none s'.tks.length 0) (e' := .slice none s'.tks.length 0))
      go_wp2_with (fail)
      have q5 : QF (· = RB) w4 (((((w4.setCell ⟨RB, 0, none⟩ (.int .i64 s'.k)).setCell ⟨RB, 1, none⟩ (.int .i64 s'.wt)).setCell ⟨RB, 2, none⟩ (.slice la2 L2.length lc2)).setCell ⟨RB, 3, none⟩ (.slice none s'.tks.length 0)).setCell ⟨RB, 4, none⟩ (.slice none s'.tks.length 0)) :=
        ((((QF.set (F := (· = RB)) w4 RB 0 _ rfl).setNew RB 1 _ (.inl rfl)).setNew RB 2 _ (.inl rfl)).setNew RB 3 _ (.inl rfl)).setNew RB 4 _ (.inl rfl)
      go_roundw
      case rel =>
        refine ⟨i + 1, by omega, by go_num, col4, offT s' t player tick r0 r1 r2, L2, la2, lc2, ⟨HQ4.out.qf q5 (fun b hb => by rw [hb]; exact HBR4.out.2), HO2.out, by rw [HS2.out.2.2]; exact HRr.out.tks, ?_, ?_, ⟨HBR4.out.2, HRr.out.rb.2.1, HLA2.out⟩, QF.q Hq4.out q5 (fun b hb => by rw [hb]; exact HRr.out.rb.2.1), HC4.out⟩, by rw [HS2.out.1]; exact HKr.out, by omega⟩
        · have hne : ∀ x, la2 = some x → x.block ≠ RB := HLA2.out
          obtain ⟨g1, g2, g3⟩ := HRO4.out
          refine ⟨⟨g1.sl.qf q5 (fun x hx e => hne x hx e), g1.rows.qf q5 (fun x hx => by cases hx), g1.miss.qf q5 (fun x hx => by cases hx), g1.cl, fun j y hy => ?_, g1.acc, g1.small⟩, fun x hx => ⟨Nat.lt_of_lt_of_le (g2 x hx).1 q5.size, (g2 x hx).2⟩, fun c hc => by cases hc⟩
          obtain ⟨c, hc, _⟩ := g1.tk j y hy
          cases hc
        · rw [HS2.out.1, HS2.out.2.1, show (offT s' t player tick r0 r1 r2).tks.length = s'.tks.length by rw [HS2.out.2.2]]
          exact HB5.out
      case measure => simp [intOf]; omega
    · have hii : ¬ (i : Int) < 2 := by omega
      obtain ⟨pk, hpk⟩ : ∃ pk : Int, player.tmod k = pk := ⟨_, rfl⟩
      have HSm := Lib.hid (offT_same s' t pk (t + 8) (aroundZ tick 36 % 3 - 1) (aroundZ tick 36 / 3 % 3 - 1) (aroundZ tick 36 / 9))
      have HTE := Lib.hid (show (offT s' t pk (t + 8) (aroundZ tick 36 % 3 - 1) (aroundZ tick 36 / 3 % 3 - 1) (aroundZ tick 36 / 9)).k = s'.k ∧ (offT s' t pk (t + 8) (aroundZ tick 36 % 3 - 1) (aroundZ tick 36 / 3 % 3 - 1) (aroundZ tick 36 / 9)).wt = s'.wt ∧ (offT s' t pk (t + 8) (aroundZ tick 36 % 3 - 1) (aroundZ tick 36 / 3 % 3 - 1) (aroundZ tick 36 / 9)).tks.length = s'.tks.length from ⟨HSm.out.1, HSm.out.2.1, by rw [HSm.out.2.2]⟩)
      clear c0 c1 c2 c3 c4 i0 i1 i2 lR lI
      go_upto_region 14 with (fail)
      go_cut [19] (fun s19 wx => s19 = .int .i64 (offE s' t pk (t + 8) (aroundZ tick 36 % 3 - 1) (aroundZ tick 36 / 3 % 3 - 1) (aroundZ tick 36 / 9)) ∧ Q wr wx)
      case first =>
        refine wp_region_tree (fun w'' => ∃ x : After wr.drew, w'' = x.w) (.val 0 (.val 1 (.val 2 (.val 3 (.val 4 (.val 5 (.val 6 (.val 7 (.two 8 (.two 9 (.val 10 (.val 11 (.val 12 (.one 13 (.one 14 (.val 15 (.fin))))))) 13 (.one 9 (.val 10 (.val 11 (.val 12 (.one 14 (.val 15 (.fin)))))))) 13 (.one 8 (.one 9 (.val 10 (.val 11 (.val 12 (.one 14 (.val 15 (.fin))))))))))))))))) (by kernel_rfl) (by kernel_rfl) (fun _ _ _ _ _ h => h) ⟨⟨_, Q.refl _⟩, rfl⟩ ?_
        have HQW := Lib.hid (Q.drew (Q.refl wr))
        have HRW := Lib.hid (HRr.out.ref.1.q (Q.drew (Q.refl wr)))
        have HBW := Lib.hid (Box.q HRr.out.box (Q.drew (Q.refl wr)))
        generalize wr.drew = W at *
        have HQW0 := Lib.hid (Q.refl W)
        have k0 := Box.sf HBW.out 0 _ rfl
        have k1 := Box.sf HBW.out 1 _ rfl
        have k2 := Box.sf HBW.out 2 _ rfl
        have k3 := Box.sf HBW.out 3 _ rfl
        have k4 := Box.sf HBW.out 4 _ rfl
        repeat (refine tree_val rfl rfl ?_; go_big_quiet_step (fail); refine wpQuiet_nil ?_)
        clear k0 k1 k2 k3 k4
        refine tree_two ?_ ?_
        · refine tree_one rfl rfl ?_
          intro K hK
          go_wp2_with (fail)
          refine (of_any tick _ G2.out).mono ?_
          rintro e wO ⟨rfl, hq⟩
          refine hK _ _ ⟨⟨_, HQW0.out.trans hq⟩, rfl⟩ ?_
          clear hK K
          have hqwO := hq
          clear hq
          have HQwO := Lib.hid (HQW0.out.trans hqwO)
          clear hqwO
          refine tree_two ?_ ?_
          · refine tree_one rfl rfl ?_
            intro K hK
            go_wp2_with (fail)
            refine (rOffer_any s' L la lc none 0 none 0 [] t pk (t + 8) (aroundZ tick 36 % 3 - 1) (aroundZ tick 36 / 3 % 3 - 1) (aroundZ tick 36 / 9) _ (HRW.out.q HQwO.out) (by omega) HRr.out.ok (by omega)).mono ?_
            rintro e wRO ⟨L2, la2, lc2, rfl, _, hq, _, _⟩
            refine hK _ _ ⟨⟨_, HQwO.out.trans hq⟩, rfl⟩ ?_
            clear hK K
            have hqwRO := hq
            clear hq
            unfold rqA
            rw [HTE.out.1, HTE.out.2.1, HTE.out.2.2]
            have HQwRO := Lib.hid (HQwO.out.trans hqwRO)
            clear hqwRO
            repeat (refine tree_val rfl rfl ?_; go_big_quiet_step (fail); refine wpQuiet_nil ?_)
            refine tree_one rfl rfl ?_
            intro K hK
            go_wp2_with (fail)
            refine hK _ _ ⟨⟨_, HQwRO.out.alloc _⟩, rfl⟩ ?_
            clear hK K
            have hqwAOR := (Q.refl wRO).alloc (.cells #[.int .i64 0, .int .i64 0, .slice none 0 0, .slice none 0 0, .slice none 0 0] 30)
            have HN0 : Hid (Box (wRO.alloc (.cells #[.int .i64 0, .int .i64 0, .slice none 0 0, .slice none 0 0, .slice none 0 0] 30)) wRO.heap.size [.int .i64 0, .int .i64 0, .slice none 0 0, .slice none 0 0, .slice none 0 0] ∧ hsz W ≤ wRO.heap.size) := Lib.hid ⟨Box.new wRO _ 30, HQwRO.out.size⟩
            generalize wRO.alloc (.cells #[.int .i64 0, .int .i64 0, .slice none 0 0, .slice none 0 0, .slice none 0 0] 30) = wAOR at *
            generalize wRO.heap.size = NB at *
            have HNwAOR := HN0
            clear HN0
            have HQwAOR := Lib.hid (HQwRO.out.trans hqwAOR)
            clear hqwAOR
            obtain ⟨lN, n0, n1, n2, n3, n4⟩ := Box.here5 HNwAOR.out.1
            obtain ⟨f0, f1, f2, f3, f4⟩ := Box.free5 HNwAOR.out.1
            refine tree_one rfl rfl ?_
            intro K hK
            go_wp2_with (fail)
            have HQF := Lib.hid (HQwAOR.out.store5 (B := NB) HNwAOR.out.2 (.int .i64 s'.k) (.int .i64 s'.wt) (.slice la2 L2.length lc2) (.slice none s'.tks.length 0) (.slice none s'.tks.length 0))
            refine hK _ _ ⟨⟨_, HQF.out⟩, rfl⟩ ?_
            clear hK K n0 n1 n2 n3 n4 f0 f1 f2 f3 f4 lN
            repeat (refine tree_val rfl rfl ?_; go_big_quiet_step (fail); refine wpQuiet_nil ?_)
            refine tree_end ?_
            go_wp2_with (fail)
            go_meet
            exact ⟨rfl, HQW.out.trans HQF.out⟩
          · refine tree_one rfl rfl ?_
            intro K hK
            go_wp2_with (fail)
            refine hK _ _ ⟨⟨_, HQwO.out.alloc _⟩, rfl⟩ ?_
            clear hK K
            have hqwAO := (Q.refl wO).alloc (.cells #[.int .i64 0, .int .i64 0, .slice none 0 0, .slice none 0 0, .slice none 0 0] 30)
            have HN0 : Hid (Box (wO.alloc (.cells #[.int .i64 0, .int .i64 0, .slice none 0 0, .slice none 0 0, .slice none 0 0] 30)) wO.heap.size [.int .i64 0, .int .i64 0, .slice none 0 0, .slice none 0 0, .slice none 0 0] ∧ hsz W ≤ wO.heap.size) := Lib.hid ⟨Box.new wO _ 30, HQwO.out.size⟩
            generalize wO.alloc (.cells #[.int .i64 0, .int .i64 0, .slice none 0 0, .slice none 0 0, .slice none 0 0] 30) = wAO at *
            generalize wO.heap.size = NB at *
            have HNwAO := HN0
            clear HN0
            have HQwAO := Lib.hid (HQwO.out.trans hqwAO)
            clear hqwAO
            refine tree_one rfl rfl ?_
            intro K hK
            go_wp2_with (fail)
            refine (rOffer_any s' L la lc none 0 none 0 [] t pk (t + 8) (aroundZ tick 36 % 3 - 1) (aroundZ tick 36 / 3 % 3 - 1) (aroundZ tick 36 / 9) _ (HRW.out.q HQwAO.out) (by omega) HRr.out.ok (by omega)).mono ?_
            rintro e wROA ⟨L2, la2, lc2, rfl, _, hq, _, _⟩
            refine hK _ _ ⟨⟨_, HQwAO.out.trans hq⟩, rfl⟩ ?_
            clear hK K
            have hqwROA := hq
            clear hq
            unfold rqA
            rw [HTE.out.1, HTE.out.2.1, HTE.out.2.2]
            have HQwROA := Lib.hid (HQwAO.out.trans hqwROA)
            have HNwROA := Lib.hid (show Box wROA NB [.int .i64 0, .int .i64 0, .slice none 0 0, .slice none 0 0, .slice none 0 0] ∧ hsz W ≤ NB from ⟨Box.q HNwAO.out.1 hqwROA, HNwAO.out.2⟩)
            clear hqwROA
            repeat (refine tree_val rfl rfl ?_; go_big_quiet_step (fail); refine wpQuiet_nil ?_)
            obtain ⟨lN, n0, n1, n2, n3, n4⟩ := Box.here5 HNwROA.out.1
            obtain ⟨f0, f1, f2, f3, f4⟩ := Box.free5 HNwROA.out.1
            refine tree_one rfl rfl ?_
            intro K hK
            go_wp2_with (fail)
            have HQF := Lib.hid (HQwROA.out.store5 (B := NB) HNwROA.out.2 (.int .i64 s'.k) (.int .i64 s'.wt) (.slice la2 L2.length lc2) (.slice none s'.tks.length 0) (.slice none s'.tks.length 0))
            refine hK _ _ ⟨⟨_, HQF.out⟩, rfl⟩ ?_
            clear hK K n0 n1 n2 n3 n4 f0 f1 f2 f3 f4 lN
            repeat (refine tree_val rfl rfl ?_; go_big_quiet_step (fail); refine wpQuiet_nil ?_)
            refine tree_end ?_
            go_wp2_with (fail)
            go_meet
            exact ⟨rfl, HQW.out.trans HQF.out⟩
        · refine tree_one rfl rfl ?_
          intro K hK
          go_wp2_with (fail)
          refine hK _ _ ⟨⟨_, HQW0.out.alloc _⟩, rfl⟩ ?_
          clear hK K
          have hqwA := (Q.refl W).alloc (.cells #[.int .i64 0, .int .i64 0, .slice none 0 0, .slice none 0 0, .slice none 0 0] 30)
          have HN0 : Hid (Box (W.alloc (.cells #[.int .i64 0, .int .i64 0, .slice none 0 0, .slice none 0 0, .slice none 0 0] 30)) W.heap.size [.int .i64 0, .int .i64 0, .slice none 0 0, .slice none 0 0, .slice none 0 0] ∧ hsz W ≤ W.heap.size) := Lib.hid ⟨Box.new W _ 30, HQW0.out.size⟩
          generalize W.alloc (.cells #[.int .i64 0, .int .i64 0, .slice none 0 0, .slice none 0 0, .slice none 0 0] 30) = wA at *
          generalize W.heap.size = NB at *
          have HNwA := HN0
          clear HN0
          have HQwA := Lib.hid (HQW0.out.trans hqwA)
          clear hqwA
          refine tree_one rfl rfl ?_
          intro K hK
          go_wp2_with (fail)
          refine (of_any tick _ G2.out).mono ?_
          rintro e wOA ⟨rfl, hq⟩
          refine hK _ _ ⟨⟨_, HQwA.out.trans hq⟩, rfl⟩ ?_
          clear hK K
          have hqwOA := hq
          clear hq
          have HQwOA := Lib.hid (HQwA.out.trans hqwOA)
          have HNwOA := Lib.hid (show Box wOA NB [.int .i64 0, .int .i64 0, .slice none 0 0, .slice none 0 0, .slice none 0 0] ∧ hsz W ≤ NB from ⟨Box.q HNwA.out.1 hqwOA, HNwA.out.2⟩)
          clear hqwOA
          refine tree_one rfl rfl ?_
          intro K hK
          go_wp2_with (fail)
          refine (rOffer_any s' L la lc none 0 none 0 [] t pk (t + 8) (aroundZ tick 36 % 3 - 1) (aroundZ tick 36 / 3 % 3 - 1) (aroundZ tick 36 / 9) _ (HRW.out.q HQwOA.out) (by omega) HRr.out.ok (by omega)).mono ?_
          rintro e wRAO ⟨L2, la2, lc2, rfl, _, hq, _, _⟩
          refine hK _ _ ⟨⟨_, HQwOA.out.trans hq⟩, rfl⟩ ?_
          clear hK K
          have hqwRAO := hq
          clear hq
          unfold rqA
          rw [HTE.out.1, HTE.out.2.1, HTE.out.2.2]
          have HQwRAO := Lib.hid (HQwOA.out.trans hqwRAO)
          have HNwRAO := Lib.hid (show Box wRAO NB [.int .i64 0, .int .i64 0, .slice none 0 0, .slice none 0 0, .slice none 0 0] ∧ hsz W ≤ NB from ⟨Box.q HNwOA.out.1 hqwRAO, HNwOA.out.2⟩)
          clear hqwRAO
          repeat (refine tree_val rfl rfl ?_; go_big_quiet_step (fail); refine wpQuiet_nil ?_)
          obtain ⟨lN, n0, n1, n2, n3, n4⟩ := Box.here5 HNwRAO.out.1
          obtain ⟨f0, f1, f2, f3, f4⟩ := Box.free5 HNwRAO.out.1
          refine tree_one rfl rfl ?_
          intro K hK
          go_wp2_with (fail)
          have HQF := Lib.hid (HQwRAO.out.store5 (B := NB) HNwRAO.out.2 (.int .i64 s'.k) (.int .i64 s'.wt) (.slice la2 L2.length lc2) (.slice none s'.tks.length 0) (.slice none s'.tks.length 0))
          refine hK _ _ ⟨⟨_, HQF.out⟩, rfl⟩ ?_
          clear hK K n0 n1 n2 n3 n4 f0 f1 f2 f3 f4 lN
          repeat (refine tree_val rfl rfl ?_; go_big_quiet_step (fail); refine wpQuiet_nil ?_)
          refine tree_end ?_
          go_wp2_with (fail)
          go_meet
          exact ⟨rfl, HQW.out.trans HQF.out⟩
      case rest =>
        obtain ⟨rfl, hqc⟩ := hcut
        go_upto_region 15 with (fail)
        refine wp_region_mixF (F := colF col') [(0, true), (1, true), (2, true), (3, true), (4, true), (5, true), (6, true), (7, true), (10, true), (8, false), (9, false), (11, true), (12, true), (13, false), (14, true), (15, true)] (by kernel_rfl) (by kernel_rfl) (fun _ _ _ _ _ h => h) ?_
        have HQx := Lib.hid (HRr.out.que.q hqc.drew)
        have Hqx := Lib.hid (HRr.out.q.trans hqc.drew)
        clear hqc
        generalize wc.drew = W at *
        obtain ⟨er, her⟩ : ∃ er : Int, er = offE s' t pk (t + 8) (aroundZ tick 36 % 3 - 1) (aroundZ tick 36 / 3 % 3 - 1) (aroundZ tick 36 / 9) := ⟨_, rfl⟩
        rw [← her]
        have HER := Lib.hid her
        clear her
        repeat (refine mixF_val rfl rfl ?_; go_big_quiet_step (fail); refine wpQuiet_nil ?_)
        refine mixF_run rfl rfl ?_
        intro K hK
        go_wp2_with (fail)
        refine (of_any tick _ G2.out).mono ?_
        rintro e w2 ⟨rfl, hq⟩
        refine hK _ _ (QF.of hq) ?_
        clear hK K
        have HQ2 := Lib.hid (HQx.out.q hq)
        have Hq2 := Lib.hid (Hqx.out.trans hq)
        clear hq
        refine mixF_run rfl rfl ?_
        intro K hK
        go_wp2_with (fail)
        refine (qOffer_any B col' s' t pk (t + 8) (aroundZ tick 36 % 3 - 1) (aroundZ tick 36 / 3 % 3 - 1) (aroundZ tick 36 / 9) _ HQ2.out HRr.out.ok (by omega) (by omega)).mono ?_
        rintro e w3 ⟨rfl, hd⟩
        obtain ⟨col3, h1, h2, h3, h4, h5⟩ := qstep Hq2.out HRr.out.z hd
        refine hK _ _ h5 ?_
        clear hK K
        have Hq3 := Lib.hid h2
        clear hd h1 h2 h3 h4 h5
        rw [← HER.out]
        repeat (refine mixF_val rfl rfl ?_; go_big_quiet_step (fail); refine wpQuiet_nil ?_)
        refine mixF_run rfl rfl ?_
        intro K hK
        go_wp2_with (fail)
        refine (lives22_any _).mono ?_
        rintro e w4 ⟨rfl, hq⟩
        refine hK _ _ (QF.of hq) ?_
        clear hK K
        have Hq4 := Lib.hid (Hq3.out.trans hq)
        clear hq
        repeat (refine mixF_val rfl rfl ?_; go_big_quiet_step (fail); refine wpQuiet_nil ?_)
        refine mixF_end ?_
        go_wp2
        go_ret
        exact ⟨rfl, HQ0.out.trans Hq4.out⟩
end Go.Proofs.Ytpoffkkkkieniaa
