/- The walk of InputqueuePlays. -/
import Derived.Test.YtpoffkkkkieniaaQX
import Derived.Test.YtpoffkkkkieniaaQWalkB
import Derived.Test.YtpoffkkkkieniaaMixF
import Derived.Lib.MinMax
import Derived.Deep.DeepCutAuto
namespace Go.Proofs.Ytpoffkkkkieniaa
open Go Go.RowKit Go.BigFrame

set_option maxRecDepth 100000 in
set_option maxHeartbeats 4000000 in
theorem plays_walk (players wait : Int) (a2 : Option Addr) (len2 cap2 : Nat) (z2 : List Int) (w : World) (w0 : (Lit.int .i64 players).wf = true) (w1 : (Lit.int .i64 wait).wf = true) (w2 : IsRow .i64 w a2 len2 cap2 z2) :
    Calls Try.prog 3 #[.int .i64 players, .int .i64 wait, .slice a2 len2 cap2] w fun e w' => e = .returned (.bool true) ∧ Q w w' := by
  have G0 := Lib.hid (wf_i64 w0)
  have G1 := Lib.hid (wf_i64 w1)
  have S2 := Lib.hid (Sl.of_row w2)
  have R2 := Lib.hid (rowsI64 w2)
  clear w0 w1 w2
  generalize z2.take len2 = zl at *
  go_enter Try.func3, Try.ntmps3
  go_wp2_with (fail)
  refine (around_any players 8 _ G0.out (by omega)).mono ?_
  rintro e w1 ⟨rfl, rfl⟩
  have p0 := aroundZ_lo players 8 (by omega)
  have p1 := aroundZ_hi players 8 (by omega)
  obtain ⟨k0, hk0⟩ := Int.eq_ofNat_of_zero_le p0
  rw [hk0] at p1 ⊢
  have hkz : (1 : Int) + k0 = ((k0 + 1 : Nat) : Int) := by omega
  have hk8 : k0 + 1 ≤ 8 := by omega
  have hk1 : 1 ≤ k0 + 1 := by omega
  generalize k0 + 1 = k at *
  clear hk0 p0 p1
  go_wp2_with (fail)
  clear hkz
  refine (around_any wait 9 _ G1.out (by omega)).mono ?_
  rintro e w1 ⟨rfl, rfl⟩
  have p0 := aroundZ_lo wait 9 (by omega)
  have p1 := aroundZ_hi wait 9 (by omega)
  obtain ⟨wt, hwt⟩ := Int.eq_ofNat_of_zero_le p0
  rw [hwt] at p1 ⊢
  have hw8 : wt ≤ 8 := by omega
  clear hwt p0 p1
  go_wp2_with (fail)
  refine (qNew_any k wt _).mono ?_
  rintro e w1 ⟨B, col, rfl, hQ, hq, hc⟩
  have HQ1 := Lib.hid hQ
  have Hq1 := Lib.hid hq
  have HC1 := Lib.hid hc
  clear hQ hq hc
  go_upto_region 7 with (fail)
  have hqa : Q w1 (w1.alloc (.cells #[.int .i64 k, .int .i64 wt, .slice none 0 0, .slice none 0 0, .slice none 0 0] 30)) := (Q.refl w1).alloc _
  have HBX : Hid (Box (w1.alloc (.cells #[.int .i64 k, .int .i64 wt, .slice none 0 0, .slice none 0 0, .slice none 0 0] 30)) w1.heap.size [.int .i64 k, .int .i64 wt, .slice none 0 0, .slice none 0 0, .slice none 0 0]) := Lib.hid (Box.new w1 _ 30)
  have HQ2 := Lib.hid (HQ1.out.q hqa)
  have Hq2 := Lib.hid (Hq1.out.trans hqa)
  have HRB := Lib.hid (show col w1.heap.size = 0 ∧ w.heap.size ≤ w1.heap.size from ⟨HQ1.out.new0 _ (Nat.le_refl _), Hq1.out.size⟩)
  clear hqa HQ1 Hq1
  generalize w1.alloc (.cells #[.int .i64 k, .int .i64 wt, .slice none 0 0, .slice none 0 0, .slice none 0 0] 30) = wa at *
  generalize w1.heap.size = RB at *
  go_wp2_with (fail)
  refine (acts22_any a2 len2 cap2 k zl _ (S2.out.q Hq2.out) R2.out hk1 hk8).mono ?_
  rintro e w2 ⟨aa, cap, rfl, hown, hq⟩
  have HPL : Hid (PlayAt w w2 B RB col (qs0 k wt) [] none 0 none 0 none 0 [] aa (min len2 40) cap (acts22 k (zl.take 40))) := Lib.hid
    ⟨HQ2.out.q hq, ok0 hk1 hk8 hw8, rq0' _ _ _ _, HBX.out.q hq, HRB.out, ⟨(fun x h => by rcases h with h | h | h <;> cases h), fun c h => by cases h⟩, Hq2.out.trans hq, HC1.out, SlO.new HQ2.out hown,
      fun x hx e => by have h1 := (hown.lt x.block (by rw [hx]; rfl)).1; have h2 := HBX.out.1; omega⟩
  have hlz : (zl.take 40).length = min len2 40 := by
    have := S2.out.1
    simp at this
    rw [List.length_take, this, Nat.min_comm]
  have HLN := Lib.hid (show (acts22 k (zl.take 40)).length = min len2 40 by rw [acts22_len, hlz])
  have HOK := Lib.hid (acts22_ok k (zl.take 40) (by omega) (by rw [hlz]; omega))
  have hn40 : min len2 40 ≤ 40 := by omega
  clear hown hq hlz HQ2 Hq2 HBX HRB HC1
  generalize acts22 k (zl.take 40) = acl at *
  generalize min len2 40 = n at *
  go_wp2_with (fail)
  go_loopw [12] (fun v wr => ∃ i : Nat, i ≤ n ∧ v = .int .i64 i ∧ ∃ col s L la lc ra rc ma mc cs, PlayAt w wr B RB col s L la lc ra rc ma mc cs aa n cap acl ∧ L.length ≤ i ∧ s.k = k) (fun v _ => n - (intOf v).toNat)
  case atStart => exact ⟨0, by omega, rfl, col, _, [], _, _, _, _, _, _, _, HPL.out, by simp, rfl⟩
  case round =>
    obtain ⟨i, hin, rfl, col, s, L, la, lc, ra, rc, ma, mc, cs, hP, hLi, hsk⟩ := hrel
    have HP := Lib.hid hP
    have HSK := Lib.hid hsk
    clear hP hsk HPL
    by_cases hi : i < n
    · have hil : i < acl.length := by rw [HLN.out]; exact hi
      have hi' : (i : Int) < n := by omega
      obtain ⟨g, o, hae, hg, hcs⟩ := HP.out.ac.1.act i hil
      have HAI := Lib.hid (HOK.out _ (List.getElem_mem hil))
      generalize acl[i] = ac at *
      have c0 : wr.cell? ⟨g, o + i * 7, none⟩ = some (.int .i64 ac.dx) := hcs 0 _ rfl
      have c1 : wr.cell? ⟨g, o + i * 7 + 1, none⟩ = some (.int .i64 ac.now) := hcs 1 _ rfl
      have c2 : wr.cell? ⟨g, o + i * 7 + 2, none⟩ = some (.int .i64 ac.p) := hcs 2 _ rfl
      have c3 : wr.cell? ⟨g, o + i * 7 + 3, none⟩ = some (.int .i64 ac.t) := hcs 3 _ rfl
      have c4 : wr.cell? ⟨g, o + i * 7 + 4, none⟩ = some (.int .i64 ac.a) := hcs 4 _ rfl
      have c5 : wr.cell? ⟨g, o + i * 7 + 5, none⟩ = some (.int .i64 ac.b) := hcs 5 _ rfl
      have c6 : wr.cell? ⟨g, o + i * 7 + 6, none⟩ = some (.int .i64 ac.f) := hcs 6 _ rfl
      subst hae
      clear hcs
      go_upto_region 12 with (fail)
      have hqa : Q wr (wr.alloc (.cells #[.int .i64 ac.dx, .int .i64 ac.now, .int .i64 ac.p, .int .i64 ac.t, .int .i64 ac.a, .int .i64 ac.b, .int .i64 ac.f] 36)) := (Q.refl wr).alloc _
      have HG : Hid (Box (wr.alloc (.cells #[.int .i64 ac.dx, .int .i64 ac.now, .int .i64 ac.p, .int .i64 ac.t, .int .i64 ac.a, .int .i64 ac.b, .int .i64 ac.f] 36)) wr.heap.size (a22C ac)) := Lib.hid (Box.new wr (a22C ac) 36)
      have HP8 := Lib.hid (HP.out.q' hqa)
      have HG0 := Lib.hid (show col wr.heap.size = 0 ∧ ¬ wr.heap.size = RB from ⟨HP.out.que.new0 _ (Nat.le_refl _), fun e => by have := HP.out.box.1; omega⟩)
      clear c0 c1 c2 c3 c4 c5 c6 hg HP hqa
      generalize wr.alloc (.cells #[.int .i64 ac.dx, .int .i64 ac.now, .int .i64 ac.p, .int .i64 ac.t, .int .i64 ac.a, .int .i64 ac.b, .int .i64 ac.f] 36) = w8 at *
      generalize wr.heap.size = G at *
      have hac0 := HAI.out.n0
      have hac1 := HAI.out.n1
      have HAT := Lib.hid (show -9223372036854775808 ≤ ac.t ∧ ac.t ≤ 9223372036854775807 by have h1 := HAI.out.t0; have h2 := HAI.out.t1; omega)
      have d0 : w8.cell? ⟨G, 0, none⟩ = some (.int .i64 ac.dx) := (HG.out.2 0 _ rfl).1
      have hGl := HG.out.1
      go_upto_if 46 with (fail)
      clear d0 hGl
      go_cut [] (fun wx => ∃ col s L la lc ra rc ma mc cs, PlayAt w wx B RB col s L la lc ra rc ma mc cs (some ⟨g, o, none⟩) n cap acl ∧ L.length ≤ i + 1 ∧ s.k = k)
      case first =>
        by_cases hdx : ac.dx = 1
        · have hd1 : (ac.dx == 1) = true := by simpa using hdx
          obtain ⟨lR, c0, c1, c2, c3, c4⟩ := Box.here5 HP8.out.box
          have d1 : w8.cell? ⟨G, 1, none⟩ = some (.int .i64 ac.now) := (HG.out.2 1 _ rfl).1
          have hGl := HG.out.1
          clear hdx
          go_wp2_with (fail)
          refine (rAdvance_any (fun b => b < w8.heap.size ∧ col b = 0 ∧ ¬ b = RB) s L la lc ra rc ma mc cs ac.now w8 HP8.out.ref.1 HP8.out.ok (by omega) (fun b hb => hb.1) HP8.out.cl0).mono ?_
          rintro e w9 ⟨ra9, rc9, ma9, mc9, cs9, rfl, hR9, hq9, hC9⟩
          have HRO9 := Lib.hid (HP8.out.adv hq9 hR9 hC9)
          have HP9 := Lib.hid (HP8.out.q' hq9)
          have HG9 := Lib.hid (HG.out.q hq9)
          have HO9 := Lib.hid (ok_adv HP8.out.ok ac.now)
          have HIS := Lib.hid (adv_is s ac.now HP8.out.ok.n6000)
          clear hR9 hq9 hC9 lR c0 c1 c2 c3 c4 d1 hGl
          unfold rqA
          rw [HIS.out.k, HIS.out.wt]
          have HLE := Lib.hid HIS.out.le
          have HKK := Lib.hid (show (advT s ac.now).k = s.k ∧ (advT s ac.now).wt = s.wt from ⟨HIS.out.k, HIS.out.wt⟩)
          clear HIS HP8 HG
          obtain ⟨s9, hs9⟩ : ∃ s9, advT s ac.now = s9 := ⟨_, rfl⟩
          have HS9 := Lib.hid hs9
          rw [hs9] at HRO9 HO9 HLE HKK ⊢
          clear hs9
          have hl9 := HO9.out.n6000
          have hls := HP9.out.ok.n6000
          go_upto_region 14 with (fail)
          have hqa : Q w9 (w9.alloc (.cells #[.int .i64 s.k, .int .i64 s.wt, .slice la L.length lc, .slice ra9 s9.tks.length rc9, .slice ma9 s9.tks.length mc9] 30)) := (Q.refl w9).alloc _
          have HNX : Hid (Box (w9.alloc (.cells #[.int .i64 s.k, .int .i64 s.wt, .slice la L.length lc, .slice ra9 s9.tks.length rc9, .slice ma9 s9.tks.length mc9] 30)) w9.heap.size [.int .i64 s.k, .int .i64 s.wt, .slice la L.length lc, .slice ra9 s9.tks.length rc9, .slice ma9 s9.tks.length mc9]) := Lib.hid (Box.new w9 _ 30)
          have HN0 := Lib.hid (show col w9.heap.size = 0 from HP9.out.que.new0 _ (Nat.le_refl _))
          have HP10 := Lib.hid (HP9.out.q' hqa)
          have HRO10 := Lib.hid (HRO9.out.1.q hqa)
          have HCL := Lib.hid HRO9.out.2
          have HG10 := Lib.hid (HG9.out.q hqa)
          clear hqa HP9 HRO9 HG9
          generalize w9.alloc (.cells #[.int .i64 s.k, .int .i64 s.wt, .slice la L.length lc, .slice ra9 s9.tks.length rc9, .slice ma9 s9.tks.length mc9] 30) = w10 at *
          generalize w9.heap.size = NB at *
          refine wp_region_mixF (F := colF col) [(0, true), (1, true), (2, true), (4, true), (5, true), (6, true), (7, true), (8, true), (9, true), (10, true), (3, false), (11, true)] (by kernel_rfl) (by kernel_rfl) (fun _ _ _ _ _ h => h) ?_
          have hqd : Q w10 w10.drew := (Q.refl w10).drew
          have HP11 := Lib.hid (HP10.out.q' hqd)
          have HRO11 := Lib.hid (HRO10.out.q hqd)
          have HG11 := Lib.hid (HG10.out.q hqd)
          have HNX11 := Lib.hid (HNX.out.q hqd)
          clear hqd HP10 HRO10 HG10 HNX
          generalize w10.drew = W at *
          have nf : ∀ b, col b = 0 → ¬ colF col b := fun b h hf => hf h
          have y0 : ∀ y : AfterF (colF col) W, y.w.cell? ⟨G, 1, none⟩ = some (.int .i64 ac.now) := Box.sF HG11.out (nf G HG0.out.1) 1 _ rfl
          have y1 : ∀ y : AfterF (colF col) W, y.w.cell? ⟨NB, 3, none⟩ = some (.slice ra9 s9.tks.length rc9) := Box.sF HNX11.out (nf NB HN0.out) 3 _ rfl
          have y2 : ∀ y : AfterF (colF col) W, y.w.cell? ⟨RB, 3, none⟩ = some (.slice ra s.tks.length rc) := Box.sF HP11.out.box (nf RB HP11.out.rb.1) 3 _ rfl
          have hle := HLE.out
          repeat (refine mixF_val rfl rfl ?_; go_big_quiet_step (fail); refine wpQuiet_nil ?_)
          clear y0 y1 y2 nf
          refine mixF_run rfl rfl ?_
          intro K hK
          go_wp2_with (fail)
          refine (qAdvance_any B col s ac.now W HP11.out.que HP11.out.ok (by omega)).mono ?_
          rw [HS9.out]
          rintro e w12 ⟨rfl, hd⟩
          obtain ⟨col4, h1, h2, h3, h4, h5⟩ := qstep HP11.out.q HP11.out.z hd
          refine hK _ _ h5 ?_
          clear hK K
          have HQ12 := Lib.hid h1
          have Hq12 := Lib.hid h2
          have HZ12 := Lib.hid h3
          have HRO12 := Lib.hid (HRO11.out.done h4 h5)
          have HBR12 := Lib.hid (BoxO.done HP11.out.box HP11.out.rb.1 h4 h5)
          have HNX12 := Lib.hid (BoxO.done HNX11.out HN0.out h4 h5)
          have HAC12 := Lib.hid (HP11.out.ac.done h4 h5)
          have HAN := Lib.hid HP11.out.an
          have HRB12 := Lib.hid HP11.out.rb.2
          clear hd h1 h2 h3 h4 h5 HP11 HRO11 HG11 HNX11
          have hsub : (((s9.tks.length : Int) - (s.tks.length : Int)) != ((s9.tks.length : Int) - (s.tks.length : Int))) = false := by simp
          repeat (refine mixF_val rfl rfl ?_; go_big_quiet_step (fail); refine wpQuiet_nil ?_)
          refine mixF_end ?_
          obtain ⟨lN, n0, n1, n2, n3, n4⟩ := Box.here5 HNX12.out.1
          obtain ⟨lR, c0, c1, c2, c3, c4⟩ := Box.here5 HBR12.out.1
          obtain ⟨f0, f1, f2, f3, f4⟩ := Box.free5 HBR12.out.1
          go_wp2_with (fail)
          go_meet
          have hst := play_store HQ12.out HO9.out HRO12.out HBR12.out.1 ⟨HBR12.out.2, HRB12.out⟩ HCL.out Hq12.out HZ12.out HAC12.out HAN.out
          rw [HKK.out.1, HKK.out.2] at hst
          exact ⟨col4, s9, L, la, lc, ra9, rc9, ma9, mc9, cs9, hst, by omega, by rw [HKK.out.1]; exact HSK.out⟩
        · have hd1 : (ac.dx == 1) = false := by simpa using hdx
          obtain ⟨lR, c0, c1, c2, c3, c4⟩ := Box.here5 HP8.out.box
          have d1 : w8.cell? ⟨G, 1, none⟩ = some (.int .i64 ac.now) := (HG.out.2 1 _ rfl).1
          have d2 : w8.cell? ⟨G, 2, none⟩ = some (.int .i64 ac.p) := (HG.out.2 2 _ rfl).1
          have d3 : w8.cell? ⟨G, 3, none⟩ = some (.int .i64 ac.t) := (HG.out.2 3 _ rfl).1
          have d4 : w8.cell? ⟨G, 4, none⟩ = some (.int .i64 ac.a) := (HG.out.2 4 _ rfl).1
          have d5 : w8.cell? ⟨G, 5, none⟩ = some (.int .i64 ac.b) := (HG.out.2 5 _ rfl).1
          have d6 : w8.cell? ⟨G, 6, none⟩ = some (.int .i64 ac.f) := (HG.out.2 6 _ rfl).1
          have hGl := HG.out.1
          clear hdx
          go_wp2_with (fail)
          refine (rOffer_any s L la lc ra rc ma mc cs ac.now ac.p ac.t ac.a ac.b ac.f w8 HP8.out.ref.1 (by omega) HP8.out.ok (by omega)).mono ?_
          rintro e w9 ⟨L9, la9, lc9, rfl, hR9, hq9, hL9, hla9⟩
          have HRO9 := Lib.hid (HP8.out.off hq9 hR9 hla9)
          have HP9 := Lib.hid (HP8.out.q' hq9)
          have HG9 := Lib.hid (HG.out.q hq9)
          have HO9 := Lib.hid (ok_off HP8.out.ok ac.now ac.p ac.t ac.a ac.b ac.f)
          have HSM := Lib.hid (offT_same' s ac.now ac.p ac.t ac.a ac.b ac.f)
          have HTE : (offT s ac.now ac.p ac.t ac.a ac.b ac.f).k = s.k ∧ (offT s ac.now ac.p ac.t ac.a ac.b ac.f).wt = s.wt ∧ (offT s ac.now ac.p ac.t ac.a ac.b ac.f).tks.length = s.tks.length := ⟨HSM.out.1, HSM.out.2.1, by rw [HSM.out.2.2]⟩
          unfold rqA
          rw [HTE.1, HTE.2.1, HTE.2.2]
          have HKK := Lib.hid HTE
          clear hR9 hq9 hla9 lR c0 c1 c2 c3 c4 d1 d2 d3 d4 d5 d6 hGl HSM HTE HP8 HG
          go_upto_region 18 with (fail)
          have hqa : Q w9 (w9.alloc (.cells #[.int .i64 s.k, .int .i64 s.wt, .slice la9 L9.length lc9, .slice ra s.tks.length rc, .slice ma s.tks.length mc] 30)) := (Q.refl w9).alloc _
          have HNX : Hid (Box (w9.alloc (.cells #[.int .i64 s.k, .int .i64 s.wt, .slice la9 L9.length lc9, .slice ra s.tks.length rc, .slice ma s.tks.length mc] 30)) w9.heap.size [.int .i64 s.k, .int .i64 s.wt, .slice la9 L9.length lc9, .slice ra s.tks.length rc, .slice ma s.tks.length mc]) := Lib.hid (Box.new w9 _ 30)
          have HN0 := Lib.hid (show col w9.heap.size = 0 from HP9.out.que.new0 _ (Nat.le_refl _))
          have HP10 := Lib.hid (HP9.out.q' hqa)
          have HRO10 := Lib.hid (HRO9.out.1.q hqa)
          have HCL := Lib.hid HRO9.out.2
          have HG10 := Lib.hid (HG9.out.q hqa)
          clear hqa HP9 HRO9 HG9
          generalize w9.alloc (.cells #[.int .i64 s.k, .int .i64 s.wt, .slice la9 L9.length lc9, .slice ra s.tks.length rc, .slice ma s.tks.length mc] 30) = w10 at *
          generalize w9.heap.size = NB at *
          have d1 : w10.cell? ⟨G, 1, none⟩ = some (.int .i64 ac.now) := (HG10.out.2 1 _ rfl).1
          have d2 : w10.cell? ⟨G, 2, none⟩ = some (.int .i64 ac.p) := (HG10.out.2 2 _ rfl).1
          have d3 : w10.cell? ⟨G, 3, none⟩ = some (.int .i64 ac.t) := (HG10.out.2 3 _ rfl).1
          have d4 : w10.cell? ⟨G, 4, none⟩ = some (.int .i64 ac.a) := (HG10.out.2 4 _ rfl).1
          have d5 : w10.cell? ⟨G, 5, none⟩ = some (.int .i64 ac.b) := (HG10.out.2 5 _ rfl).1
          have d6 : w10.cell? ⟨G, 6, none⟩ = some (.int .i64 ac.f) := (HG10.out.2 6 _ rfl).1
          have hGl := HG10.out.1
          go_wp2_with (fail)
          refine (qOffer_any B col s ac.now ac.p ac.t ac.a ac.b ac.f _ HP10.out.que HP10.out.ok (by omega) HAT.out).mono ?_
          rintro e w12 ⟨rfl, hd⟩
          obtain ⟨col4, h1, h2, h3, h4, h5⟩ := qstep HP10.out.q HP10.out.z hd
          have HQ12 := Lib.hid h1
          have Hq12 := Lib.hid h2
          have HZ12 := Lib.hid h3
          have HRO12 := Lib.hid (HRO10.out.done h4 h5)
          have HBR12 := Lib.hid (BoxO.done HP10.out.box HP10.out.rb.1 h4 h5)
          have HNX12 := Lib.hid (BoxO.done HNX.out HN0.out h4 h5)
          have HAC12 := Lib.hid (HP10.out.ac.done h4 h5)
          have HAN := Lib.hid HP10.out.an
          have HRB12 := Lib.hid HP10.out.rb.2
          clear hd h1 h2 h3 h4 h5 HP10 HRO10 HG10 HNX d1 d2 d3 d4 d5 d6 hGl
          generalize offE s ac.now ac.p ac.t ac.a ac.b ac.f = er at *
          have hee : (er != er) = false := by simp
          obtain ⟨lN, n0, n1, n2, n3, n4⟩ := Box.here5 HNX12.out.1
          obtain ⟨lR, c0, c1, c2, c3, c4⟩ := Box.here5 HBR12.out.1
          obtain ⟨f0, f1, f2, f3, f4⟩ := Box.free5 HBR12.out.1
          go_wp2_with (fail)
          go_meet
          have hst := play_store HQ12.out HO9.out HRO12.out HBR12.out.1 ⟨HBR12.out.2, HRB12.out⟩ HCL.out Hq12.out HZ12.out HAC12.out HAN.out
          rw [HKK.out.1, HKK.out.2.1, HKK.out.2.2] at hst
          exact ⟨col4, _, L9, la9, lc9, ra, rc, ma, mc, cs, hst, by omega, by rw [HKK.out.1]; exact HSK.out⟩
      case rest =>
        obtain ⟨col, s, L, la, lc, ra, rc, ma, mc, cs, hP, hLi2, hsk⟩ := hcut
        have HP2 := Lib.hid hP
        have HSK2 := Lib.hid hsk
        have hls := hP.ok.n6000
        clear hP hsk HP8 HG HG0 hac0 hac1 HAT HAI HSK
        go_upto_region 21 with (fail)
        refine wp_region_mix [(0, true), (2, true), (3, true), (4, true), (1, false), (5, true)] (by kernel_rfl) (by kernel_rfl) (fun _ _ _ _ _ h => h) ?_
        have HP3 := Lib.hid (HP2.out.q' (Q.drew (Q.refl wc)))
        clear HP2
        generalize wc.drew = w3 at *
        have y3 : ∀ y : After w3, y.w.cell? ⟨RB, 3, none⟩ = some _ := Box.sf HP3.out.box 3 _ rfl
        repeat (refine mix_val rfl rfl ?_; go_big_quiet_step (fail); refine wpQuiet_nil ?_)
        clear y3
        refine mix_run rfl rfl ?_
        intro K hK
        go_wp2_with (fail)
        refine (qNext_any B col s _ HP3.out.que).mono ?_
        rintro e w4 ⟨rfl, rfl⟩
        refine hK _ _ (Q.refl _) ?_
        clear hK K
        have hll : ((s.tks.length : Int) != (s.tks.length : Int)) = false := by simp
        repeat (refine mix_val rfl rfl ?_; go_big_quiet_step (fail); refine wpQuiet_nil ?_)
        refine mix_end ?_
        obtain ⟨lR, c0, c1, c2, c3, c4⟩ := Box.here5 HP3.out.box
        obtain ⟨t0, ht0⟩ : ∃ t0 : Nat, max (0 : Int) ((s.tks.length : Int) - 12) = (t0 : Int) := Int.eq_ofNat_of_zero_le (by omega)
        have ht1 : t0 ≤ s.tks.length := by omega
        go_wp2_with (fail)
        clear c0 c1 c2 c3 c4 lR ht0 hll
        go_loopw [17] (fun v wr => ∃ t : Nat, t ≤ s.tks.length + 1 ∧ v = .int .i64 t ∧ PlayAt w wr B RB col s L la lc ra rc ma mc cs (some ⟨g, o, none⟩) n cap acl) (fun v _ => s.tks.length + 1 - (intOf v).toNat)
        case atStart => exact ⟨t0, by omega, rfl, HP3.out⟩
        case round =>
          obtain ⟨t, ht, rfl, hP4⟩ := hrel
          have HP4 := Lib.hid hP4
          obtain ⟨lR, c0, c1, c2, c3, c4⟩ := Box.here5 hP4.box
          clear hP4 HP3
          by_cases htl : t < s.tks.length
          · have hti : (t : Int) ≤ (s.tks.length : Int) := by omega
            have hx : s.tks[t]? = some s.tks[t] := List.getElem?_eq_getElem htl
            have HXX := Lib.hid hx
            clear hx
            go_wp2_with (fail)
            refine (same22_yes B col s L la lc ra rc ma mc cs t s.tks[t] _ HP4.out.que HP4.out.ok HP4.out.ref.1 HXX.out).mono ?_
            rintro e w5 ⟨rfl, hq5⟩
            have HP5 := Lib.hid (HP4.out.q' hq5)
            clear hq5 c0 c1 c2 c3 c4 lR
            go_wp2_with (fail)
            go_roundw
            case rel => exact ⟨t + 1, by omega, by go_num, HP5.out⟩
            case measure => simp [intOf]; omega
          · by_cases hte : t = s.tks.length
            · have hti : (t : Int) ≤ (s.tks.length : Int) := by omega
              have HTE := Lib.hid (show t < 0 ∨ (s.tks.length : Int) ≤ (t : Int) from .inr (by omega))
              clear hte
              go_wp2_with (fail)
              refine (same22_no B col s L la lc ra rc ma mc t _ HP4.out.que (.inr (by omega))).mono ?_
              rintro e w5 ⟨rfl, hq5⟩
              have HP5 := Lib.hid (HP4.out.q' hq5)
              clear hq5 c0 c1 c2 c3 c4 lR
              go_wp2_with (fail)
              go_roundw
              case rel => exact ⟨t + 1, by omega, by go_num, HP5.out⟩
              case measure => simp [intOf]; omega
            · have hti : ¬ (t : Int) ≤ (s.tks.length : Int) := by omega
              go_wp2_with (fail)
              go_roundw
              case rel => exact ⟨i + 1, by omega, by go_num, col, s, L, la, lc, ra, rc, ma, mc, cs, HP4.out, hLi2, HSK2.out⟩
              case measure => simp [intOf]; omega
    · have hge : ¬ (i : Int) < n := by omega
      obtain ⟨lR, c0, c1, c2, c3, c4⟩ := Box.here5 HP.out.box
      go_wp2_with (fail)
      refine (same22_no B col s L la lc ra rc ma mc (-1) _ HP.out.que (.inl (by decide))).mono ?_
      rintro e w4 ⟨rfl, hq4⟩
      have HQ4 := Lib.hid (HP.out.q.trans hq4)
      clear hq4 c0 c1 c2 c3 c4 lR
      go_wp2_with (fail)
      refine (lives22_any _).mono ?_
      rintro e w5 ⟨rfl, hq5⟩
      have HQ5 := Lib.hid (HQ4.out.trans hq5)
      clear hq5
      go_wp2
      go_ret
      exact ⟨rfl, HQ5.out⟩
end Go.Proofs.Ytpoffkkkkieniaa
