/- The walk of InputqueueDeadline. -/
import Derived.Test.YtpoffkkkkieniaaQG
import Derived.Test.YtpoffkkkkieniaaQP
import Derived.Test.YtpoffkkkkieniaaMixF
namespace Go.Proofs.Ytpoffkkkkieniaa
open Go Go.RowKit Go.BigFrame

theorem rowsI64 {w : World} {a : Option Addr} {len cap : Nat} {zs : List Int} (h : IsRow .i64 w a len cap zs) : ∀ z ∈ zs.take len, -9223372036854775808 ≤ z ∧ z ≤ 9223372036854775807 := by
  intro z hz
  rcases h with ⟨_, rfl, _, rfl⟩ | ⟨x, _, _, _, _, _, hw⟩
  · simp at hz
  · exact wf_i64 (hw z (List.mem_of_mem_take hz))
/-- the call that the law looks at, in a block of its own -/
theorem Sl.act {w : World} {a : Option Addr} {n cap : Nat} {l : List A22} (h : Sl w 7 a n cap (l.flatMap a22C)) (i : Nat) (hi : i < l.length) : ∃ g o, a = some ⟨g, o, none⟩ ∧ g < w.heap.size ∧ ∀ (j : Nat) u, (a22C l[i])[j]? = some u → w.cell? ⟨g, o + i * 7 + j, none⟩ = some u := by
  have hn : l.length = n := by have := h.1; rw [flatL a22C 7 a22C_len] at this; omega
  obtain ⟨g, o, ha, hg, hc⟩ := h.pos (by omega)
  refine ⟨g, o, ha, hg, fun j u hu => ?_⟩
  have hj : j < 7 := by
    rcases Nat.lt_or_ge j 7 with h' | h'
    · exact h'
    · rw [List.getElem?_eq_none (by rw [a22C_len]; exact h')] at hu; cases hu
  have := hc (i * 7 + j) u (by rw [flatG a22C 7 a22C_len l i j hi hj]; exact hu)
  rw [← Nat.add_assoc] at this
  exact this
set_option maxRecDepth 100000 in
set_option maxHeartbeats 2000000 in
theorem deadline_walk (players wait : Int) (a2 : Option Addr) (len2 cap2 : Nat) (z2 : List Int) (w : World) (w0 : (Lit.int .i64 players).wf = true) (w1 : (Lit.int .i64 wait).wf = true) (w2 : IsRow .i64 w a2 len2 cap2 z2) :
    Calls Try.prog 5 #[.int .i64 players, .int .i64 wait, .slice a2 len2 cap2] w fun e w' => e = .returned (.bool true) ∧ Q w w' := by
  have G0 := Lib.hid (wf_i64 w0)
  have G1 := Lib.hid (wf_i64 w1)
  have S2 := Lib.hid (Sl.of_row w2)
  have R2 := Lib.hid (rowsI64 w2)
  clear w0 w1 w2
  generalize z2.take len2 = zl at *
  go_enter Try.func5, Try.ntmps5
  go_wp2_with (fail)
  refine (around_any players 8 _ G0.out (by omega)).mono ?_
  rintro e w1 ⟨rfl, rfl⟩
  have p0 := aroundZ_lo players 8 (by omega)
  have p1 := aroundZ_hi players 8 (by omega)
  obtain ⟨k0, hk0⟩ := Int.eq_ofNat_of_zero_le p0
  rw [hk0] at p1 ⊢
  have hkz : (1 : Int) + k0 = ((k0 + 1 : Nat) : Int) := by omega
  have hk8 : k0 + 1 ≤ 8 := by omega
  have hk1 : 1 ≤ k0 + 1 := by omega
  generalize k0 + 1 = k at *
  clear hk0 p0 p1
  go_wp2_with (fail)
  clear hkz
  refine (around_any wait 9 _ G1.out (by omega)).mono ?_
  rintro e w1 ⟨rfl, rfl⟩
  have p0 := aroundZ_lo wait 9 (by omega)
  have p1 := aroundZ_hi wait 9 (by omega)
  obtain ⟨wt, hwt⟩ := Int.eq_ofNat_of_zero_le p0
  rw [hwt] at p1 ⊢
  have hw8 : wt ≤ 8 := by omega
  clear hwt p0 p1
  go_wp2_with (fail)
  refine (qNew_any k wt _).mono ?_
  rintro e w1 ⟨B, col, rfl, hQ, hq, hc⟩
  have HQ1 := Lib.hid hQ
  have Hq1 := Lib.hid hq
  have HC1 := Lib.hid hc
  clear hQ hq hc
  go_wp2_with (fail)
  refine (acts22_any a2 len2 cap2 k zl _ (S2.out.q Hq1.out) R2.out hk1 hk8).mono ?_
  rintro e w2 ⟨a, cap, rfl, hown, hq⟩
  have HS := Lib.hid (SlO.new HQ1.out hown)
  have HQ2 := Lib.hid (HQ1.out.q hq)
  have Hq2 := Lib.hid (Hq1.out.trans hq)
  have hlz : (zl.take 40).length = min len2 40 := by
    have := S2.out.1
    simp at this
    rw [List.length_take, this, Nat.min_comm]
  have HLN := Lib.hid (show (acts22 k (zl.take 40)).length = min len2 40 by rw [acts22_len, hlz])
  have HOK := Lib.hid (acts22_ok k (zl.take 40) (by omega) (by rw [hlz]; omega))
  have hn40 : min len2 40 ≤ 40 := by omega
  clear hown hq hlz HQ1 Hq1
  generalize acts22 k (zl.take 40) = acl at *
  generalize min len2 40 = n at *
  go_wp2_with (fail)
  go_loopw [11] (fun v wr => ∃ i : Nat, i ≤ n ∧ v = .int .i64 i ∧ ∃ col' s', Que wr B col' s' ∧ OkS s' ∧ s'.k = k ∧ s'.wt = wt ∧ SlO wr col' 7 a n cap (acl.flatMap a22C) ∧ Q w wr ∧ ∀ b, b < w.heap.size → col' b = 0) (fun v _ => n - (intOf v).toNat)
  case atStart => exact ⟨0, by omega, rfl, col, qs0 k wt, HQ2.out, ok0 hk1 hk8 hw8, rfl, rfl, HS.out, Hq2.out, HC1.out⟩
  case round =>
    obtain ⟨i, hin, rfl, col', s', hQ', ok', hk', hw', hS', hq', hc'⟩ := hrel
    have HQr := Lib.hid hQ'
    have HOr := Lib.hid ok'
    have HKr := Lib.hid hk'
    have HWr := Lib.hid hw'
    have HSr := Lib.hid hS'
    have Hqr := Lib.hid hq'
    have HCr := Lib.hid hc'
    clear hQ' ok' hk' hw' hS' hq' hc' HQ2 HS Hq2 HC1
    by_cases hi : i < n
    · have hil : i < acl.length := by rw [HLN.out]; exact hi
      have hi' : (i : Int) < n := by omega
      obtain ⟨g, o, rfl, hg, hcs⟩ := HSr.out.1.act i hil
      have HAI := Lib.hid (HOK.out _ (List.getElem_mem hil))
      generalize acl[i] = ac at *
      have c0 : wr.cell? ⟨g, o + i * 7, none⟩ = some (.int .i64 ac.dx) := hcs 0 _ rfl
      have c1 : wr.cell? ⟨g, o + i * 7 + 1, none⟩ = some (.int .i64 ac.now) := hcs 1 _ rfl
      have c2 : wr.cell? ⟨g, o + i * 7 + 2, none⟩ = some (.int .i64 ac.p) := hcs 2 _ rfl
      have c3 : wr.cell? ⟨g, o + i * 7 + 3, none⟩ = some (.int .i64 ac.t) := hcs 3 _ rfl
      have c4 : wr.cell? ⟨g, o + i * 7 + 4, none⟩ = some (.int .i64 ac.a) := hcs 4 _ rfl
      have c5 : wr.cell? ⟨g, o + i * 7 + 5, none⟩ = some (.int .i64 ac.b) := hcs 5 _ rfl
      have c6 : wr.cell? ⟨g, o + i * 7 + 6, none⟩ = some (.int .i64 ac.f) := hcs 6 _ rfl
      clear hcs
      go_upto_region 11 with (fail)
      have HG : Hid (Box (wr.alloc (.cells #[.int .i64 ac.dx, .int .i64 ac.now, .int .i64 ac.p, .int .i64 ac.t, .int .i64 ac.a, .int .i64 ac.b, .int .i64 ac.f] 36)) wr.heap.size (a22C ac)) := Lib.hid (Box.new wr (a22C ac) 36)
      have HQ8 := Lib.hid (HQr.out.q ((Q.refl wr).alloc (.cells #[.int .i64 ac.dx, .int .i64 ac.now, .int .i64 ac.p, .int .i64 ac.t, .int .i64 ac.a, .int .i64 ac.b, .int .i64 ac.f] 36)))
      have HS8 := Lib.hid (HSr.out.q ((Q.refl wr).alloc (.cells #[.int .i64 ac.dx, .int .i64 ac.now, .int .i64 ac.p, .int .i64 ac.t, .int .i64 ac.a, .int .i64 ac.b, .int .i64 ac.f] 36)))
      have Hq8 := Lib.hid (Hqr.out.alloc (.cells #[.int .i64 ac.dx, .int .i64 ac.now, .int .i64 ac.p, .int .i64 ac.t, .int .i64 ac.a, .int .i64 ac.b, .int .i64 ac.f] 36))
      have HG0 := Lib.hid (show col' wr.heap.size = 0 from HQr.out.new0 _ (Nat.le_refl _))
      clear c0 c1 c2 c3 c4 c5 c6 hg HSr HQr Hqr
      generalize wr.alloc (.cells #[.int .i64 ac.dx, .int .i64 ac.now, .int .i64 ac.p, .int .i64 ac.t, .int .i64 ac.a, .int .i64 ac.b, .int .i64 ac.f] 36) = w8 at *
      generalize wr.heap.size = G at *
      have hac0 := HAI.out.n0
      have hac1 := HAI.out.n1
      have d0 : w8.cell? ⟨G, 0, none⟩ = some (.int .i64 ac.dx) := (HG.out.2 0 _ rfl).1
      have d1 : w8.cell? ⟨G, 1, none⟩ = some (.int .i64 ac.now) := (HG.out.2 1 _ rfl).1
      have d2 : w8.cell? ⟨G, 2, none⟩ = some (.int .i64 ac.p) := (HG.out.2 2 _ rfl).1
      have d3 : w8.cell? ⟨G, 3, none⟩ = some (.int .i64 ac.t) := (HG.out.2 3 _ rfl).1
      have d4 : w8.cell? ⟨G, 4, none⟩ = some (.int .i64 ac.a) := (HG.out.2 4 _ rfl).1
      have d5 : w8.cell? ⟨G, 5, none⟩ = some (.int .i64 ac.b) := (HG.out.2 5 _ rfl).1
      have d6 : w8.cell? ⟨G, 6, none⟩ = some (.int .i64 ac.f) := (HG.out.2 6 _ rfl).1
      have HAT := Lib.hid (show -9223372036854775808 ≤ ac.t ∧ ac.t ≤ 9223372036854775807 by have h1 := HAI.out.t0; have h2 := HAI.out.t1; omega)
      by_cases hdx : ac.dx = 0
      · have hd0 : (ac.dx == 0) = true := by simpa using hdx
        clear hdx
        go_wp2_with (fail)
        refine (qOffer_any B col' s' ac.now ac.p ac.t ac.a ac.b ac.f _ HQ8.out HOr.out (by omega) HAT.out).mono ?_
        rintro e w9 ⟨rfl, hd⟩
        obtain ⟨col9, h1, h2, h3, h4, h5⟩ := qstep Hq8.out HCr.out hd
        have HX := Lib.hid (show _ from And.intro h1 (And.intro (ok_off HOr.out ac.now ac.p ac.t ac.a ac.b ac.f) (And.intro (HS8.out.done h4 h5) (And.intro h2 h3))))
        have HK9 := Lib.hid (show (offT s' ac.now ac.p ac.t ac.a ac.b ac.f).k = k ∧ (offT s' ac.now ac.p ac.t ac.a ac.b ac.f).wt = wt from by unfold offT; split <;> exact ⟨HKr.out, HWr.out⟩)
        clear hd h1 h2 h3 h4 h5 d0 d1 d2 d3 d4 d5 d6
        go_wp2_with (fail)
        go_roundw
        case rel => exact ⟨i + 1, by omega, by go_num, col9, _, HX.out.1, HX.out.2.1, HK9.out.1, HK9.out.2, HX.out.2.2.1, HX.out.2.2.2.1, HX.out.2.2.2.2⟩
        case measure => simp [intOf]; omega
      · have hd0 : (ac.dx == 0) = false := by simpa using hdx
        clear hdx
        go_wp2_with (fail)
        refine (qNext_any B col' s' _ HQ8.out).mono ?_
        rintro e w9 ⟨rfl, rfl⟩
        go_wp2_with (fail)
        refine (qAdvance_any B col' s' ac.now _ HQ8.out HOr.out (by omega)).mono ?_
        rintro e w9 ⟨rfl, hd⟩
        obtain ⟨col9, h1, h2, h3, h4, h5⟩ := qstep Hq8.out HCr.out hd
        have HQ9 := Lib.hid h1
        have Hq9 := Lib.hid h2
        have HC9 := Lib.hid h3
        have HS9 := Lib.hid (HS8.out.done h4 h5)
        have HG9 := Lib.hid (BoxO.done HG.out HG0.out h4 h5)
        have HO9 := Lib.hid (ok_adv HOr.out ac.now)
        have HLA := Lib.hid (deadline_law s' HOr.out ac.now (by omega))
        have HK9 := Lib.hid (show (advT s' ac.now).k = k ∧ (advT s' ac.now).wt = wt from ⟨(adv_is s' ac.now HOr.out.n6000).k.trans HKr.out, (adv_is s' ac.now HOr.out.n6000).wt.trans HWr.out⟩)
        have hlen0 := HOr.out.n6000
        have hlen1 := HO9.out.n6000
        rw [HWr.out] at HLA
        clear hd h1 h2 h3 h4 h5 d0 d1 d2 d3 d4 d5 d6 HQ8 HS8 Hq8 HG HG0
        generalize advT s' ac.now = s9 at *
        have hle := HLA.out.1
        have hge := HLA.out.2.1
        have hb1 : decide ((s9.tks.length : Int) < ac.now - wt + 1) = false := by simpa using hle
        have hb2 : decide (s9.tks.length < s'.tks.length) = false := by simpa using hge
        go_wp2_with (fail)
        refine wp_region_mix [(0, true), (2, true), (3, true), (4, true), (5, true), (6, true), (1, false), (7, true), (8, true), (9, true), (11, true), (10, false), (12, true), (13, true)] (by kernel_rfl) (by kernel_rfl) (fun _ _ _ _ _ h => h) ?_
        have HQW := Lib.hid (HQ9.out.q (Q.drew (Q.refl w9)))
        have HqW := Lib.hid (Hq9.out.drew)
        have HSW := Lib.hid (HS9.out.q (Q.drew (Q.refl w9)))
        have HGW := Lib.hid (Box.q HG9.out.1 (Q.drew (Q.refl w9)))
        clear HQ9 Hq9 HS9 HG9
        generalize w9.drew = W at *
        have d1 : ∀ x : After W, x.w.cell? ⟨G, 1, none⟩ = some (.int .i64 ac.now) := Box.sf HGW.out 1 _ rfl
        repeat (refine mix_val rfl rfl ?_; go_big_quiet_step (fail); refine wpQuiet_nil ?_)
        refine mix_run rfl rfl ?_
        intro K hK
        go_wp2_with (fail)
        refine (qNext_any B col9 s9 _ HQW.out).mono ?_
        rintro e wz ⟨rfl, rfl⟩
        refine hK _ _ (Q.refl _) ?_
        clear hK K
        repeat (refine mix_val rfl rfl ?_; go_big_quiet_step (fail); refine wpQuiet_nil ?_)
        refine mix_run rfl rfl ?_
        intro K hK
        go_wp2_with (fail)
        refine (qNext_any B col9 s9 _ HQW.out).mono ?_
        rintro e wz ⟨rfl, rfl⟩
        refine hK _ _ (Q.refl _) ?_
        clear hK K
        repeat (refine mix_val rfl rfl ?_; go_big_quiet_step (fail); refine wpQuiet_nil ?_)
        refine mix_end ?_
        clear d1
        have d1 : W.cell? ⟨G, 1, none⟩ = some (.int .i64 ac.now) := (HGW.out.2 1 _ rfl).1
        have hGl := HGW.out.1
        rcases (show ac.now - wt + 1 ≤ (s'.tks.length : Int) ∨ (s'.tks.length : Int) < ac.now - wt + 1 from by omega) with hcm | hcm
        all_goals
          go_wp2_with (fail)
          clear d1 hGl hb1 hb2
          have HLE := Lib.hid hle
          clear hle
          go_loopw [14] (fun v wx => ∃ t : Nat, v = .int .i64 t ∧ s'.tks.length ≤ t ∧ ac.now - wt + 1 ≤ (t : Int) ∧ t ≤ s9.tks.length ∧ Que wx B col9 s9 ∧ SlO wx col9 7 (some ⟨g, o, none⟩) n cap (acl.flatMap a22C) ∧ Q w wx) (fun v _ => s9.tks.length - (intOf v).toNat)
          case atStart =>
            have hle := HLE.out
            first
              | exact ⟨s'.tks.length, rfl, Nat.le_refl _, by omega, hge, HQW.out, HSW.out, HqW.out⟩
              | exact ⟨(ac.now - wt + 1).toNat, by rw [Int.toNat_of_nonneg (by omega)], by omega, by omega, by omega, HQW.out, HSW.out, HqW.out⟩
          case round =>
            obtain ⟨t, rfl, ht0, ht1, ht2, hQt, hSt, hqt⟩ := hrel
            have HQt := Lib.hid hQt
            have HSt := Lib.hid hSt
            have Hqt := Lib.hid hqt
            clear hQt hSt hqt
            by_cases ht : t < s9.tks.length
            · have hti : (t : Int) < s9.tks.length := by omega
              obtain ⟨x, hx⟩ : ∃ x, s9.tks[t]? = some x := ⟨_, List.getElem?_eq_getElem ht⟩
              have HMS := Lib.hid (HLA.out.2.2 t x ht0 ht1 hx)
              have HXk := Lib.hid (HO9.out.tk1 x (List.mem_of_getElem? hx))
              have HX := Lib.hid hx
              clear hx
              go_wp2_with (fail)
              refine (qNext_any B col9 s9 _ HQt.out).mono ?_
              rintro e wz ⟨rfl, rfl⟩
              go_wp2_with (fail)
              refine (qFixed_yes B col9 s9 t x _ HQt.out HO9.out HX.out).mono ?_
              rintro e wz ⟨fa, fca, fb, fcb, rfl, _, hfb, hqz⟩
              have HFB := Lib.hid (Sl.of_own hfb)
              have HQz := Lib.hid (HQt.out.q hqz)
              have HSz := Lib.hid (HSt.out.q hqz)
              have Hqz := Lib.hid (Hqt.out.trans hqz)
              have hx8 : x.2.length ≤ 8 := by have h1 := HXk.out.2.1; have h2 := HO9.out.k8; omega
              clear hfb hqz
              go_wp2_with (fail)
              go_loopw [18] (fun v wx => ∃ p : Nat, v = .int .i64 p ∧ p ≤ x.2.length ∧ Q wz wx) (fun v _ => x.2.length - (intOf v).toNat)
              case atStart => exact ⟨0, rfl, by omega, Q.refl _⟩
              case round =>
                obtain ⟨p, rfl, hp, hqp⟩ := hrel
                have HQP := Lib.hid hqp
                clear hqp
                by_cases hpl : p < x.2.length
                · have hpi : (p : Int) < x.2.length := by omega
                  obtain ⟨bg, bo, rfl, hbg, hbc⟩ := (HFB.out.q HQP.out).pos (by omega)
                  have hcell : wr.cell? ⟨bg, bo + p, none⟩ = some (.bool false) := hbc p _ (by
                    rw [List.getElem?_map, List.getElem?_eq_getElem hpl, HMS.out _ (List.getElem_mem hpl)]; rfl)
                  clear hbc
                  go_wp2_with (fail)
                  go_roundw
                  case rel => exact ⟨p + 1, by go_num, by omega, HQP.out⟩
                  case measure => simp [intOf]; omega
                · have hpi : ¬ (p : Int) < x.2.length := by omega
                  go_wp2_with (fail)
                  go_roundw
                  case rel => exact ⟨t + 1, by go_num, by omega, by omega, by omega, HQz.out.q HQP.out, HSz.out.q HQP.out, Hqz.out.trans HQP.out⟩
                  case measure => simp [intOf]; omega
            · have hti : ¬ (t : Int) < s9.tks.length := by omega
              go_wp2_with (fail)
              refine (qNext_any B col9 s9 _ HQt.out).mono ?_
              rintro e wz ⟨rfl, rfl⟩
              go_wp2_with (fail)
              go_roundw
              case rel => exact ⟨i + 1, by omega, by go_num, col9, s9, HQt.out, HO9.out, HK9.out.1, HK9.out.2, HSt.out, Hqt.out, HC9.out⟩
              case measure => simp [intOf]; omega
    · have hi' : ¬ (i : Int) < n := by omega
      go_wp2_with (fail)
      refine (lives22_any _).mono ?_
      rintro e w10 ⟨rfl, hq⟩
      have Hq10 := Lib.hid (Hqr.out.trans hq)
      clear hq
      go_wp2
      go_ret
      exact ⟨rfl, Hq10.out⟩
end Go.Proofs.Ytpoffkkkkieniaa
