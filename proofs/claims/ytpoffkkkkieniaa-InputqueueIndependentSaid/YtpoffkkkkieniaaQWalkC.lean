/- The walk of InputqueueIndependent. -/
import Derived.Test.YtpoffkkkkieniaaQWalkB
import Derived.Test.YtpoffkkkkieniaaQN
namespace Go.Proofs.Ytpoffkkkkieniaa
open Go Go.RowKit Go.BigFrame

theorem offE_eq {p : Nat} {a b : QS} (h : Sim p a b) (x y : A22) (h1 : y.now = x.now) (h2 : y.p = x.p) (h3 : y.t = x.t) (hv : errV x.a x.b x.f = errV y.a y.b y.f) : offE a x.now x.p x.t x.a x.b x.f = offE b y.now y.p y.t y.a y.b y.f := by
  rw [h1, h2, h3]; exact h.offE _ _ _ _ _ _ _ _ _ hv
set_option maxRecDepth 100000 in
set_option maxHeartbeats 2000000 in
theorem independent_walk (players wait who : Int) (a3 : Option Addr) (len3 cap3 : Nat) (z3 : List Int) (other : Int) (w : World) (w0 : (Lit.int .i64 players).wf = true) (w1 : (Lit.int .i64 wait).wf = true) (w2 : (Lit.int .i64 who).wf = true) (w3 : IsRow .i64 w a3 len3 cap3 z3) (w4 : (Lit.int .i64 other).wf = true) :
    Calls Try.prog 7 #[.int .i64 players, .int .i64 wait, .int .i64 who, .slice a3 len3 cap3, .int .i64 other] w fun e w' => e = .returned (.bool true) ∧ Q w w' := by
  have G0 := Lib.hid (wf_i64 w0)
  have G1 := Lib.hid (wf_i64 w1)
  have G2 := Lib.hid (wf_i64 w2)
  have G4 := Lib.hid (wf_i64 w4)
  have S2 := Lib.hid (Sl.of_row w3)
  have R2 := Lib.hid (rowsI64 w3)
  clear w0 w1 w2 w3 w4
  generalize z3.take len3 = zl at *
  go_enter Try.func7, Try.ntmps7
  go_wp2_with (fail)
  refine (around_any players 7 _ G0.out (by omega)).mono ?_
  rintro e w1 ⟨rfl, rfl⟩
  have p0 := aroundZ_lo players 7 (by omega)
  have p1 := aroundZ_hi players 7 (by omega)
  obtain ⟨k0, hk0⟩ := Int.eq_ofNat_of_zero_le p0
  rw [hk0] at p1 ⊢
  have hkz : (2 : Int) + k0 = ((k0 + 2 : Nat) : Int) := by omega
  have hk8 : k0 + 2 ≤ 8 := by omega
  have hk2 : 2 ≤ k0 + 2 := by omega
  generalize k0 + 2 = k at *
  clear hk0 p0 p1
  go_wp2_with (fail)
  clear hkz
  have hk1 : 1 ≤ k := by omega
  refine (around_any wait 9 _ G1.out (by omega)).mono ?_
  rintro e w1 ⟨rfl, rfl⟩
  have p0 := aroundZ_lo wait 9 (by omega)
  have p1 := aroundZ_hi wait 9 (by omega)
  obtain ⟨wt, hwt⟩ := Int.eq_ofNat_of_zero_le p0
  rw [hwt] at p1 ⊢
  have hw8 : wt ≤ 8 := by omega
  clear hwt p0 p1
  go_wp2_with (fail)
  refine (qNew_any k wt _).mono ?_
  rintro e w1 ⟨BA, cA, rfl, hQ, hq, hc⟩
  have HQ1 := Lib.hid hQ
  have Hq1 := Lib.hid hq
  have HC1 := Lib.hid hc
  clear hQ hq hc
  go_wp2_with (fail)
  refine (qNew_any k wt _).mono ?_
  rintro e w2 ⟨BB, cB, rfl, hQ, hq, hc⟩
  have HT2 := Lib.hid (twoNew HQ1.out Hq1.out HC1.out hQ hq hc)
  clear hQ hq hc HQ1 Hq1 HC1
  go_wp2_with (fail)
  refine (around_any who k _ G2.out (by omega)).mono ?_
  rintro e w3 ⟨rfl, rfl⟩
  have p0 := aroundZ_lo who k (by omega)
  have p1 := aroundZ_hi who k (by omega)
  obtain ⟨pp, hpp⟩ := Int.eq_ofNat_of_zero_le p0
  rw [hpp] at p1 ⊢
  have hppk : pp < k := by omega
  clear hpp p0 p1
  go_wp2_with (fail)
  refine (acts22_any a3 len3 cap3 k zl _ (S2.out.q HT2.out.2.2.2.1) R2.out hk1 hk8).mono ?_
  rintro e w3 ⟨a, cap, rfl, hown, hq⟩
  have HS := Lib.hid (SlT.new HT2.out hown)
  have HT3 := Lib.hid (HT2.out.q hq)
  have hlz : (zl.take 40).length = min len3 40 := by
    have := S2.out.1
    simp at this
    rw [List.length_take, this, Nat.min_comm]
  have HLN := Lib.hid (show (acts22 k (zl.take 40)).length = min len3 40 by rw [acts22_len, hlz])
  have HOK := Lib.hid (acts22_ok k (zl.take 40) (by omega) (by rw [hlz]; omega))
  have hn40 : min len3 40 ≤ 40 := by omega
  clear hown hq hlz HT2
  generalize acts22 k (zl.take 40) = acl at *
  generalize min len3 40 = n at *
  go_wp2_with (fail)
  go_loopw [17] (fun v wr => ∃ i : Nat, i ≤ n ∧ v = .int .i64 i ∧ ∃ cA' cB' sA sB, TwoQ w wr BA BB cA' cB' sA sB ∧ OkS sA ∧ OkS sB ∧ sA.k = k ∧ Sim pp sA sB ∧ SlT wr cA' cB' 7 a n cap (acl.flatMap a22C)) (fun v _ => n - (intOf v).toNat)
  case atStart => exact ⟨0, by omega, rfl, cA, cB, qs0 k wt, qs0 k wt, HT3.out, ok0 hk1 hk8 hw8, ok0 hk1 hk8 hw8, rfl, Sim.refl _ _, HS.out⟩
  case round =>
    obtain ⟨i, hin, rfl, cA', cB', sA, sB, hT', okA', okB', hk', hsim', hS'⟩ := hrel
    have HTr := Lib.hid hT'
    have HAr := Lib.hid okA'
    have HBr := Lib.hid okB'
    have HKr := Lib.hid hk'
    have HMr := Lib.hid hsim'
    have HSr := Lib.hid hS'
    clear hT' okA' okB' hk' hsim' hS' HT3 HS
    by_cases hi : i < n
    · have hil : i < acl.length := by rw [HLN.out]; exact hi
      have hi' : (i : Int) < n := by omega
      obtain ⟨g, o, rfl, hg, hcs⟩ := HSr.out.1.act i hil
      have HAI := Lib.hid (HOK.out _ (List.getElem_mem hil))
      generalize acl[i] = ac at *
      have c0 : wr.cell? ⟨g, o + i * 7, none⟩ = some (.int .i64 ac.dx) := hcs 0 _ rfl
      have c1 : wr.cell? ⟨g, o + i * 7 + 1, none⟩ = some (.int .i64 ac.now) := hcs 1 _ rfl
      have c2 : wr.cell? ⟨g, o + i * 7 + 2, none⟩ = some (.int .i64 ac.p) := hcs 2 _ rfl
      have c3 : wr.cell? ⟨g, o + i * 7 + 3, none⟩ = some (.int .i64 ac.t) := hcs 3 _ rfl
      have c4 : wr.cell? ⟨g, o + i * 7 + 4, none⟩ = some (.int .i64 ac.a) := hcs 4 _ rfl
      have c5 : wr.cell? ⟨g, o + i * 7 + 5, none⟩ = some (.int .i64 ac.b) := hcs 5 _ rfl
      have c6 : wr.cell? ⟨g, o + i * 7 + 6, none⟩ = some (.int .i64 ac.f) := hcs 6 _ rfl
      clear hcs
      go_upto_region 13 with (fail)
      have HG : Hid (Box (wr.alloc (.cells #[.int .i64 ac.dx, .int .i64 ac.now, .int .i64 ac.p, .int .i64 ac.t, .int .i64 ac.a, .int .i64 ac.b, .int .i64 ac.f] 36)) wr.heap.size (a22C ac)) := Lib.hid (Box.new wr (a22C ac) 36)
      have HT8 := Lib.hid (HTr.out.q ((Q.refl wr).alloc (.cells #[.int .i64 ac.dx, .int .i64 ac.now, .int .i64 ac.p, .int .i64 ac.t, .int .i64 ac.a, .int .i64 ac.b, .int .i64 ac.f] 36)))
      have HS8 := Lib.hid (HSr.out.q ((Q.refl wr).alloc (.cells #[.int .i64 ac.dx, .int .i64 ac.now, .int .i64 ac.p, .int .i64 ac.t, .int .i64 ac.a, .int .i64 ac.b, .int .i64 ac.f] 36)))
      have HG0 := Lib.hid (show cA' wr.heap.size = 0 ∧ cB' wr.heap.size = 0 from ⟨HTr.out.1.new0 _ (Nat.le_refl _), HTr.out.2.1.new0 _ (Nat.le_refl _)⟩)
      clear c0 c1 c2 c3 c4 c5 c6 hg HSr HTr
      generalize wr.alloc (.cells #[.int .i64 ac.dx, .int .i64 ac.now, .int .i64 ac.p, .int .i64 ac.t, .int .i64 ac.a, .int .i64 ac.b, .int .i64 ac.f] 36) = w7 at *
      generalize wr.heap.size = G at *
      have d0 : w7.cell? ⟨G, 0, none⟩ = some (.int .i64 ac.dx) := (HG.out.2 0 _ rfl).1
      have d1 : w7.cell? ⟨G, 1, none⟩ = some (.int .i64 ac.now) := (HG.out.2 1 _ rfl).1
      have d2 : w7.cell? ⟨G, 2, none⟩ = some (.int .i64 ac.p) := (HG.out.2 2 _ rfl).1
      have d3 : w7.cell? ⟨G, 3, none⟩ = some (.int .i64 ac.t) := (HG.out.2 3 _ rfl).1
      have d4 : w7.cell? ⟨G, 4, none⟩ = some (.int .i64 ac.a) := (HG.out.2 4 _ rfl).1
      have d5 : w7.cell? ⟨G, 5, none⟩ = some (.int .i64 ac.b) := (HG.out.2 5 _ rfl).1
      have d6 : w7.cell? ⟨G, 6, none⟩ = some (.int .i64 ac.f) := (HG.out.2 6 _ rfl).1
      have hGl := HG.out.1
      go_upto_region 14 with (fail)
      have HH : Hid (Box (w7.alloc (.cells #[.int .i64 ac.dx, .int .i64 ac.now, .int .i64 ac.p, .int .i64 ac.t, .int .i64 ac.a, .int .i64 ac.b, .int .i64 ac.f] 36)) w7.heap.size (a22C ac)) := Lib.hid (Box.new w7 (a22C ac) 36)
      have HT9 := Lib.hid (HT8.out.q ((Q.refl w7).alloc (.cells #[.int .i64 ac.dx, .int .i64 ac.now, .int .i64 ac.p, .int .i64 ac.t, .int .i64 ac.a, .int .i64 ac.b, .int .i64 ac.f] 36)))
      have HS9 := Lib.hid (HS8.out.q ((Q.refl w7).alloc (.cells #[.int .i64 ac.dx, .int .i64 ac.now, .int .i64 ac.p, .int .i64 ac.t, .int .i64 ac.a, .int .i64 ac.b, .int .i64 ac.f] 36)))
      have HH0 := Lib.hid (show cA' w7.heap.size = 0 ∧ cB' w7.heap.size = 0 from ⟨HT8.out.1.new0 _ (Nat.le_refl _), HT8.out.2.1.new0 _ (Nat.le_refl _)⟩)
      have HGH := Lib.hid (show G < w7.heap.size from HG.out.1)
      have HHw := Lib.hid (show w.heap.size ≤ w7.heap.size from HT8.out.2.2.2.1.size)
      have HSg := Lib.hid (show g < w7.heap.size from (HS8.out.2 _ rfl).1)
      have HG9 := Lib.hid (HG.out.alloc (.cells #[.int .i64 ac.dx, .int .i64 ac.now, .int .i64 ac.p, .int .i64 ac.t, .int .i64 ac.a, .int .i64 ac.b, .int .i64 ac.f] 36))
      clear d0 d1 d2 d3 d4 d5 d6 hGl HT8 HS8 HG
      generalize w7.alloc (.cells #[.int .i64 ac.dx, .int .i64 ac.now, .int .i64 ac.p, .int .i64 ac.t, .int .i64 ac.a, .int .i64 ac.b, .int .i64 ac.f] 36) = w8 at *
      generalize w7.heap.size = H at *
      have hac0 := HAI.out.n0
      have hac1 := HAI.out.n1
      have HAT := Lib.hid (show -9223372036854775808 ≤ ac.t ∧ ac.t ≤ 9223372036854775807 by have h1 := HAI.out.t0; have h2 := HAI.out.t1; omega)
      have d2 : w8.cell? ⟨G, 2, none⟩ = some (.int .i64 ac.p) := (HG9.out.2 2 _ rfl).1
      have d4 : w8.cell? ⟨G, 4, none⟩ = some (.int .i64 ac.a) := (HG9.out.2 4 _ rfl).1
      have d5 : w8.cell? ⟨G, 5, none⟩ = some (.int .i64 ac.b) := (HG9.out.2 5 _ rfl).1
      have d6 : w8.cell? ⟨G, 6, none⟩ = some (.int .i64 ac.f) := (HG9.out.2 6 _ rfl).1
      have hGl := HG9.out.1
      obtain ⟨ch, HCH⟩ : ∃ ch : Bool, Hid (ch = (decide (ac.p = pp) && decide (errV ac.a ac.b ac.f = 0))) := ⟨_, Lib.hid rfl⟩
      go_cut [71] (fun s71 wx => s71 = .bool ch ∧ Q w8 wx)
      case first =>
        by_cases hp : ac.p = pp
        · have hb : (ac.p == (pp : Int)) = true := by simpa using hp
          have HC := Lib.hid (show ch = decide (errV ac.a ac.b ac.f = 0) by rw [HCH.out, decide_eq_true hp, Bool.true_and])
          clear hp
          go_wp2_with (fail)
          refine (rValidate_any ac.a ac.b ac.f _).mono ?_
          rintro e w9 ⟨rfl, hq⟩
          have HQ9 := Lib.hid hq
          clear hq
          rcases errV_two ac.a ac.b ac.f with he | he
          · have HC2 := Lib.hid (show ch = true by rw [HC.out, he]; rfl)
            rw [he]
            clear he
            go_wp2
            go_meet
            rw [HC2.out]
            exact ⟨rfl, HQ9.out⟩
          · have HC2 := Lib.hid (show ch = false by rw [HC.out, he]; rfl)
            rw [he]
            clear he
            go_wp2
            go_meet
            rw [HC2.out]
            exact ⟨rfl, HQ9.out⟩
        · have hb : (ac.p == (pp : Int)) = false := by simpa using hp
          have HC := Lib.hid (show ch = false by rw [HCH.out, decide_eq_false hp, Bool.false_and])
          clear hp
          go_wp2
          go_meet
          rw [HC.out]
          exact ⟨rfl, Q.refl _⟩
      case rest =>
        obtain ⟨rfl, hq⟩ := hcut
        have HTc := Lib.hid (HT9.out.q hq)
        have HSc := Lib.hid (HS9.out.q hq)
        have HGc := Lib.hid (Box.q HG9.out hq)
        have HHc := Lib.hid (Box.q HH.out hq)
        clear hq d2 d4 d5 d6 hGl HT9 HS9 HG9 HH
        generalize wc = wd at *
        obtain ⟨xo, HXO⟩ : ∃ xo : Int, Hid (xo = aroundZ (aroundZ other 1000 + i) 36) := ⟨_, Lib.hid rfl⟩
        obtain ⟨yc, HYC⟩ : ∃ yc : A22, Hid (yc = if ch then { ac with a := xo % 3 - 1, b := xo / 3 % 3 - 1, f := xo / 9 } else ac) := ⟨_, Lib.hid rfl⟩
        go_upto_if 71 with (fail)
        go_cut [19] (fun s19 wx => s19 = .pointer (some ⟨H, 0, none⟩) ∧ Box wx H (a22C yc) ∧ QF (· = H) wd wx)
        case first =>
          cases ch with
          | true =>
            have HY := Lib.hid (show yc = { ac with a := xo % 3 - 1, b := xo / 3 % 3 - 1, f := xo / 9 } by rw [HYC.out, if_pos rfl])
            go_wp2_with (fail)
            refine (around_any other 1000 _ G4.out (by omega)).mono ?_
            rintro e w9 ⟨rfl, rfl⟩
            have p0 := aroundZ_lo other 1000 (by omega)
            have p1 := aroundZ_hi other 1000 (by omega)
            go_wp2_with (fail)
            refine (of_any _ _ (by omega)).mono ?_
            rintro e w9 ⟨rfl, hq⟩
            rw [← HXO.out]
            have HH9 := Lib.hid (Box.q HHc.out hq)
            have HQ9 := Lib.hid hq
            obtain ⟨e4, f4⟩ := HH9.out.2 4 _ rfl
            obtain ⟨e5, f5⟩ := HH9.out.2 5 _ rfl
            obtain ⟨e6, f6⟩ := HH9.out.2 6 _ rfl
            have hHl := HH9.out.1
            clear hq p0 p1
            go_wp2
            go_meet
            rw [HY.out]
            refine ⟨rfl, Box.set (Box.set (Box.set HH9.out 4 _ (show 4 < 7 by decide)) 5 _ (show 5 < 7 by decide)) 6 _ (show 6 < 7 by decide), ?_⟩
            exact (((QF.of (F := (· = H)) HQ9.out).setNew H 4 _ (.inl rfl)).setNew H 5 _ (.inl rfl)).setNew H 6 _ (.inl rfl)
          | false =>
            have HY := Lib.hid (show yc = ac by rw [HYC.out]; exact if_neg (by decide))
            go_wp2
            go_meet
            rw [HY.out]
            exact ⟨rfl, HHc.out, QF.refl _ _⟩
        case rest =>
          obtain ⟨rfl, hbx, hqf⟩ := hcut
          have HHd := Lib.hid hbx
          have HGd := Lib.hid (Box.qf HGc.out hqf (by have := HGH.out; omega))
          have HTd := Lib.hid (show TwoQ w wc BA BB cA' cB' sA sB from ⟨HTc.out.1.qf hqf (fun b hb => by rw [hb]; exact HH0.out.1), HTc.out.2.1.qf hqf (fun b hb => by rw [hb]; exact HH0.out.2), HTc.out.2.2.1, QF.q HTc.out.2.2.2.1 hqf (fun b hb => by rw [hb]; exact HHw.out), HTc.out.2.2.2.2⟩)
          have HSd := Lib.hid (show SlT wc cA' cB' 7 (some ⟨g, o, none⟩) n cap (acl.flatMap a22C) from ⟨HSc.out.1.qf hqf (fun x hx e => by cases hx; have h1 := HSg.out; have h2 : g = H := e; omega), fun x hx => ⟨Nat.lt_of_lt_of_le (HSc.out.2 x hx).1 hqf.size, (HSc.out.2 x hx).2⟩⟩)
          clear hbx hqf HTc HSc HGc HHc
          have HYN := Lib.hid (show yc.dx = ac.dx ∧ yc.now = ac.now ∧ yc.p = ac.p ∧ yc.t = ac.t from by rw [HYC.out]; split <;> exact ⟨rfl, rfl, rfl, rfl⟩)
          have hxo0 : 0 ≤ xo := by rw [HXO.out]; exact aroundZ_lo _ _ (by omega)
          have hxo1 : xo < 36 := by rw [HXO.out]; exact aroundZ_hi _ _ (by omega)
          have HYV := Lib.hid (show errV ac.a ac.b ac.f = errV yc.a yc.b yc.f ∧ (ac.p ≠ pp → ac.a = yc.a ∧ ac.b = yc.b ∧ ac.f = yc.f) from by
            have h1 := HCH.out
            have h2 := HYC.out
            cases hch : ch with
            | true =>
              rw [hch] at h1 h2
              rw [if_pos rfl] at h2
              have h1 := h1.symm
              rw [Bool.and_eq_true, decide_eq_true_eq, decide_eq_true_eq] at h1
              rw [h2]
              refine ⟨?_, fun hp => absurd h1.1 hp⟩
              rw [h1.2]
              exact (errV_code xo hxo0 hxo1).symm
            | false =>
              rw [hch, if_neg (by decide)] at h2
              rw [h2]
              exact ⟨rfl, fun _ => ⟨rfl, rfl, rfl⟩⟩)
          clear hxo0 hxo1
          have hGF : ¬ (cA' G ≠ 0 ∨ cB' G ≠ 0) := by have := HG0.out; rintro (h | h) <;> omega
          have hHF : ¬ (cA' H ≠ 0 ∨ cB' H ≠ 0) := by have := HH0.out; rintro (h | h) <;> omega
          by_cases hdx : ac.dx = 1
          · have hd1 : (ac.dx == 1) = true := by simpa using hdx
            clear hdx
            have d0 : wc.cell? ⟨G, 0, none⟩ = some (.int .i64 ac.dx) := (HGd.out.2 0 _ rfl).1
            have hGl := HGd.out.1
            go_upto_region 17 with (fail)
            clear d0 hGl
            refine wp_region_mixF (F := fun b => cA' b ≠ 0 ∨ cB' b ≠ 0) [(0, true), (1, true), (2, true), (4, true), (5, true), (6, true), (3, false), (7, false), (8, true)] (by kernel_rfl) (by kernel_rfl) (fun _ _ _ _ _ h => h) ?_
            have HTW := Lib.hid (HTd.out.q (Q.drew (Q.refl wc)))
            have HSW := Lib.hid (HSd.out.q (Q.drew (Q.refl wc)))
            have HGW := Lib.hid (Box.q HGd.out (Q.drew (Q.refl wc)))
            have HHW := Lib.hid (Box.q HHd.out (Q.drew (Q.refl wc)))
            clear HTd HSd HGd HHd
            generalize wc.drew = W at *
            have d1 : ∀ x : AfterF (fun b => cA' b ≠ 0 ∨ cB' b ≠ 0) W, x.w.cell? ⟨G, 1, none⟩ = some (.int .i64 ac.now) := Box.sF (F := fun b => cA' b ≠ 0 ∨ cB' b ≠ 0) HGW.out hGF 1 _ rfl
            have e1 : ∀ x : AfterF (fun b => cA' b ≠ 0 ∨ cB' b ≠ 0) W, x.w.cell? ⟨H, 1, none⟩ = some (.int .i64 ac.now) := by rw [← HYN.out.2.1]; exact Box.sF (F := fun b => cA' b ≠ 0 ∨ cB' b ≠ 0) HHW.out hHF 1 _ rfl
            repeat (refine mixF_val rfl rfl ?_; go_big_quiet_step (fail); refine wpQuiet_nil ?_)
            clear d1 e1
            refine mixF_run rfl rfl ?_
            intro K hK
            go_wp2_with (fail)
            refine (qAdvance_any BA cA' sA ac.now _ HTW.out.1 HAr.out (by omega)).mono ?_
            rintro e w5 ⟨rfl, hd⟩
            obtain ⟨cA5, h1, h2, h3⟩ := HTW.out.stepA hd
            refine hK _ _ (h3.mono (fun b hb => .inl hb)) ?_
            clear hK K
            have HT5 := Lib.hid h1
            have HS5 := Lib.hid (HSW.out.stepA h2 h3)
            clear hd h1 h2 h3 HTW HSW HGW HHW
            refine mixF_run rfl rfl ?_
            intro K hK
            go_wp2_with (fail)
            refine (qAdvance_any BB cB' sB ac.now _ HT5.out.2.1 HBr.out (by omega)).mono ?_
            rintro e w6 ⟨rfl, hd⟩
            obtain ⟨cB6, h1, h2, h3⟩ := HT5.out.stepB hd
            refine hK _ _ (h3.mono (fun b hb => .inr hb)) ?_
            clear hK K
            have HT6 := Lib.hid h1
            have HS6 := Lib.hid (HS5.out.stepB h2 h3)
            have HM6 := Lib.hid (HMr.out.adv ac.now)
            have HLE := hid_eq (show ((advT sB ac.now).tks.length : Int) - sB.tks.length = (advT sA ac.now).tks.length - sA.tks.length by rw [← HM6.out.len, ← HMr.out.len])
            have HO6 := Lib.hid (show OkS (advT sA ac.now) ∧ OkS (advT sB ac.now) ∧ (advT sA ac.now).k = k from ⟨ok_adv HAr.out _, ok_adv HBr.out _, (adv_is sA ac.now HAr.out.n6000).k.trans HKr.out⟩)
            clear hd h1 h2 h3 HT5 HS5
            rw [HLE.out]
            generalize ((advT sA ac.now).tks.length : Int) - sA.tks.length = rz at *
            repeat (refine mixF_val rfl rfl ?_; go_big_quiet_step (fail); refine wpQuiet_nil ?_)
            refine mixF_end ?_
            go_wp2_with (fail)
            go_roundw
            case rel => exact ⟨i + 1, by omega, by go_num, cA5, cB6, _, _, HT6.out, HO6.out.1, HO6.out.2.1, HO6.out.2.2, HM6.out, HS6.out⟩
            case measure => simp [intOf]; omega
          · have hd1 : (ac.dx == 1) = false := by simpa using hdx
            clear hdx
            have d0 : wc.cell? ⟨G, 0, none⟩ = some (.int .i64 ac.dx) := (HGd.out.2 0 _ rfl).1
            have hGl := HGd.out.1
            go_upto_region 19 with (fail)
            clear d0 hGl
            refine wp_region_mixF (F := fun b => cA' b ≠ 0 ∨ cB' b ≠ 0) [(0, true), (1, true), (2, true), (3, true), (4, true), (5, true), (6, true), (7, true), (8, true), (10, true), (11, true), (12, true), (13, true), (14, true), (15, true), (16, true), (17, true), (18, true), (9, false), (19, false), (20, true)] (by kernel_rfl) (by kernel_rfl) (fun _ _ _ _ _ h => h) ?_
            have HTW := Lib.hid (HTd.out.q (Q.drew (Q.refl wc)))
            have HSW := Lib.hid (HSd.out.q (Q.drew (Q.refl wc)))
            have HGW := Lib.hid (Box.q HGd.out (Q.drew (Q.refl wc)))
            have HHW := Lib.hid (Box.q HHd.out (Q.drew (Q.refl wc)))
            clear HTd HSd HGd HHd
            generalize wc.drew = W at *
            have d1 : ∀ x : AfterF (fun b => cA' b ≠ 0 ∨ cB' b ≠ 0) W, x.w.cell? ⟨G, 1, none⟩ = some (.int .i64 ac.now) := Box.sF (F := fun b => cA' b ≠ 0 ∨ cB' b ≠ 0) HGW.out hGF 1 _ rfl
            have e1 : ∀ x : AfterF (fun b => cA' b ≠ 0 ∨ cB' b ≠ 0) W, x.w.cell? ⟨H, 1, none⟩ = some (.int .i64 yc.now) := Box.sF (F := fun b => cA' b ≠ 0 ∨ cB' b ≠ 0) HHW.out hHF 1 _ rfl
            have d2 : ∀ x : AfterF (fun b => cA' b ≠ 0 ∨ cB' b ≠ 0) W, x.w.cell? ⟨G, 2, none⟩ = some (.int .i64 ac.p) := Box.sF (F := fun b => cA' b ≠ 0 ∨ cB' b ≠ 0) HGW.out hGF 2 _ rfl
            have e2 : ∀ x : AfterF (fun b => cA' b ≠ 0 ∨ cB' b ≠ 0) W, x.w.cell? ⟨H, 2, none⟩ = some (.int .i64 yc.p) := Box.sF (F := fun b => cA' b ≠ 0 ∨ cB' b ≠ 0) HHW.out hHF 2 _ rfl
            have d3 : ∀ x : AfterF (fun b => cA' b ≠ 0 ∨ cB' b ≠ 0) W, x.w.cell? ⟨G, 3, none⟩ = some (.int .i64 ac.t) := Box.sF (F := fun b => cA' b ≠ 0 ∨ cB' b ≠ 0) HGW.out hGF 3 _ rfl
            have e3 : ∀ x : AfterF (fun b => cA' b ≠ 0 ∨ cB' b ≠ 0) W, x.w.cell? ⟨H, 3, none⟩ = some (.int .i64 yc.t) := Box.sF (F := fun b => cA' b ≠ 0 ∨ cB' b ≠ 0) HHW.out hHF 3 _ rfl
            have d4 : ∀ x : AfterF (fun b => cA' b ≠ 0 ∨ cB' b ≠ 0) W, x.w.cell? ⟨G, 4, none⟩ = some (.int .i64 ac.a) := Box.sF (F := fun b => cA' b ≠ 0 ∨ cB' b ≠ 0) HGW.out hGF 4 _ rfl
            have e4 : ∀ x : AfterF (fun b => cA' b ≠ 0 ∨ cB' b ≠ 0) W, x.w.cell? ⟨H, 4, none⟩ = some (.int .i64 yc.a) := Box.sF (F := fun b => cA' b ≠ 0 ∨ cB' b ≠ 0) HHW.out hHF 4 _ rfl
            have d5 : ∀ x : AfterF (fun b => cA' b ≠ 0 ∨ cB' b ≠ 0) W, x.w.cell? ⟨G, 5, none⟩ = some (.int .i64 ac.b) := Box.sF (F := fun b => cA' b ≠ 0 ∨ cB' b ≠ 0) HGW.out hGF 5 _ rfl
            have e5 : ∀ x : AfterF (fun b => cA' b ≠ 0 ∨ cB' b ≠ 0) W, x.w.cell? ⟨H, 5, none⟩ = some (.int .i64 yc.b) := Box.sF (F := fun b => cA' b ≠ 0 ∨ cB' b ≠ 0) HHW.out hHF 5 _ rfl
            have d6 : ∀ x : AfterF (fun b => cA' b ≠ 0 ∨ cB' b ≠ 0) W, x.w.cell? ⟨G, 6, none⟩ = some (.int .i64 ac.f) := Box.sF (F := fun b => cA' b ≠ 0 ∨ cB' b ≠ 0) HGW.out hGF 6 _ rfl
            have e6 : ∀ x : AfterF (fun b => cA' b ≠ 0 ∨ cB' b ≠ 0) W, x.w.cell? ⟨H, 6, none⟩ = some (.int .i64 yc.f) := Box.sF (F := fun b => cA' b ≠ 0 ∨ cB' b ≠ 0) HHW.out hHF 6 _ rfl
            repeat (refine mixF_val rfl rfl ?_; go_big_quiet_step (fail); refine wpQuiet_nil ?_)
            clear d1 e1 d2 e2 d3 e3 d4 e4 d5 e5 d6 e6
            refine mixF_run rfl rfl ?_
            intro K hK
            go_wp2_with (fail)
            refine (qOffer_any BA cA' sA ac.now ac.p ac.t ac.a ac.b ac.f _ HTW.out.1 HAr.out (by omega) HAT.out).mono ?_
            rintro e w5 ⟨rfl, hd⟩
            obtain ⟨cA5, h1, h2, h3⟩ := HTW.out.stepA hd
            refine hK _ _ (h3.mono (fun b hb => .inl hb)) ?_
            clear hK K
            have HT5 := Lib.hid h1
            have HS5 := Lib.hid (HSW.out.stepA h2 h3)
            clear hd h1 h2 h3 HTW HSW HGW HHW
            refine mixF_run rfl rfl ?_
            intro K hK
            go_wp2_with (fail)
            refine (qOffer_any BB cB' sB yc.now yc.p yc.t yc.a yc.b yc.f _ HT5.out.2.1 HBr.out (by rw [HYN.out.2.1]; omega) (by rw [HYN.out.2.2.2]; exact HAT.out)).mono ?_
            rintro e w6 ⟨rfl, hd⟩
            obtain ⟨cB6, h1, h2, h3⟩ := HT5.out.stepB hd
            refine hK _ _ (h3.mono (fun b hb => .inr hb)) ?_
            clear hK K
            have HT6 := Lib.hid h1
            have HS6 := Lib.hid (HS5.out.stepB h2 h3)
            have HLE := hid_eq (offE_eq HMr.out ac yc HYN.out.2.1 HYN.out.2.2.1 HYN.out.2.2.2 HYV.out.1)
            have HM6 := Lib.hid (show Sim pp (offT sA ac.now ac.p ac.t ac.a ac.b ac.f) (offT sB yc.now yc.p yc.t yc.a yc.b yc.f) from by
              rw [HYN.out.2.1, HYN.out.2.2.1, HYN.out.2.2.2]
              exact HMr.out.offT HAr.out HBr.out _ _ _ _ _ _ _ _ _ HYV.out.1 HYV.out.2)
            have HO6 := Lib.hid (show OkS (offT sA ac.now ac.p ac.t ac.a ac.b ac.f) ∧ OkS (offT sB yc.now yc.p yc.t yc.a yc.b yc.f) ∧ (offT sA ac.now ac.p ac.t ac.a ac.b ac.f).k = k from ⟨ok_off HAr.out _ _ _ _ _ _, ok_off HBr.out _ _ _ _ _ _, by unfold offT; split <;> exact HKr.out⟩)
            clear hd h1 h2 h3 HT5 HS5
            rw [← HLE.out]
            generalize offE sA ac.now ac.p ac.t ac.a ac.b ac.f = rz at *
            generalize offT sA ac.now ac.p ac.t ac.a ac.b ac.f = sA6 at *
            generalize offT sB yc.now yc.p yc.t yc.a yc.b yc.f = sB6 at *
            clear HLE
            repeat (refine mixF_val rfl rfl ?_; go_big_quiet_step (fail); refine wpQuiet_nil ?_)
            refine mixF_end ?_
            go_wp2_with (fail)
            go_roundw
            case rel => exact ⟨i + 1, by omega, by go_num, cA5, cB6, sA6, sB6, HT6.out, HO6.out.1, HO6.out.2.1, HO6.out.2.2, HM6.out, HS6.out⟩
            case measure => simp [intOf]; omega
    · have hi' : ¬ (i : Int) < n := by omega
      have HLN2 := hid_eq HMr.out.len
      have hl6 := HAr.out.n6000
      go_wp2_with (fail)
      refine (qNext_any BA cA' sA _ HTr.out.1).mono ?_
      rintro e w9 ⟨rfl, rfl⟩
      go_wp2_with (fail)
      refine (qNext_any BB cB' sB _ HTr.out.2.1).mono ?_
      rintro e w9 ⟨rfl, rfl⟩
      rw [← HLN2.out]
      go_wp2_with (fail)
      have HQ0 := Lib.hid (show Q w wr from HTr.out.2.2.2.1)
      go_loopw [20] (fun v wx => ∃ t : Nat, v = .int .i64 t ∧ t ≤ sA.tks.length ∧ TwoQ w wx BA BB cA' cB' sA sB) (fun v _ => sA.tks.length - (intOf v).toNat)
      case atStart => exact ⟨0, rfl, by omega, HTr.out⟩
      case round =>
        obtain ⟨t, rfl, ht, hT⟩ := hrel
        have HTt := Lib.hid hT
        clear hT
        by_cases htl : t < sA.tks.length
        · have hti : (t : Int) < sA.tks.length := by omega
          obtain ⟨x, hx⟩ : ∃ x, sA.tks[t]? = some x := ⟨_, List.getElem?_eq_getElem htl⟩
          obtain ⟨y, hy⟩ : ∃ y, sB.tks[t]? = some y := ⟨_, List.getElem?_eq_getElem (by rw [← HLN2.out]; exact htl)⟩
          have HX := Lib.hid hx
          have HY := Lib.hid hy
          have HRW := Lib.hid (HMr.out.row t x y hx hy)
          have HXl := Lib.hid (show x.1.length = k from (HAr.out.tk1 x (List.mem_of_getElem? hx)).1.trans HKr.out)
          have HYl := Lib.hid (show y.1.length = k from (HBr.out.tk1 y (List.mem_of_getElem? hy)).1.trans (HMr.out.k.symm.trans HKr.out))
          clear hx hy
          go_wp2_with (fail)
          refine (qNext_any BA cA' sA _ HTt.out.1).mono ?_
          rintro e w9 ⟨rfl, rfl⟩
          go_wp2_with (fail)
          refine (qFixed_yes BA cA' sA t x _ HTt.out.1 HAr.out HX.out).mono ?_
          rintro e w2 ⟨fa, fca, fb, fcb, rfl, hfa, _, hq⟩
          have HFA := Lib.hid (Sl.of_own hfa)
          have HT2 := Lib.hid (HTt.out.q hq)
          clear hfa hq
          rw [HXl.out] at HFA ⊢
          go_wp2_with (fail)
          refine (qFixed_yes BB cB' sB t y _ HT2.out.2.1 HBr.out HY.out).mono ?_
          rintro e w3 ⟨ga, gca, gb, gcb, rfl, hga, _, hq⟩
          have HGA := Lib.hid (Sl.of_own hga)
          have HFA3 := Lib.hid (HFA.out.q hq)
          have HT3 := Lib.hid (HT2.out.q hq)
          clear hga hq HFA HT2
          rw [HYl.out] at HGA ⊢
          go_wp2_with (fail)
          go_loopw [27] (fun v wx => ∃ p : Nat, v = .int .i64 p ∧ p ≤ k ∧ Q w3 wx) (fun v _ => k - (intOf v).toNat)
          case atStart => exact ⟨0, rfl, by omega, Q.refl _⟩
          case round =>
            obtain ⟨p, rfl, hp, hqp⟩ := hrel
            have HQP := Lib.hid hqp
            clear hqp
            by_cases hpk : p < k
            · have hpi : (p : Int) < k := by omega
              by_cases hpp : p = pp
              · have hb : ((p : Int) != pp) = false := by rw [hpp]; simp
                have HPP := Lib.hid hpp
                clear hpp
                go_wp2_with (fail)
                go_quiet (fail)
                go_wp2
                go_roundw
                case rel => exact ⟨p + 1, by go_num, by omega, HQP.out.drewN _⟩
                case measure => simp [intOf]; omega
              · have hb : ((p : Int) != pp) = true := by simp; omega
                have hpx : p < x.1.length := by rw [HXl.out]; exact hpk
                have hpy : p < y.1.length := by rw [HYl.out]; exact hpk
                obtain ⟨g1, o1, rfl, l1, k1⟩ := (HFA3.out.q HQP.out).pos (by omega)
                obtain ⟨g2, o2, rfl, l2, k2⟩ := (HGA.out.q HQP.out).pos (by omega)
                obtain ⟨e0, e1, e2⟩ := inCells_get x.1 p hpx
                obtain ⟨f0, f1, f2⟩ := inCells_get y.1 p hpy
                have heq : y.1[p] = x.1[p] := by
                  have := HRW.out p hpp
                  rw [List.getElem?_eq_getElem hpx, List.getElem?_eq_getElem hpy] at this
                  exact (Option.some.inj this).symm
                rw [heq] at f0 f1 f2
                have m0 : wr.cell? ⟨g1, o1 + p * 3, none⟩ = some _ := k1 _ _ e0
                have m1 : wr.cell? ⟨g1, o1 + p * 3 + 1, none⟩ = some _ := k1 _ _ e1
                have m2 : wr.cell? ⟨g1, o1 + p * 3 + 2, none⟩ = some _ := k1 _ _ e2
                have n0 : wr.cell? ⟨g2, o2 + p * 3, none⟩ = some _ := k2 _ _ f0
                have n1 : wr.cell? ⟨g2, o2 + p * 3 + 1, none⟩ = some _ := k2 _ _ f1
                have n2 : wr.cell? ⟨g2, o2 + p * 3 + 2, none⟩ = some _ := k2 _ _ f2
                clear heq e0 e1 e2 f0 f1 f2 k1 k2 hpp
                generalize x.1[p] = cx at *
                clear hpx hpy
                go_wp2_with (fail)
                go_quiet (fail)
                go_wp2
                go_roundw
                case rel => exact ⟨p + 1, by go_num, by omega, HQP.out.drewN _⟩
                case measure => simp [intOf]; omega
            · have hpi : ¬ (p : Int) < k := by omega
              go_wp2_with (fail)
              go_roundw
              case rel => exact ⟨t + 1, by go_num, by omega, HT3.out.q HQP.out⟩
              case measure => simp [intOf]; omega
        · have hti : ¬ (t : Int) < sA.tks.length := by omega
          go_wp2_with (fail)
          refine (qNext_any BA cA' sA _ HTt.out.1).mono ?_
          rintro e w9 ⟨rfl, rfl⟩
          go_wp2_with (fail)
          refine (lives22_any _).mono ?_
          rintro e w10 ⟨rfl, hq⟩
          have Hq10 := Lib.hid (HTt.out.2.2.2.1.trans hq)
          clear hq
          go_wp2
          go_ret
          exact ⟨rfl, Hq10.out⟩
end Go.Proofs.Ytpoffkkkkieniaa
