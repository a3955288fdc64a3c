/- The walk of InputqueueOrder. -/
import Derived.Test.YtpoffkkkkieniaaQWalkB
import Derived.Test.YtpoffkkkkieniaaQR
import Derived.Test.YtpoffkkkkieniaaMixF
import Derived.Test.YtpoffkkkkieniaaEqual
import Derived.Test.YtpoffkkkkieniaaClone
namespace Go.Proofs.Ytpoffkkkkieniaa
open Go Go.RowKit Go.BigFrame

set_option maxRecDepth 100000 in
set_option maxHeartbeats 2000000 in
theorem order_walk (players wait : Int) (a3 : Option Addr) (len3 cap3 : Nat) (z3 : List Int) (w : World) (w0 : (Lit.int .i64 players).wf = true) (w1 : (Lit.int .i64 wait).wf = true) (w3 : IsRow .i64 w a3 len3 cap3 z3) :
    Calls Try.prog 8 #[.int .i64 players, .int .i64 wait, .slice a3 len3 cap3] w fun e w' => e = .returned (.bool true) ∧ Q w w' := by
  have G0 := Lib.hid (wf_i64 w0)
  have G1 := Lib.hid (wf_i64 w1)
  have S2 := Lib.hid (Sl.of_row w3)
  have R2 := Lib.hid (rowsI64 w3)
  clear w0 w1 w3
  generalize z3.take len3 = zl at *
  go_enter Try.func8, Try.ntmps8
  go_wp2_with (fail)
  refine (around_any players 8 _ G0.out (by omega)).mono ?_
  rintro e w1 ⟨rfl, rfl⟩
  have p0 := aroundZ_lo players 8 (by omega)
  have p1 := aroundZ_hi players 8 (by omega)
  obtain ⟨k0, hk0⟩ := Int.eq_ofNat_of_zero_le p0
  rw [hk0] at p1 ⊢
  have hkz : (1 : Int) + k0 = ((k0 + 1 : Nat) : Int) := by omega
  have hk8 : k0 + 1 ≤ 8 := by omega
  have hk2 : 1 ≤ k0 + 1 := by omega
  generalize k0 + 1 = k at *
  clear hk0 p0 p1
  go_wp2_with (fail)
  clear hkz
  have hk1 : 1 ≤ k := by omega
  refine (around_any wait 9 _ G1.out (by omega)).mono ?_
  rintro e w1 ⟨rfl, rfl⟩
  have p0 := aroundZ_lo wait 9 (by omega)
  have p1 := aroundZ_hi wait 9 (by omega)
  obtain ⟨wt, hwt⟩ := Int.eq_ofNat_of_zero_le p0
  rw [hwt] at p1 ⊢
  have hw8 : wt ≤ 8 := by omega
  clear hwt p0 p1
  go_wp2_with (fail)
  refine (qNew_any k wt _).mono ?_
  rintro e w1 ⟨BA, cA, rfl, hQ, hq, hc⟩
  have HQ1 := Lib.hid hQ
  have Hq1 := Lib.hid hq
  have HC1 := Lib.hid hc
  clear hQ hq hc
  go_wp2_with (fail)
  refine (qNew_any k wt _).mono ?_
  rintro e w2 ⟨BB, cB, rfl, hQ, hq, hc⟩
  have HT2 := Lib.hid (twoNew HQ1.out Hq1.out HC1.out hQ hq hc)
  clear hQ hq hc HQ1 Hq1 HC1
  go_wp2_with (fail)
  refine (ints_any a3 len3 cap3 20 zl _ (S2.out.q HT2.out.2.2.2.1) (by omega)).mono ?_
  rintro e w3 ⟨a, cap, rfl, hown, hq⟩
  have HS := Lib.hid (SlT.new HT2.out hown)
  have HT3 := Lib.hid (HT2.out.q hq)
  have hlz : (zl.take 20).length = min len3 20 := by
    have := S2.out.1
    simp at this
    rw [List.length_take, this, Nat.min_comm]
  have HLN := Lib.hid hlz
  have HOK := Lib.hid (show ∀ z ∈ zl.take 20, -9223372036854775808 ≤ z ∧ z ≤ 9223372036854775807 from fun z hz => R2.out z (List.mem_of_mem_take hz))
  have hn40 : min len3 20 ≤ 20 := by omega
  clear hown hq hlz HT2
  generalize zl.take 20 = few at *
  generalize min len3 20 = n at *
  obtain ⟨nl, HNL⟩ : ∃ nl : List Int, Hid (nl = few.map (aroundZ · 100000)) := ⟨_, Lib.hid rfl⟩
  have HNn := Lib.hid (show nl.length = n by rw [HNL.out, List.length_map, HLN.out])
  have HN0 := Lib.hid (show ∀ m ∈ nl, 0 ≤ m ∧ m < 100000 from fun m hm => by
    rw [HNL.out] at hm
    obtain ⟨z, _, rfl⟩ := List.mem_map.1 hm
    exact ⟨aroundZ_lo _ _ (by omega), aroundZ_hi _ _ (by omega)⟩)
  go_wp2_with (fail)
  go_loopw [12] (fun v wr => ∃ i : Nat, i ≤ n ∧ v = .int .i64 i ∧ ∃ cA' cB', TwoQ w wr BA BB cA' cB' (offAll k (qs0 k wt) (nl.take i)) (offAll k (qs0 k wt) (nl.reverse.take i)) ∧ SlT wr cA' cB' 1 a n cap (few.map (Value.int .i64))) (fun v _ => n - (intOf v).toNat)
  case atStart => exact ⟨0, by omega, rfl, cA, cB, HT3.out, HS.out⟩
  case round =>
    obtain ⟨i, hin, rfl, cA', cB', hT', hS'⟩ := hrel
    have HTr := Lib.hid hT'
    have HSr := Lib.hid hS'
    clear hT' hS' HT3 HS
    by_cases hi : i < n
    · have hil : i < nl.length := by rw [HNn.out]; exact hi
      have hjl : n - 1 - i < nl.length := by rw [HNn.out]; omega
      have hrl : i < nl.reverse.length := by rw [List.length_reverse]; exact hil
      have hi' : (i : Int) < n := by omega
      have hfl : i < few.length := by rw [HLN.out]; exact hi
      have hfj : n - 1 - i < few.length := by rw [HLN.out]; omega
      have HA1 := Lib.hid (show offAll k (qs0 k wt) (nl.take (i + 1)) = offN k (offAll k (qs0 k wt) (nl.take i)) (aroundZ few[i] 100000) by
        rw [take_snoc_get _ _ hil, offAll_snoc]
        congr 1
        have : nl[i]? = some (aroundZ few[i] 100000) := by rw [HNL.out, List.getElem?_map, List.getElem?_eq_getElem hfl]; rfl
        rw [List.getElem?_eq_getElem hil] at this
        exact Option.some.inj this)
      have HB1 := Lib.hid (show offAll k (qs0 k wt) (nl.reverse.take (i + 1)) = offN k (offAll k (qs0 k wt) (nl.reverse.take i)) (aroundZ few[n - 1 - i] 100000) by
        rw [take_snoc_get _ _ hrl, offAll_snoc]
        congr 1
        have : nl.reverse[i]? = some (aroundZ few[n - 1 - i] 100000) := by
          rw [List.getElem?_reverse hil, HNn.out, HNL.out, List.getElem?_map, List.getElem?_eq_getElem hfj]; rfl
        rw [List.getElem?_eq_getElem hrl] at this
        exact Option.some.inj this)
      have HOA := Lib.hid (offAll_is k wt hk1 hk8 hw8 (nl.take i) (fun m hm => (HN0.out m (List.mem_of_mem_take hm)).1)).ok
      have HOB := Lib.hid (offAll_is k wt hk1 hk8 hw8 (nl.reverse.take i) (fun m hm => (HN0.out m (List.mem_reverse.1 (List.mem_of_mem_take hm))).1)).ok
      have hr1 := Lib.hid (HOK.out _ (List.getElem_mem hfl))
      have hr2 := Lib.hid (HOK.out _ (List.getElem_mem hfj))
      obtain ⟨g, o, rfl, hg, hcs⟩ := HSr.out.1.pos (by omega)
      have c0 : wr.cell? ⟨g, o + i, none⟩ = some (.int .i64 few[i]) := hcs i _ (by simp [hfl])
      have c1 : wr.cell? ⟨g, o + (n - 1 - i), none⟩ = some (.int .i64 few[n - 1 - i]) := hcs (n - 1 - i) _ (by simp [hfj])
      generalize offAll k (qs0 k wt) (nl.take i) = sA at *
      generalize offAll k (qs0 k wt) (nl.reverse.take i) = sB at *
      generalize few[i] = z1 at *
      generalize few[n - 1 - i] = z2 at *
      clear hcs hil hjl hrl hfl hfj
      go_wp2_with (fail)
      refine (around_any z1 100000 _ hr1.out (by omega)).mono ?_
      rintro e wz ⟨rfl, rfl⟩
      have p0 := aroundZ_lo z1 100000 (by omega)
      have p1 := aroundZ_hi z1 100000 (by omega)
      generalize aroundZ z1 100000 = m1 at *
      clear c0
      have hx : ((n : Int) - 1 - i).toNat = n - 1 - i := by omega
      go_wp2_with (fail)
      refine (around_any z2 100000 _ hr2.out (by omega)).mono ?_
      rintro e wz ⟨rfl, rfl⟩
      have p2 := aroundZ_lo z2 100000 (by omega)
      have p3 := aroundZ_hi z2 100000 (by omega)
      generalize aroundZ z2 100000 = m2 at *
      clear c1 hx
      go_upto_region 13 with (fail)
      have HR0T := HTr
      have HR0S := HSr
      have hk9 : (9 : Int) * k ≤ 72 := by omega
      have hk90 : (9 : Int) ≤ 9 * k := by omega
      have e0 : 0 ≤ m1 % (9 * (k : Int)) ∧ m1 % (9 * (k : Int)) < 100000 := ⟨Int.emod_nonneg _ (by omega), by have := Int.emod_lt_of_pos m1 (show 0 < 9 * (k : Int) by omega); omega⟩
      have e1 : 0 ≤ m2 % (9 * (k : Int)) ∧ m2 % (9 * (k : Int)) < 100000 := ⟨Int.emod_nonneg _ (by omega), by have := Int.emod_lt_of_pos m2 (show 0 < 9 * (k : Int) by omega); omega⟩
      have e2 : 0 ≤ m1 / (k : Int) ∧ m1 / (k : Int) ≤ m1 := ⟨Int.ediv_nonneg p0 (by omega), Int.ediv_le_self _ p0⟩
      have e3 : 0 ≤ m2 / (k : Int) ∧ m2 / (k : Int) ≤ m2 := ⟨Int.ediv_nonneg p2 (by omega), Int.ediv_le_self _ p2⟩
      clear HTr HSr
      refine wp_region_mixF (F := colF cA') [(0, true), (1, true), (2, true), (3, true), (4, true), (5, true), (6, true), (7, true), (8, true), (9, true), (10, true), (11, true), (12, false), (13, false)] (by kernel_rfl) (by kernel_rfl) (fun _ _ _ _ _ h => h) ?_
      have HTAW := Lib.hid (HR0T.out.q (Q.drew (Q.refl wr)))
      have HSAW := Lib.hid (HR0S.out.q (Q.drew (Q.refl wr)))
      clear HR0T HR0S
      generalize wr.drew = WA at *
      repeat (refine mixF_val rfl rfl ?_; go_big_quiet_step (fail); refine wpQuiet_nil ?_)
      refine mixF_run rfl rfl ?_
      intro K hK
      go_wp2_with (fail)
      refine (of_any (m1 % (9 * k)) _ (by omega)).mono ?_
      rintro e wo ⟨rfl, hq⟩
      refine hK _ _ (QF.of hq) ?_
      clear hK K
      have HTAo := Lib.hid (HTAW.out.q hq)
      have HSAo := Lib.hid (HSAW.out.q hq)
      clear hq HTAW HSAW
      refine mixF_run rfl rfl ?_
      intro K hK
      go_wp2_with (fail)
      refine (qOffer_any BA cA' sA 2 (m1 % k) (m1 / k % 9) (cN k m1 % 3 - 1) (cN k m1 / 3 % 3 - 1) (cN k m1 / 9) _ HTAo.out.1 HOA.out (by omega) (by omega)).mono ?_
      rintro e wA ⟨rfl, hd⟩
      obtain ⟨cA5, h1, h2, h3⟩ := HTAo.out.stepA hd
      refine hK _ _ h3 ?_
      clear hK K
      have HR1T := Lib.hid h1
      have HR1S := Lib.hid (HSAo.out.stepA h2 h3)
      clear hd h1 h2 h3 HTAo HSAo
      refine mixF_end ?_
      go_upto_region 14 with (fail)
      refine wp_region_mixF (F := colF cB') [(0, true), (1, true), (2, true), (3, true), (4, true), (5, true), (6, true), (7, true), (8, true), (9, true), (10, true), (11, true), (12, false), (13, false)] (by kernel_rfl) (by kernel_rfl) (fun _ _ _ _ _ h => h) ?_
      have HTBW := Lib.hid (HR1T.out.q (Q.drew (Q.refl wA)))
      have HSBW := Lib.hid (HR1S.out.q (Q.drew (Q.refl wA)))
      clear HR1T HR1S
      generalize wA.drew = WB at *
      repeat (refine mixF_val rfl rfl ?_; go_big_quiet_step (fail); refine wpQuiet_nil ?_)
      refine mixF_run rfl rfl ?_
      intro K hK
      go_wp2_with (fail)
      refine (of_any (m2 % (9 * k)) _ (by omega)).mono ?_
      rintro e wo ⟨rfl, hq⟩
      refine hK _ _ (QF.of hq) ?_
      clear hK K
      have HTBo := Lib.hid (HTBW.out.q hq)
      have HSBo := Lib.hid (HSBW.out.q hq)
      clear hq HTBW HSBW
      refine mixF_run rfl rfl ?_
      intro K hK
      go_wp2_with (fail)
      refine (qOffer_any BB cB' sB 2 (m2 % k) (m2 / k % 9) (cN k m2 % 3 - 1) (cN k m2 / 3 % 3 - 1) (cN k m2 / 9) _ HTBo.out.2.1 HOB.out (by omega) (by omega)).mono ?_
      rintro e wB ⟨rfl, hd⟩
      obtain ⟨cB5, h1, h2, h3⟩ := HTBo.out.stepB hd
      refine hK _ _ h3 ?_
      clear hK K
      have HR2T := Lib.hid h1
      have HR2S := Lib.hid (HSBo.out.stepB h2 h3)
      clear hd h1 h2 h3 HTBo HSBo
      refine mixF_end ?_
      go_wp2_with (fail)
      go_roundw
      case rel => exact ⟨i + 1, by omega, by go_num, cA5, cB5, by rw [HA1.out, HB1.out]; exact HR2T.out, HR2S.out⟩
      case measure => simp [intOf]; omega
    · have hi' : ¬ (i : Int) < n := by omega
      have HREV := hid_eq (show offAll k (qs0 k wt) (nl.reverse.take i) = offAll k (qs0 k wt) (nl.take i) by
        rw [List.take_of_length_le (by rw [List.length_reverse, HNn.out]; omega), List.take_of_length_le (by rw [HNn.out]; omega)]
        exact offAll_rev k wt hk1 hk8 hw8 nl (fun m hm => (HN0.out m hm).1))
      have HOA := Lib.hid (offAll_is k wt hk1 hk8 hw8 (nl.take i) (fun m hm => (HN0.out m (List.mem_of_mem_take hm)).1)).ok
      have HKA := Lib.hid (offAll_is k wt hk1 hk8 hw8 (nl.take i) (fun m hm => (HN0.out m (List.mem_of_mem_take hm)).1)).kk
      rw [HREV.out] at HTr
      generalize offAll k (qs0 k wt) (nl.take i) = sA at *
      have HO5 := Lib.hid (ok_adv HOA.out 5)
      have HK5 := Lib.hid (show (advT sA 5).k = k from (adv_is sA 5 HOA.out.n6000).k.trans HKA.out)
      clear HREV
      go_wp2_with (fail)
      refine (qAdvance_any BA cA' sA 5 _ HTr.out.1 HOA.out (by omega)).mono ?_
      rintro e w5 ⟨rfl, hd⟩
      obtain ⟨cA5, h1, h2, h3⟩ := HTr.out.stepA hd
      have HT5 := Lib.hid h1
      clear hd h1 h2 h3
      go_wp2_with (fail)
      refine (qAdvance_any BB cB' sA 5 _ HT5.out.2.1 HOA.out (by omega)).mono ?_
      rintro e w6 ⟨rfl, hd⟩
      obtain ⟨cB6, h1, h2, h3⟩ := HT5.out.stepB hd
      have HT6 := Lib.hid h1
      clear hd h1 h2 h3
      generalize ((advT sA 5).tks.length : Int) - sA.tks.length = rz at *
      generalize advT sA 5 = s5 at *
      have hl6 := HO5.out.n6000
      have hk5 := HO5.out.k1
      go_wp2_with (fail)
      refine (qNext_any BA cA5 s5 _ HT6.out.1).mono ?_
      rintro e w7 ⟨rfl, rfl⟩
      go_wp2_with (fail)
      refine (qNext_any BB cB6 s5 _ HT6.out.2.1).mono ?_
      rintro e w7 ⟨rfl, rfl⟩
      go_wp2_with (fail)
      go_loopw [15] (fun v wx => ∃ t : Nat, v = .int .i64 t ∧ t ≤ s5.tks.length ∧ ∃ cA' cB', TwoQ w wx BA BB cA' cB' s5 s5) (fun v _ => s5.tks.length - (intOf v).toNat)
      case atStart => exact ⟨0, rfl, by omega, cA5, cB6, HT6.out⟩
      case round =>
        obtain ⟨t, rfl, ht, cA7, cB7, hT⟩ := hrel
        have HTt := Lib.hid hT
        clear hT
        by_cases htl : t < s5.tks.length
        · have hti : (t : Int) < s5.tks.length := by omega
          obtain ⟨x, hx⟩ : ∃ x, s5.tks[t]? = some x := ⟨_, List.getElem?_eq_getElem htl⟩
          obtain ⟨i0, hi0, hz0, hz1, hz2⟩ := info_parts infoIn
          have HI0 := Lib.hid hi0
          clear hi0
          have HXl := Lib.hid (show x.1.length = k from (HO5.out.tk1 x (List.mem_of_getElem? hx)).1.trans HK5.out)
          have HXc := Lib.hid (HO5.out.tk1 x (List.mem_of_getElem? hx)).2.2
          have HX := Lib.hid hx
          clear hx
          go_wp2_with (fail)
          refine (qNext_any BA cA7 s5 _ HTt.out.1).mono ?_
          rintro e w9 ⟨rfl, rfl⟩
          go_wp2_with (fail)
          refine (qFixed_yes BA cA7 s5 t x _ HTt.out.1 HO5.out HX.out).mono ?_
          rintro e w2 ⟨fa, fca, fb, fcb, rfl, hfa, _, hq⟩
          have HFA := Lib.hid hfa
          have HT2 := Lib.hid (HTt.out.q hq)
          have HBs := Lib.hid (show w.heap.size ≤ wr.heap.size from HTt.out.2.2.2.1.size)
          have HNW := Lib.hid (show ∀ b, wr.heap.size ≤ b → cA7 b = 0 ∧ cB7 b = 0 from fun b hb => ⟨HTt.out.1.new0 b hb, HTt.out.2.1.new0 b hb⟩)
          clear hfa hq HTt
          rw [HXl.out] at HFA ⊢
          generalize wr.heap.size = bs at *
          go_wp2_with (fail)
          refine (qFixed_yes BB cB7 s5 t x _ HT2.out.2.1 HO5.out HX.out).mono ?_
          rintro e w3 ⟨ga, gca, gb, gcb, rfl, hga, _, hq⟩
          have HGA := Lib.hid (Sl.of_own hga)
          have HFA3 := Lib.hid (own_q HFA.out hq)
          have HT3 := Lib.hid (HT2.out.q hq)
          clear hga hq HFA HT2
          rw [HXl.out] at HGA ⊢
          obtain ⟨gx, hgx, hgx1, hgx2⟩ := own_addr1 HFA3.out (by omega)
          subst hgx
          have HGXa := Lib.hid (And.intro hgx1 hgx2)
          clear hgx1 hgx2
          have HFS := Lib.hid (Sl.of_own HFA3.out)
          go_wp2_with (at_builtin; refine stopAt ?_)
          refine goOn ?_
          refine wpList_append_sl rfl _ _ 49 rfl w3.heap.size 34 i0 _ 3 24 Try.underlying49 HI0.out hz0 hz1 hz2 rfl (by decide) _ 0 [] rfl (World.ownsRow_made w3 #[] 0 (Nat.le_refl _) (by decide) rfl) (some ⟨gx, 0, none⟩) k fca _ rfl (HFS.out.q ((Q.refl w3).alloc _)) (inCells_one x.1) (by omega) (by decide) (by simp) ?_
          intro wa wc4 w4 hown hgrow _
          rw [Nat.zero_add, List.nil_append] at hown
          have hq4 : Q w3 w4 := ((Q.refl w3).alloc _).grown hgrow (fun k hk => by cases hk; exact Nat.le_refl _)
          have HWA := Lib.hid hown
          have HFA4 := Lib.hid (own_q HFA3.out hq4)
          have HGA4 := Lib.hid (HGA.out.q hq4)
          have HT4 := Lib.hid (HT3.out.q hq4)
          clear hown hgrow hq4 HFS HFA3 HGA HT3
          have hF4 := Lib.hid (Sl.of_own HFA4.out)
          rw [Nat.zero_add]
          go_wp2_with (fail)
          refine (equal_any _ _ _ _ _ _ x.1 x.1 _ hF4.out HGA4.out HXc.out HXc.out).mono ?_
          rintro e w5 ⟨rfl, hq5⟩
          rw [show eqB x.1 x.1 = true by simp [eqB]]
          have HWA5 := Lib.hid (own_q HWA.out hq5)
          have HFA5 := Lib.hid (own_q HFA4.out hq5)
          have HT5 := Lib.hid (HT4.out.q hq5)
          clear hq5 HWA HFA4 HGA4 HT4 hF4
          obtain ⟨gw, hgw, hgw1, hgw2⟩ := own_addr1 HWA5.out (by omega)
          subst hgw
          have HGX := Lib.hid (show gw ≠ gx ∧ bs ≤ gx from by have := HGXa.out; omega)
          have hgxl := (HFA5.out.lt gx rfl).2
          have hx0 : 0 < x.1.length := by rw [HXl.out]; omega
          obtain ⟨e0, e1, e2⟩ := inCells_get x.1 0 hx0
          obtain ⟨u0, u0'⟩ := own_cellG HFA5.out _ _ e0
          obtain ⟨u1, u1'⟩ := own_cellG HFA5.out _ _ e1
          obtain ⟨u2, u2'⟩ := own_cellG HFA5.out _ _ e2
          simp only [Nat.zero_mul, Nat.zero_add] at u0 u0' u1 u1' u2 u2'
          generalize x.1[0] = y0 at *
          clear e0 e1 e2 hx0
          have hki : (0 : Int) < k := by omega
          go_wp2_with (fail)
          have q3 : QF (· = gx) w5 (((w5.setCell ⟨gx, 0, none⟩ (.int .i64 1)).setCell ⟨gx, 1, none⟩ (.int .i64 1)).setCell ⟨gx, 2, none⟩ (.int .i64 3)) :=
            ((QF.set (F := (· = gx)) w5 gx 0 _ rfl).setNew gx 1 _ (.inl rfl)).setNew gx 2 _ (.inl rfl)
          have HZ0 := Lib.hid (HNW.out gx HGX.out.2)
          have HT6 := Lib.hid (show TwoQ w (((w5.setCell ⟨gx, 0, none⟩ (.int .i64 1)).setCell ⟨gx, 1, none⟩ (.int .i64 1)).setCell ⟨gx, 2, none⟩ (.int .i64 3)) BA BB cA7 cB7 s5 s5 from
            ⟨HT5.out.1.qf q3 (fun b hb => by rw [hb]; exact HZ0.out.1), HT5.out.2.1.qf q3 (fun b hb => by rw [hb]; exact HZ0.out.2), HT5.out.2.2.1, QF.q HT5.out.2.2.2.1 q3 (fun b hb => by rw [hb]; have h1 := HBs.out; have h2 := HGX.out.2; omega), HT5.out.2.2.2.2⟩)
          have HW6 := Lib.hid (own_qf HWA5.out q3 (fun k' hk' e => by have h1 : gw = k' := Option.some.inj hk'; have h2 : k' = gx := e; have h3 := HGX.out.1; omega))
          clear q3 u0 u0' u1 u1' u2 u2' hgxl hgw1 hgw2 HT5 HWA5 HFA5
          generalize ((w5.setCell ⟨gx, 0, none⟩ (.int .i64 1)).setCell ⟨gx, 1, none⟩ (.int .i64 1)).setCell ⟨gx, 2, none⟩ (.int .i64 3) = w6 at *
          have HST : ∃ z : Int, Hid (z = offE s5 6 0 t (-1) 0 0) ∧ Hid (offT s5 6 0 t (-1) 0 0 = s5) := ⟨_, Lib.hid rfl, Lib.hid (by
            unfold offT
            rw [if_neg]
            intro hz
            obtain ⟨_, _, _, _, _, _, hl, _⟩ := off_zero hz
            omega)⟩
          obtain ⟨ze, HZE, HST⟩ := HST
          refine (qOffer_any BA cA7 s5 6 0 t (-1) 0 0 _ HT6.out.1 HO5.out (by omega) (by omega)).mono ?_
          rintro e w8 ⟨rfl, hd⟩
          rw [HST.out] at hd
          rw [← HZE.out]
          obtain ⟨cA8, h1, h2, h3⟩ := HT6.out.stepA hd
          have HT8 := Lib.hid h1
          have HW8 := Lib.hid (own_qf HW6.out h3 (fun k' hk' e => by
            have h4 : gw = k' := Option.some.inj hk'
            have h5 := (HNW.out gw (by have := HGXa.out; have := (HW6.out.lt gw rfl).1; omega)).1
            rw [h4] at h5
            exact e h5))
          clear hd h1 h2 h3 HT6 HW6
          go_wp2_with (fail)
          refine (qFixed_yes BA cA8 s5 t x _ HT8.out.1 HO5.out HX.out).mono ?_
          rintro e w9 ⟨za, zca, zb, zcb, rfl, hza, _, hq⟩
          have HZA := Lib.hid (Sl.of_own hza)
          have HW9 := Lib.hid (Sl.of_own (own_q HW8.out hq))
          have HT9 := Lib.hid (HT8.out.q hq)
          clear hza hq HT8 HW8
          rw [HXl.out] at HZA ⊢
          go_wp2_with (fail)
          refine (equal_any _ _ _ _ _ _ x.1 x.1 _ HZA.out HW9.out HXc.out HXc.out).mono ?_
          rintro e w10 ⟨rfl, hq⟩
          rw [show eqB x.1 x.1 = true by simp [eqB]]
          have HT10 := Lib.hid (HT9.out.q hq)
          clear hq HT9
          go_wp2_with (fail)
          go_roundw
          case rel => exact ⟨t + 1, by go_num, by omega, cA8, cB7, HT10.out⟩
          case measure => simp [intOf]; omega
        · have hti : ¬ (t : Int) < s5.tks.length := by omega
          go_wp2_with (fail)
          refine (qNext_any BA cA7 s5 _ HTt.out.1).mono ?_
          rintro e w9 ⟨rfl, rfl⟩
          go_wp2_with (fail)
          refine (lives22_any _).mono ?_
          rintro e w10 ⟨rfl, hq⟩
          have Hq10 := Lib.hid (HTt.out.2.2.2.1.trans hq)
          clear hq
          go_wp2
          go_ret
          exact ⟨rfl, Hq10.out⟩
end Go.Proofs.Ytpoffkkkkieniaa
