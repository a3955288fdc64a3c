/- The walk of InputqueueCounts. -/
import Derived.Test.YtpoffkkkkieniaaQWalkB
import Derived.Test.YtpoffkkkkieniaaQO
namespace Go.Proofs.Ytpoffkkkkieniaa
open Go Go.RowKit Go.BigFrame

def zero8 : List Int := List.replicate 8 4
theorem mkIn8 (w : World) : (Instr.makeSlice 49 (.int .i64 8) (.int .i64 8)).run Try.prog w = .ok (.slice (some ⟨w.heap.size, 0, none⟩) 8 8) (w.alloc (.cells (inCells zero8).toArray 34)) := by kernel_rfl
theorem own_in8 (w : World) : (w.alloc (.cells (inCells zero8).toArray 34)).ownsRow w.heap.size 34 3 (.slice (some ⟨w.heap.size, 0, none⟩) 8 8) 8 (inCells zero8) :=
  ⟨by rw [inCells_len]; rfl, .inr ⟨w.heap.size, 8, (inCells zero8).toArray, rfl, Nat.le_refl _, heap_alloc_new w _, Nat.le_refl _, by decide, rfl, rfl⟩⟩
/-- the inputs of the tick before, while those of tick t are taken in -/
def midL (s : QS) (t p : Nat) : List Int := (List.range 8).map (fun q => if q < p then lastL s (t + 1) q else lastL s t q)
theorem midL_zero (s : QS) (t : Nat) : midL s t 0 = (List.range 8).map (lastL s t) := by simp [midL]
theorem midL_end {s : QS} (ok : OkS s) (t : Nat) : midL s t s.k = (List.range 8).map (lastL s (t + 1)) := by
  unfold midL
  refine List.map_congr_left fun q _ => ?_
  by_cases h : q < s.k
  · rw [if_pos h]
  · rw [if_neg h, lastL_far ok t q (by omega), lastL_far ok (t + 1) q (by omega)]
theorem midL_step (s : QS) (t p : Nat) (hp : p < 8) : midL s t (p + 1) = (midL s t p).set p (lastL s (t + 1) p) := list_step 8 p _ _ hp
theorem midL_get (s : QS) (t p : Nat) (hp : p < 8) : (midL s t p)[p]? = some (lastL s t p) := by simp [midL, hp]
theorem midL_len (s : QS) (t p : Nat) : (midL s t p).length = 8 := by simp [midL]
theorem last0 (s : QS) : (List.range 8).map (lastL s 0) = zero8 := by
  rw [show lastL s 0 = fun _ => 4 from funext (lastL_zero s)]
  rfl
set_option maxRecDepth 100000 in
set_option maxHeartbeats 2000000 in
theorem counts_walk (players wait : Int) (a2 : Option Addr) (len2 cap2 : Nat) (z2 : List Int) (w : World) (w0 : (Lit.int .i64 players).wf = true) (w1 : (Lit.int .i64 wait).wf = true) (w2 : IsRow .i64 w a2 len2 cap2 z2) :
    Calls Try.prog 6 #[.int .i64 players, .int .i64 wait, .slice a2 len2 cap2] w fun e w' => e = .returned (.bool true) ∧ Q w w' := by
  have G0 := Lib.hid (wf_i64 w0)
  have G1 := Lib.hid (wf_i64 w1)
  have S2 := Lib.hid (Sl.of_row w2)
  have R2 := Lib.hid (rowsI64 w2)
  clear w0 w1 w2
  generalize z2.take len2 = zl at *
  go_enter Try.func6, Try.ntmps6
  go_wp2_with (fail)
  refine (around_any players 8 _ G0.out (by omega)).mono ?_
  rintro e w1 ⟨rfl, rfl⟩
  have p0 := aroundZ_lo players 8 (by omega)
  have p1 := aroundZ_hi players 8 (by omega)
  obtain ⟨k0, hk0⟩ := Int.eq_ofNat_of_zero_le p0
  rw [hk0] at p1 ⊢
  have hkz : (1 : Int) + k0 = ((k0 + 1 : Nat) : Int) := by omega
  have hk8 : k0 + 1 ≤ 8 := by omega
  have hk1 : 1 ≤ k0 + 1 := by omega
  generalize k0 + 1 = k at *
  clear hk0 p0 p1
  go_wp2_with (fail)
  clear hkz
  refine (around_any wait 9 _ G1.out (by omega)).mono ?_
  rintro e w1 ⟨rfl, rfl⟩
  have p0 := aroundZ_lo wait 9 (by omega)
  have p1 := aroundZ_hi wait 9 (by omega)
  obtain ⟨wt, hwt⟩ := Int.eq_ofNat_of_zero_le p0
  rw [hwt] at p1 ⊢
  have hw8 : wt ≤ 8 := by omega
  clear hwt p0 p1
  go_wp2_with (fail)
  refine (qNew_any k wt _).mono ?_
  rintro e w1 ⟨B, col, rfl, hQ, hq, hc⟩
  have HQ1 := Lib.hid hQ
  have Hq1 := Lib.hid hq
  have HC1 := Lib.hid hc
  clear hQ hq hc
  go_wp2_with (fail)
  refine (acts22_any a2 len2 cap2 k zl _ (S2.out.q Hq1.out) R2.out hk1 hk8).mono ?_
  rintro e w2 ⟨a, cap, rfl, hown, hq⟩
  have HS := Lib.hid (SlO.new HQ1.out hown)
  have HQ2 := Lib.hid (HQ1.out.q hq)
  have Hq2 := Lib.hid (Hq1.out.trans hq)
  have hlz : (zl.take 40).length = min len2 40 := by
    have := S2.out.1
    simp at this
    rw [List.length_take, this, Nat.min_comm]
  have HLN := Lib.hid (show (acts22 k (zl.take 40)).length = min len2 40 by rw [acts22_len, hlz])
  have HOK := Lib.hid (acts22_ok k (zl.take 40) (by omega) (by rw [hlz]; omega))
  have hn40 : min len2 40 ≤ 40 := by omega
  clear hown hq hlz HQ1 Hq1
  obtain ⟨bA, HBA⟩ : ∃ b : Nat, Hid (w.heap.size ≤ b ∧ b ≤ w2.heap.size ∧ ∀ x, a = some x → x.block < b) := ⟨w2.heap.size, Lib.hid ⟨Hq2.out.size, Nat.le_refl _, fun x hx => (HS.out.2 x hx).1⟩⟩
  generalize acts22 k (zl.take 40) = acl at *
  generalize min len2 40 = n at *
  go_wp2_with (fail)
  go_loopw [11, 10] (fun v av wr => ∃ i : Nat, i ≤ n ∧ v = .int .i64 i ∧ ∃ col' s' ba cp L, av = .slice ba L.length cp ∧ L.length ≤ i ∧ (Que wr B col' s' ∧ OkS s' ∧ s'.k = k ∧ Inv s' ∧ AccL s' L) ∧ (bA ≤ wr.heap.size ∧ wr.ownsRow bA 36 7 (.slice ba L.length cp) L.length (L.flatMap a22C) ∧ ∀ g, (Value.slice ba L.length cp).ownBlock = some g → col' g = 0) ∧ SlO wr col' 7 a n cap (acl.flatMap a22C) ∧ Q w wr ∧ ∀ b, b < w.heap.size → col' b = 0) (fun v _ _ => n - (intOf v).toNat)
  case atStart => exact ⟨0, by omega, rfl, col, qs0 k wt, none, 0, [], rfl, by simp, ⟨HQ2.out, ok0 hk1 hk8 hw8, rfl, inv0 _ _, accL0 _ _⟩, ⟨HBA.out.2.1, World.ownsRow_nil _ _ _ _, fun g hg => by cases hg⟩, HS.out, Hq2.out, HC1.out⟩
  case round =>
    obtain ⟨i, hin, rfl, col', s', ba, cp, L, rfl, hLi, hQ', hA', hS', hq', hc'⟩ := hrel
    have HQr := Lib.hid hQ'.1
    have HOr := Lib.hid hQ'.2.1
    have HKr := Lib.hid hQ'.2.2.1
    have HIr := Lib.hid hQ'.2.2.2.1
    have HLr := Lib.hid hQ'.2.2.2.2
    have HAc := Lib.hid hA'
    have HSr := Lib.hid hS'
    have Hqr := Lib.hid hq'
    have HCr := Lib.hid hc'
    clear hQ' hA' hS' hq' hc' HQ2 HS Hq2 HC1
    by_cases hi : i < n
    · have hil : i < acl.length := by rw [HLN.out]; exact hi
      have hi' : (i : Int) < n := by omega
      obtain ⟨g, o, rfl, hg, hcs⟩ := HSr.out.1.act i hil
      have HAI := Lib.hid (HOK.out _ (List.getElem_mem hil))
      generalize acl[i] = ac at *
      have c0 : wr.cell? ⟨g, o + i * 7, none⟩ = some (.int .i64 ac.dx) := hcs 0 _ rfl
      have c1 : wr.cell? ⟨g, o + i * 7 + 1, none⟩ = some (.int .i64 ac.now) := hcs 1 _ rfl
      have c2 : wr.cell? ⟨g, o + i * 7 + 2, none⟩ = some (.int .i64 ac.p) := hcs 2 _ rfl
      have c3 : wr.cell? ⟨g, o + i * 7 + 3, none⟩ = some (.int .i64 ac.t) := hcs 3 _ rfl
      have c4 : wr.cell? ⟨g, o + i * 7 + 4, none⟩ = some (.int .i64 ac.a) := hcs 4 _ rfl
      have c5 : wr.cell? ⟨g, o + i * 7 + 5, none⟩ = some (.int .i64 ac.b) := hcs 5 _ rfl
      have c6 : wr.cell? ⟨g, o + i * 7 + 6, none⟩ = some (.int .i64 ac.f) := hcs 6 _ rfl
      clear hcs
      go_upto_region 11 with (fail)
      have HG : Hid (Box (wr.alloc (.cells #[.int .i64 ac.dx, .int .i64 ac.now, .int .i64 ac.p, .int .i64 ac.t, .int .i64 ac.a, .int .i64 ac.b, .int .i64 ac.f] 36)) wr.heap.size (a22C ac)) := Lib.hid (Box.new wr (a22C ac) 36)
      have HQ8 := Lib.hid (HQr.out.q ((Q.refl wr).alloc (.cells #[.int .i64 ac.dx, .int .i64 ac.now, .int .i64 ac.p, .int .i64 ac.t, .int .i64 ac.a, .int .i64 ac.b, .int .i64 ac.f] 36)))
      have HS8 := Lib.hid (HSr.out.q ((Q.refl wr).alloc (.cells #[.int .i64 ac.dx, .int .i64 ac.now, .int .i64 ac.p, .int .i64 ac.t, .int .i64 ac.a, .int .i64 ac.b, .int .i64 ac.f] 36)))
      have Hq8 := Lib.hid (Hqr.out.alloc (.cells #[.int .i64 ac.dx, .int .i64 ac.now, .int .i64 ac.p, .int .i64 ac.t, .int .i64 ac.a, .int .i64 ac.b, .int .i64 ac.f] 36))
      have HB8 := Lib.hid (Nat.le_trans HAc.out.1 ((Q.refl wr).alloc (.cells #[.int .i64 ac.dx, .int .i64 ac.now, .int .i64 ac.p, .int .i64 ac.t, .int .i64 ac.a, .int .i64 ac.b, .int .i64 ac.f] 36)).size)
      have HA8 := Lib.hid (own_q HAc.out.2.1 ((Q.refl wr).alloc (.cells #[.int .i64 ac.dx, .int .i64 ac.now, .int .i64 ac.p, .int .i64 ac.t, .int .i64 ac.a, .int .i64 ac.b, .int .i64 ac.f] 36)))
      have HG0 := Lib.hid (show col' wr.heap.size = 0 from HQr.out.new0 _ (Nat.le_refl _))
      clear c0 c1 c2 c3 c4 c5 c6 hg HSr HQr Hqr
      generalize wr.alloc (.cells #[.int .i64 ac.dx, .int .i64 ac.now, .int .i64 ac.p, .int .i64 ac.t, .int .i64 ac.a, .int .i64 ac.b, .int .i64 ac.f] 36) = w8 at *
      generalize wr.heap.size = G at *
      have hac0 := HAI.out.n0
      have hac1 := HAI.out.n1
      have d0 : w8.cell? ⟨G, 0, none⟩ = some (.int .i64 ac.dx) := (HG.out.2 0 _ rfl).1
      have d1 : w8.cell? ⟨G, 1, none⟩ = some (.int .i64 ac.now) := (HG.out.2 1 _ rfl).1
      have d2 : w8.cell? ⟨G, 2, none⟩ = some (.int .i64 ac.p) := (HG.out.2 2 _ rfl).1
      have d3 : w8.cell? ⟨G, 3, none⟩ = some (.int .i64 ac.t) := (HG.out.2 3 _ rfl).1
      have d4 : w8.cell? ⟨G, 4, none⟩ = some (.int .i64 ac.a) := (HG.out.2 4 _ rfl).1
      have d5 : w8.cell? ⟨G, 5, none⟩ = some (.int .i64 ac.b) := (HG.out.2 5 _ rfl).1
      have d6 : w8.cell? ⟨G, 6, none⟩ = some (.int .i64 ac.f) := (HG.out.2 6 _ rfl).1
      have HAT := Lib.hid (show -9223372036854775808 ≤ ac.t ∧ ac.t ≤ 9223372036854775807 by have h1 := HAI.out.t0; have h2 := HAI.out.t1; omega)
      have HAC0 := Lib.hid HAc.out.2.2
      clear HAc
      by_cases hdx : ac.dx = 1
      · have hd0 : (ac.dx == 1) = true := by simpa using hdx
        clear hdx
        go_wp2_with (fail)
        refine (qAdvance_any B col' s' ac.now _ HQ8.out HOr.out (by omega)).mono ?_
        rintro e w9 ⟨rfl, hd⟩
        obtain ⟨col9, h1, h2, h3, h4, h5⟩ := qstep Hq8.out HCr.out hd
        have HX := Lib.hid (show _ from And.intro h1 (And.intro (ok_adv HOr.out ac.now) (And.intro (HS8.out.done h4 h5) (And.intro h2 h3))))
        have HK9 := Lib.hid (show (advT s' ac.now).k = k from (adv_is s' ac.now HOr.out.n6000).k.trans HKr.out)
        have HI9 := Lib.hid (show Inv (advT s' ac.now) ∧ AccL (advT s' ac.now) L from ⟨inv_adv HIr.out HOr.out _, accL_adv HLr.out HOr.out _⟩)
        have HA9 := Lib.hid (show bA ≤ w9.heap.size ∧ w9.ownsRow bA 36 7 (.slice ba L.length cp) L.length (L.flatMap a22C) ∧ ∀ g, (Value.slice ba L.length cp).ownBlock = some g → col9 g = 0 from
          ⟨Nat.le_trans HB8.out h5.size, own_qf HA8.out h5 (fun g' hg' hc => hc (HAC0.out g' hg')), fun g' hg' => (h4 g' (HA8.out.lt g' hg').2).trans (HAC0.out g' hg')⟩)
        clear hd h1 h2 h3 h4 h5 d0 d1 d2 d3 d4 d5 d6
        go_wp2_with (fail)
        go_roundw
        case rel => exact ⟨i + 1, by omega, by go_num, col9, _, ba, cp, L, rfl, by omega, ⟨HX.out.1, HX.out.2.1, HK9.out, HI9.out.1, HI9.out.2⟩, HA9.out, HX.out.2.2.1, HX.out.2.2.2.1, HX.out.2.2.2.2⟩
        case measure => simp [intOf]; omega
      · have hd0 : (ac.dx == 1) = false := by simpa using hdx
        clear hdx
        go_wp2_with (fail)
        refine (qOffer_any B col' s' ac.now ac.p ac.t ac.a ac.b ac.f _ HQ8.out HOr.out (by omega) HAT.out).mono ?_
        rintro e w9 ⟨rfl, hd⟩
        obtain ⟨col9, h1, h2, h3, h4, h5⟩ := qstep Hq8.out HCr.out hd
        have HQ9 := Lib.hid h1
        have Hq9 := Lib.hid h2
        have HC9 := Lib.hid h3
        have HS9 := Lib.hid (HS8.out.done h4 h5)
        have HG9 := Lib.hid (BoxO.done HG.out HG0.out h4 h5)
        have HK9 := Lib.hid (show (offT s' ac.now ac.p ac.t ac.a ac.b ac.f).k = k from by unfold offT; split <;> exact HKr.out)
        have HO9 := Lib.hid (show OkS (offT s' ac.now ac.p ac.t ac.a ac.b ac.f) ∧ Inv (offT s' ac.now ac.p ac.t ac.a ac.b ac.f) from ⟨ok_off HOr.out _ _ _ _ _ _, inv_off HIr.out _ _ _ _ _ _⟩)
        have HA9 := Lib.hid (show bA ≤ w9.heap.size ∧ w9.ownsRow bA 36 7 (.slice ba L.length cp) L.length (L.flatMap a22C) ∧ ∀ g, (Value.slice ba L.length cp).ownBlock = some g → col9 g = 0 from
          ⟨Nat.le_trans HB8.out h5.size, own_qf HA8.out h5 (fun g' hg' hc => hc (HAC0.out g' hg')), fun g' hg' => (h4 g' (HA8.out.lt g' hg').2).trans (HAC0.out g' hg')⟩)
        clear hd h1 h2 h3 h4 h5 d0 d1 d2 d3 d4 d5 d6 HQ8 HS8 Hq8 HG HG0 HA8 HAC0
        by_cases hz : offE s' ac.now ac.p ac.t ac.a ac.b ac.f = 0
        · have HAL := Lib.hid (accL_off HLr.out HOr.out ac hz)
          have HAL2 := Lib.hid (show (L ++ [ac]).length = L.length + 1 by simp)
          rw [hz]
          clear hz
          generalize offT s' ac.now ac.p ac.t ac.a ac.b ac.f = s9 at *
          obtain ⟨i0, hi0, hz0, hz1, hz2⟩ := info_parts infoA22
          have HI0 := Lib.hid hi0
          clear hi0
          have d0 : w9.cell? ⟨G, 0, none⟩ = some (.int .i64 ac.dx) := (HG9.out.1.2 0 _ rfl).1
          have d1 : w9.cell? ⟨G, 1, none⟩ = some (.int .i64 ac.now) := (HG9.out.1.2 1 _ rfl).1
          have d2 : w9.cell? ⟨G, 2, none⟩ = some (.int .i64 ac.p) := (HG9.out.1.2 2 _ rfl).1
          have d3 : w9.cell? ⟨G, 3, none⟩ = some (.int .i64 ac.t) := (HG9.out.1.2 3 _ rfl).1
          have d4 : w9.cell? ⟨G, 4, none⟩ = some (.int .i64 ac.a) := (HG9.out.1.2 4 _ rfl).1
          have d5 : w9.cell? ⟨G, 5, none⟩ = some (.int .i64 ac.b) := (HG9.out.1.2 5 _ rfl).1
          have d6 : w9.cell? ⟨G, 6, none⟩ = some (.int .i64 ac.f) := (HG9.out.1.2 6 _ rfl).1
          have hGl := HG9.out.1.1
          go_wp2_with (at_builtin; refine stopAt ?_)
          refine goOn ?_
          refine wpList_append_sl rfl _ _ 31 rfl bA 36 i0 _ 7 56 Try.underlying31 HI0.out hz0 hz1 hz2 rfl (by decide) _ L.length _ rfl (HA9.out.2.1.alloc _) (some ⟨w9.heap.size, 0, none⟩) 1 1 (a22C ac) rfl (sl_alloc w9 (a22C ac) 36 7 rfl) (by simp [a22C, Value.oneCell']) (by omega) (by decide) (by have := HA9.out.1; rw [World.size_alloc]; omega) ?_
          intro ba2 cp2 w10 hown hgrow hgT
          have hF : QF (fun b => (Value.slice ba L.length cp).ownBlock = some b) w9 w10 := (QF.of ((Q.refl w9).alloc (.cells (a22C ac).toArray 36))).trans (QF.grown hgrow (fun k hk => hk)) (fun i h => .inl h)
          have HQ10 := Lib.hid (HQ9.out.qf hF (fun b hb => HA9.out.2.2 b hb))
          have HS10 := Lib.hid (show SlO w10 col9 7 (some ⟨g, o, none⟩) n cap (acl.flatMap a22C) from ⟨HS9.out.1.qf hF (fun x hx hc => by have h1 := (HA9.out.2.1.lt x.block hc).1; have h2 := HBA.out.2.2 x hx; omega), fun x hx => ⟨Nat.lt_of_lt_of_le (HS9.out.2 x hx).1 hF.size, (HS9.out.2 x hx).2⟩⟩)
          have Hq10 := Lib.hid (QF.q Hq9.out hF (fun b hb => Nat.le_trans HBA.out.1 (HA9.out.2.1.lt b hb).1))
          have HA10 := Lib.hid (show bA ≤ w10.heap.size ∧ w10.ownsRow bA 36 7 (.slice ba2 (L.length + 1) cp2) (L.length + 1) ((L ++ [ac]).flatMap a22C) ∧ ∀ g, (Value.slice ba2 (L.length + 1) cp2).ownBlock = some g → col9 g = 0 from
            ⟨Nat.le_trans HA9.out.1 hF.size, by rw [List.flatMap_append, List.flatMap_singleton]; exact hown, fun g' hg' => by
              rcases hgT g' hg' with h | h
              · exact HA9.out.2.2 g' h
              · rw [h]; exact HQ9.out.new0 _ (by rw [World.size_alloc]; omega)⟩)
          clear hown hgrow hgT hF d0 d1 d2 d3 d4 d5 d6 hGl
          go_wp2_with (fail)
          go_roundw
          case rel => exact ⟨i + 1, by omega, by go_num, col9, s9, ba2, cp2, L ++ [ac], by rw [HAL2.out], by rw [HAL2.out]; omega, ⟨HQ10.out, HO9.out.1, HK9.out, HO9.out.2, HAL.out⟩, by rw [HAL2.out]; exact HA10.out, HS10.out, Hq10.out, HC9.out⟩
          case measure => simp [intOf]; omega
        · have HST := hid_eq (offT_no hz)
          have hzb : (offE s' ac.now ac.p ac.t ac.a ac.b ac.f == 0) = false := by simpa using hz
          rw [HST.out] at HQ9 HO9 HK9
          clear hz
          go_wp2_with (fail)
          go_roundw
          case rel => exact ⟨i + 1, by omega, by go_num, col9, s', ba, cp, L, rfl, by omega, ⟨HQ9.out, HO9.out.1, HK9.out, HO9.out.2, HLr.out⟩, HA9.out, HS9.out, Hq9.out, HC9.out⟩
          case measure => simp [intOf]; omega
    · have hi' : ¬ (i : Int) < n := by omega
      have hmk : ∀ w : World, (Instr.makeSlice 49 (.int .i64 8) (.int .i64 8)).run Try.prog w = .ok (.slice (some ⟨w.heap.size, 0, none⟩) 8 8) (w.alloc (.cells (inCells zero8).toArray 34)) := mkIn8
      have hl6 := HOr.out.n6000
      have HL40 := Lib.hid (show L.length ≤ 40 by omega)
      clear hLi
      go_upto_region 16 with (fail)
      have HOW := Lib.hid (own_in8 wr)
      have HQa := Lib.hid (HQr.out.q ((Q.refl wr).alloc (.cells (inCells zero8).toArray 34)))
      have Hqa := Lib.hid (Hqr.out.alloc (.cells (inCells zero8).toArray 34))
      have HAa := Lib.hid (Sl.q (Sl.of_own HAc.out.2.1) ((Q.refl wr).alloc (.cells (inCells zero8).toArray 34)))
      have HLB := Lib.hid (show col' wr.heap.size = 0 ∧ w.heap.size ≤ wr.heap.size ∧ ∀ x, ba = some x → x.block < wr.heap.size from ⟨HQr.out.new0 _ (Nat.le_refl _), Hqr.out.size, fun x hx => (HAc.out.2.1.lt x.block (by subst hx; rfl)).2⟩)
      clear hmk HAc HSr HQr Hqr
      generalize wr.alloc (.cells (inCells zero8).toArray 34) = wa at *
      generalize wr.heap.size = LB at *
      go_wp2_with (fail)
      go_loopw [14] (fun v wx => ∃ t : Nat, v = .int .i64 t ∧ t ≤ s'.tks.length ∧ Que wx B col' s' ∧ Sl wx 7 ba L.length cp (L.flatMap a22C) ∧ Q w wx ∧ wx.ownsRow LB 34 3 (.slice (some ⟨LB, 0, none⟩) 8 8) 8 (inCells ((List.range 8).map (lastL s' t)))) (fun v _ => s'.tks.length - (intOf v).toNat)
      case atStart => exact ⟨0, rfl, by omega, HQa.out, HAa.out, Hqa.out, by rw [last0]; exact HOW.out⟩
      case round =>
        obtain ⟨t, rfl, ht, hQt, hSt, hqt, hot⟩ := hrel
        have HQt := Lib.hid hQt
        have HSt := Lib.hid hSt
        have Hqt := Lib.hid hqt
        have HOt := Lib.hid hot
        clear hQt hSt hqt hot
        by_cases htl : t < s'.tks.length
        · have hti : (t : Int) < s'.tks.length := by omega
          obtain ⟨x, hx⟩ : ∃ x, s'.tks[t]? = some x := ⟨_, List.getElem?_eq_getElem htl⟩
          have HXl := Lib.hid (show x.1.length = k ∧ x.2.length = k from ⟨(HOr.out.tk1 x (List.mem_of_getElem? hx)).1.trans HKr.out, (HOr.out.tk1 x (List.mem_of_getElem? hx)).2.1.trans HKr.out⟩)
          have HX := Lib.hid hx
          clear hx
          go_wp2_with (fail)
          refine (qNext_any B col' s' _ HQt.out).mono ?_
          rintro e wz ⟨rfl, rfl⟩
          go_wp2_with (fail)
          refine (qFixed_yes B col' s' t x _ HQt.out HOr.out HX.out).mono ?_
          rintro e wz ⟨fa, fca, fb, fcb, rfl, hfa, hfb, hqz⟩
          have HFA := Lib.hid (show Sl wz 3 fa x.1.length fca (inCells x.1) ∧ ∀ y, fa = some y → LB < y.block from ⟨Sl.of_own hfa, fun y hy => by
            have h0 := (HOt.out.lt LB rfl).2
            have h1 := (hfa.lt y.block (by subst hy; rfl)).1
            omega⟩)
          have HFB := Lib.hid (show Sl wz 1 fb x.2.length fcb (x.2.map Value.bool) ∧ ∀ y, fb = some y → LB < y.block from ⟨Sl.of_own hfb, fun y hy => by
            have h0 := (HOt.out.lt LB rfl).2
            have h1 := (hfb.lt y.block (by subst hy; rfl)).1
            omega⟩)
          have HQz := Lib.hid (HQt.out.q hqz)
          have HSz := Lib.hid (HSt.out.q hqz)
          have Hqz := Lib.hid (Hqt.out.trans hqz)
          have HOz := Lib.hid (own_q HOt.out hqz)
          clear hfa hfb hqz HQt HSt Hqt HOt
          rw [HXl.out.1, HXl.out.2]
          rw [HXl.out.1] at HFA
          rw [HXl.out.2] at HFB
          go_wp2_with (fail)
          go_loopw [18] (fun v wx => ∃ p : Nat, v = .int .i64 p ∧ p ≤ k ∧ Que wx B col' s' ∧ Sl wx 7 ba L.length cp (L.flatMap a22C) ∧ Q w wx ∧ wx.ownsRow LB 34 3 (.slice (some ⟨LB, 0, none⟩) 8 8) 8 (inCells (midL s' t p)) ∧ Sl wx 3 fa k fca (inCells x.1) ∧ Sl wx 1 fb k fcb (x.2.map Value.bool)) (fun v _ => k - (intOf v).toNat)
          case atStart => exact ⟨0, rfl, by omega, HQz.out, HSz.out, Hqz.out, by rw [midL_zero]; exact HOz.out, HFA.out.1, HFB.out.1⟩
          case round =>
            obtain ⟨p, rfl, hp, hQp, hSp, hqp, hop, hap, hbp⟩ := hrel
            have HQp := Lib.hid hQp
            have HSp := Lib.hid hSp
            have Hqp := Lib.hid hqp
            have HOp := Lib.hid hop
            have HAp := Lib.hid hap
            have HBp := Lib.hid hbp
            clear hQp hSp hqp hop hap hbp HQz HSz Hqz HOz
            by_cases hpk : p < k
            · have hpi : (p : Int) < k := by omega
              have hp8 : p < 8 := by omega
              have hml : p < (midL s' t p).length := by rw [midL_len]; exact hp8
              obtain ⟨e0, e1, e2⟩ := inCells_get (midL s' t p) p hml
              have hmg : (midL s' t p)[p] = lastL s' t p := by
                have := midL_get s' t p hp8
                rw [List.getElem?_eq_getElem hml] at this
                exact Option.some.inj this
              rw [hmg] at e0 e1 e2
              have m0 := (own_cellG HOp.out _ _ e0).1
              have m1 := (own_cellG HOp.out _ _ e1).1
              have m2 := (own_cellG HOp.out _ _ e2).1
              clear e0 e1 e2 hmg hml
              go_wp2_with (fail)
              refine (iPredict_any (lastL s' t p % 3 - 1) (lastL s' t p / 3 % 3 - 1) (lastL s' t p / 9) _).mono ?_
              rintro e w2 ⟨rfl, hq2⟩
              have HQ2' := Lib.hid hq2
              clear hq2 m0 m1 m2
              go_upto_region 26 with (fail)
              obtain ⟨dd, HDD⟩ : ∃ dd : Int, Hid (dd = lastL s' t p % 9) := ⟨_, Lib.hid rfl⟩
              have hd1 : dd % 3 - 1 = lastL s' t p % 3 - 1 := by rw [HDD.out]; omega
              have hd2 : dd / 3 % 3 - 1 = lastL s' t p / 3 % 3 - 1 := by rw [HDD.out]; omega
              have hd3 : dd / 9 = 0 := by rw [HDD.out]; omega
              have HWB : Hid (Box (w2.alloc (.cells #[.int .i64 (lastL s' t p % 3 - 1), .int .i64 (lastL s' t p / 3 % 3 - 1), .int .i64 0] 34)) w2.heap.size (inC dd)) := Lib.hid (by
                unfold inC
                rw [hd1, hd2, hd3]
                exact Box.new w2 _ 34)
              have hqq : Q wr (w2.alloc (.cells #[.int .i64 (lastL s' t p % 3 - 1), .int .i64 (lastL s' t p / 3 % 3 - 1), .int .i64 0] 34)) := HQ2'.out.alloc _
              have HQb := Lib.hid (HQp.out.q hqq)
              have HSb := Lib.hid (HSp.out.q hqq)
              have Hqb := Lib.hid (Hqp.out.trans hqq)
              have HOb := Lib.hid (own_q HOp.out hqq)
              have HAb := Lib.hid (HAp.out.q hqq)
              have HBb := Lib.hid (HBp.out.q hqq)
              have HWL := Lib.hid (show wr.heap.size ≤ w2.heap.size from HQ2'.out.size)
              have HWz := Lib.hid (show col' w2.heap.size = 0 ∧ LB < w2.heap.size ∧ w.heap.size ≤ w2.heap.size ∧ (∀ x, ba = some x → x.block < w2.heap.size) from by
                have h1 := (HOp.out.lt LB rfl).2
                have h2 := Hqp.out.size
                have h3 := HQ2'.out.size
                have h4 := HLB.out.2.2
                exact ⟨HQp.out.new0 _ h3, by omega, by omega, fun x hx => by have := h4 x hx; omega⟩)
              have HFAx := Lib.hid (show ∀ y, fa = some y → y.block ≠ LB from fun y hy => by have := HFA.out.2 y hy; omega)
              have HFBx := Lib.hid (show ∀ y, fb = some y → y.block ≠ LB from fun y hy => by have := HFB.out.2 y hy; omega)
              have HFAw := Lib.hid (show (∀ y, fa = some y → y.block < w2.heap.size) ∧ ∀ y, fb = some y → y.block < w2.heap.size from by
                have h3 := HQ2'.out.size
                refine ⟨fun y hy => ?_, fun y hy => ?_⟩
                · obtain ⟨g, o, he, hg, _⟩ := HAp.out.pos (by omega)
                  rw [he] at hy; cases hy
                  exact Nat.lt_of_lt_of_le hg h3
                · obtain ⟨g, o, he, hg, _⟩ := HBp.out.pos (by omega)
                  rw [he] at hy; cases hy
                  exact Nat.lt_of_lt_of_le hg h3)
              clear hqq HQp HSp Hqp HOp HAp HBp HQ2' hd1 hd2 hd3
              generalize w2.alloc (.cells #[.int .i64 (lastL s' t p % 3 - 1), .int .i64 (lastL s' t p / 3 % 3 - 1), .int .i64 0] 34) = wb at *
              generalize w2.heap.size = WB at *
              go_wp2_with (fail)
              go_loopw [20, 21] (fun gv v wx => ∃ j : Nat, v = .int .i64 j ∧ j ≤ L.length ∧ gv = .bool (lastM (L.take j) p t).isSome ∧ Box wx WB (inC (wantC s' t p (lastM (L.take j) p t))) ∧ QF (· = WB) wb wx) (fun _ v _ => L.length - (intOf v).toNat)
              case atStart => exact ⟨0, rfl, by omega, rfl, by show Box wb WB (inC (lastL s' t p % 9)); rw [← HDD.out]; exact HWB.out, QF.refl _ _⟩
              case round =>
                obtain ⟨j, rfl, hj, rfl, hbw, hqf⟩ := hrel
                have HBW := Lib.hid hbw
                have HQF := Lib.hid hqf
                clear hbw hqf
                by_cases hjl : j < L.length
                · have hji : (j : Int) < L.length := by omega
                  have hL40 := HL40.out
                  have HSj := Lib.hid (HSb.out.qf HQF.out (fun x hx e => by have h1 := HWz.out.2.2.2 x hx; have h2 : x.block = WB := e; omega))
                  obtain ⟨g, o, rfl, hg, hcs⟩ := HSj.out.act j hjl
                  have HVA := Lib.hid (HLr.out.ok _ (List.getElem_mem hjl))
                  have HSN := Lib.hid (show lastM (L.take (j + 1)) p t = if L[j].p = p ∧ L[j].t = t then some L[j] else lastM (L.take j) p t by rw [take_snoc_get _ _ hjl, lastM_snoc])
                  generalize L[j] = ac at *
                  have q2 : wr.cell? ⟨g, o + j * 7 + 2, none⟩ = some (.int .i64 ac.p) := hcs 2 _ rfl
                  have q3 : wr.cell? ⟨g, o + j * 7 + 3, none⟩ = some (.int .i64 ac.t) := hcs 3 _ rfl
                  have q4 : wr.cell? ⟨g, o + j * 7 + 4, none⟩ = some (.int .i64 ac.a) := hcs 4 _ rfl
                  have q5 : wr.cell? ⟨g, o + j * 7 + 5, none⟩ = some (.int .i64 ac.b) := hcs 5 _ rfl
                  have q6 : wr.cell? ⟨g, o + j * 7 + 6, none⟩ = some (.int .i64 ac.f) := hcs 6 _ rfl
                  clear hcs
                  by_cases hm1 : ac.p = p
                  · have hb1 : (ac.p == (p : Int)) = true := by simpa using hm1
                    by_cases hm2 : ac.t = t
                    · have hb2 : (ac.t == (t : Int)) = true := by simpa using hm2
                      have HM := Lib.hid (show lastM (L.take (j + 1)) p t = some ac by rw [HSN.out, if_pos ⟨hm1, hm2⟩])
                      obtain ⟨v1, v2, v3⟩ := code_back HVA.out
                      have HV := Lib.hid (And.intro v1 (And.intro v2 v3))
                      have b0 := HBW.out.2 0 _ rfl
                      have b1 := HBW.out.2 1 _ rfl
                      have b2 := HBW.out.2 2 _ rfl
                      obtain ⟨b00, b01⟩ := b0
                      obtain ⟨b10, b11⟩ := b1
                      obtain ⟨b20, b21⟩ := b2
                      have hWl := HBW.out.1
                      clear hm1 hm2 v1 v2 v3
                      go_wp2_with (fail)
                      go_roundw
                      case rel =>
                        refine ⟨j + 1, by go_num, by omega, by rw [HM.out]; rfl, ?_, ((HQF.out.setNew WB 0 _ (.inl rfl)).setNew WB 1 _ (.inl rfl)).setNew WB 2 _ (.inl rfl)⟩
                        rw [HM.out]
                        have h := Box.set (Box.set (Box.set HBW.out 0 (.int .i64 ac.a) (show 0 < 3 by decide)) 1 (.int .i64 ac.b) (show 1 < 3 by decide)) 2 (.int .i64 ac.f) (show 2 < 3 by decide)
                        have e : inC (wantC s' t p (some ac)) = [.int .i64 ac.a, .int .i64 ac.b, .int .i64 ac.f] := by
                          show inC (cOf ac) = _
                          unfold inC cOf
                          rw [← HV.out.1, ← HV.out.2.1, ← HV.out.2.2]
                        rw [e]
                        exact h
                      case measure => simp [intOf]; omega
                    · have hb2 : (ac.t == (t : Int)) = false := by simpa using hm2
                      have HM := Lib.hid (show lastM (L.take (j + 1)) p t = lastM (L.take j) p t by rw [HSN.out, if_neg (fun h => hm2 h.2)])
                      clear hm1 hm2
                      go_wp2_with (fail)
                      go_roundw
                      case rel => exact ⟨j + 1, by go_num, by omega, by rw [HM.out], by rw [HM.out]; exact HBW.out, HQF.out⟩
                      case measure => simp [intOf]; omega
                  · have hb1 : (ac.p == (p : Int)) = false := by simpa using hm1
                    have HM := Lib.hid (show lastM (L.take (j + 1)) p t = lastM (L.take j) p t by rw [HSN.out, if_neg (fun h => hm1 h.1)])
                    clear hm1
                    go_wp2_with (fail)
                    go_roundw
                    case rel => exact ⟨j + 1, by go_num, by omega, by rw [HM.out], by rw [HM.out]; exact HBW.out, HQF.out⟩
                    case measure => simp [intOf]; omega
                · have hji : ¬ (j : Int) < L.length := by omega
                  have hjt : L.take j = L := List.take_of_length_le (by omega)
                  have HQe := Lib.hid (HQb.out.qf HQF.out (fun b hb => by rw [hb]; exact HWz.out.1))
                  have Hqe := Lib.hid (QF.q Hqb.out HQF.out (fun b hb => by rw [hb]; exact HWz.out.2.2.1))
                  have HSe := Lib.hid (HSb.out.qf HQF.out (fun x hx e => by have h1 := HWz.out.2.2.2 x hx; have h2 : x.block = WB := e; omega))
                  have HOe := Lib.hid (own_qf HOb.out HQF.out (fun k' hk' e => by have h1 : LB = k' := Option.some.inj hk'; have h2 : k' = WB := e; have h3 := HWz.out.2.1; omega))
                  have HAe := Lib.hid (HAb.out.qf HQF.out (fun x hx e => by have h1 := HFAw.out.1 x hx; have h2 : x.block = WB := e; omega))
                  have HBe := Lib.hid (HBb.out.qf HQF.out (fun x hx e => by have h1 := HFAw.out.2 x hx; have h2 : x.block = WB := e; omega))
                  obtain ⟨cl1, cl2⟩ := counts_law HIr.out HLr.out t p x HX.out (by rw [HKr.out]; exact hpk)
                  have HSUC := Lib.hid (show lastL s' (t + 1) p = wantC s' t p (lastM L p t) by rw [lastL_succ HX.out, List.getD, cl1]; rfl)
                  have HBWe := Lib.hid (show Box wr WB (inC (wantC s' t p (lastM L p t))) by have h := HBW.out; rw [hjt] at h; exact h)
                  have HGV := hid_eq (show lastM (L.take j) p t = lastM L p t by rw [hjt])
                  rw [HGV.out]
                  clear hjt HQb Hqb HSb HOb HAb HBb HQF HBW HWB HGV
                  have hpx1 : p < x.1.length := (List.getElem?_eq_some_iff.1 cl1).1
                  have hx1 : x.1[p] = wantC s' t p (lastM L p t) := (List.getElem?_eq_some_iff.1 cl1).2
                  obtain ⟨e0, e1, e2⟩ := inCells_get x.1 p hpx1
                  rw [hx1] at e0 e1 e2
                  obtain ⟨ga, oa, rfl, hga, hca⟩ := HAe.out.pos (by omega)
                  obtain ⟨gb, ob, rfl, hgb, hcb⟩ := HBe.out.pos (by omega)
                  have y0 : wr.cell? ⟨ga, oa + p * 3, none⟩ = some _ := hca _ _ e0
                  have y1 : wr.cell? ⟨ga, oa + p * 3 + 1, none⟩ = some _ := hca _ _ e1
                  have y2 : wr.cell? ⟨ga, oa + p * 3 + 2, none⟩ = some _ := hca _ _ e2
                  have z0 : wr.cell? ⟨gb, ob + p, none⟩ = some (.bool (!(lastM L p t).isSome)) := hcb _ _ (by rw [List.getElem?_map, cl2]; rfl)
                  have x0 := (HBWe.out.2 0 _ rfl).1
                  have x1 := (HBWe.out.2 1 _ rfl).1
                  have x2 := (HBWe.out.2 2 _ rfl).1
                  have hml : p < (midL s' t p).length := by rw [midL_len]; exact hp8
                  obtain ⟨n0, n1, n2⟩ := inCells_get (midL s' t p) p hml
                  obtain ⟨u0, u0'⟩ := own_cellG HOe.out _ _ n0
                  obtain ⟨u1, u1'⟩ := own_cellG HOe.out _ _ n1
                  obtain ⟨u2, u2'⟩ := own_cellG HOe.out _ _ n2
                  generalize (midL s' t p)[p] = oldc at *
                  have hLBl := (HOe.out.lt LB rfl).2
                  have hWl := HBWe.out.1
                  have HMS := Lib.hid (show midL s' t (p + 1) = (midL s' t p).set p (wantC s' t p (lastM L p t)) by rw [midL_step s' t p hp8, HSUC.out])
                  clear cl1 cl2 hx1 hpx1 e0 e1 e2 hca hcb n0 n1 n2 hml
                  have hgaL : ga ≠ LB := HFAx.out _ rfl
                  have hgbL : gb ≠ LB := HFBx.out _ rfl
                  generalize wantC s' t p (lastM L p t) = wc at *
                  generalize (lastM L p t).isSome = gv at *
                  cases gv
                  all_goals
                    go_wp2_with (fail)
                    go_quiet (fail)
                    go_wp2
                    go_roundw
                    case rel =>
                      have q3 : QF (· = LB) wr ((((wr.drewN nq).setCell ⟨LB, p * 3, none⟩ (.int .i64 (wc % 3 - 1))).setCell ⟨LB, p * 3 + 1, none⟩ (.int .i64 (wc / 3 % 3 - 1))).setCell ⟨LB, p * 3 + 2, none⟩ (.int .i64 (wc / 9))) :=
                        ((((QF.of (F := (· = LB)) ((Q.refl wr).drewN nq))).setNew LB (p * 3) _ (.inl rfl)).setNew LB (p * 3 + 1) _ (.inl rfl)).setNew LB (p * 3 + 2) _ (.inl rfl)
                      refine ⟨p + 1, by go_num, by omega, HQe.out.qf q3 (fun b hb => by rw [hb]; exact HLB.out.1), HSe.out.qf q3 (fun x hx e => by have h1 := HLB.out.2.2 x hx; have h2 : x.block = LB := e; omega), QF.q Hqe.out q3 (fun b hb => by rw [hb]; exact HLB.out.2.1), ?_, HAe.out.qf q3 (fun y hy e => HFAx.out y hy e), HBe.out.qf q3 (fun y hy e => HFBx.out y hy e)⟩
                      rw [HMS.out, ← inCells_set (midL s' t p) p wc (by rw [midL_len]; exact hp8)]
                      exact own_setG (own_setG (own_setG (own_q HOe.out ((Q.refl wr).drewN nq)) _ _) _ _) _ _
                    case measure => simp [intOf]; omega
            · have hpi : ¬ (p : Int) < k := by omega
              have hpe : p = k := by omega
              have HOk := Lib.hid (show wr.ownsRow LB 34 3 (.slice (some ⟨LB, 0, none⟩) 8 8) 8 (inCells ((List.range 8).map (lastL s' (t + 1)))) by
                rw [← midL_end HOr.out t, HKr.out, ← hpe]; exact HOp.out)
              clear hpe
              go_wp2_with (fail)
              go_roundw
              case rel => exact ⟨t + 1, by go_num, by omega, HQp.out, HSp.out, Hqp.out, HOk.out⟩
              case measure => simp [intOf]; omega
        · have hti : ¬ (t : Int) < s'.tks.length := by omega
          go_wp2_with (fail)
          refine (qNext_any B col' s' _ HQt.out).mono ?_
          rintro e wz ⟨rfl, rfl⟩
          go_wp2_with (fail)
          refine (lives22_any _).mono ?_
          rintro e w10 ⟨rfl, hq⟩
          have Hq10 := Lib.hid (Hqt.out.trans hq)
          clear hq
          go_wp2
          go_ret
          exact ⟨rfl, Hq10.out⟩
end Go.Proofs.Ytpoffkkkkieniaa
