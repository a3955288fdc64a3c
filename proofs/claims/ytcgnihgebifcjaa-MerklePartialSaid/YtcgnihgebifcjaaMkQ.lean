/- Contract: the reference's Prove. -/
import Derived.Test.YtcgnihgebifcjaaMkS
namespace Go.Proofs.Ytcgnihgebifcjaa
open Go Go.RowKit Go.BigFrame

theorem rleaf_results {RB : Nat} {W : World} {x y z : Value} {tmps : Array Value} (hb : Box W RB [x, y, z]) (ht : tmps[4]? = some (.pointer (some ⟨RB, 0, none⟩))) : (results Try.f13 tmps).run Try.prog W = .ok (.agg #[x, y, z]) W := by
  have c0 := (hb.2 0 _ rfl).1
  have c1 := (hb.2 1 _ rfl).1
  have c2 := (hb.2 2 _ rfl).1
  simp [results, Try.results13, go_sem, ht, c0, c1, c2]
set_option maxRecDepth 100000 in
set_option maxHeartbeats 2000000 in
theorem rProve_bad (b : Option Addr) (n cap : Nat) (i : Int) (w : World) (hi : i < 0 ∨ n ≤ i) (hn : n ≤ 1000) :
    Calls Try.prog 13 #[.slice b n cap, .int .i64 i] w (LeafRet w 0 0 []) := by
  have HQ1 := Lib.hid ((Q.refl w).alloc (.cells #[.int .i64 0, .int .i64 0, .slice none 0 0] 25))
  have HR1 := Lib.hid (Box.new w [.int .i64 0, .int .i64 0, .slice none 0 0] 25)
  go_enter Try.func13, Try.ntmps13
  go_upto_region 1 with (fail)
  generalize w.alloc (.cells #[.int .i64 0, .int .i64 0, .slice none 0 0] 25) = W at *
  generalize hPB : w.heap.size = PB at *
  have HPB := Lib.hid hPB
  clear hPB
  obtain ⟨r0, s0⟩ := HR1.out.2 0 _ rfl
  obtain ⟨r1, s1⟩ := HR1.out.2 1 _ rfl
  obtain ⟨r2, s2⟩ := HR1.out.2 2 _ rfl
  have hrl := HR1.out.1
  have hst : Box (((W.setCell ⟨PB, 0, none⟩ (.int .i64 0)).setCell ⟨PB, 1, none⟩ (.int .i64 0)).setCell ⟨PB, 2, none⟩ (.slice none 0 0)) PB [.int .i64 0, .int .i64 0, .slice none 0 0] :=
    Box.setC (Box.setC (Box.setC HR1.out 0 _ (show 0 < 3 by decide)) 1 _ (show 1 < 3 by decide)) 2 _ (show 2 < 3 by decide)
  have HST := Lib.hid hst
  have HQS := Lib.hid (((HQ1.out.setCell (p := ⟨PB, 0, none⟩) (show w.heap.size ≤ PB by have := HPB.out; omega) (.int .i64 0)).setCell (p := ⟨PB, 1, none⟩) (show w.heap.size ≤ PB by have := HPB.out; omega) (.int .i64 0)).setCell (p := ⟨PB, 2, none⟩) (show w.heap.size ≤ PB by have := HPB.out; omega) (.slice none 0 0))
  clear hst
  by_cases h0 : i < 0
  · have h0b : decide (i < 0) = true := decide_eq_true h0
    go_wp2
    (try simp only [Exit.inBlock, Exit.then])
    refine bodyPost_ret (rleaf_results HST.out rfl) rfl ?_
    exact ⟨none, 0, rfl, World.ownsRow_nil _ _ _ _, HQS.out⟩
  · have hge : (n : Int) ≤ i := by omega
    have h0b : decide (i < 0) = false := decide_eq_false h0
    go_wp2
    (try simp only [Exit.inBlock, Exit.then])
    refine bodyPost_ret (rleaf_results HST.out rfl) rfl ?_
    exact ⟨none, 0, rfl, World.ownsRow_nil _ _ _ _, HQS.out⟩
/-- the first m elements of a proof -/
def proofU (F : Nat → Nat → Int) (k m : Nat) : List Int := (List.range m).map fun j => F j (sib (up k j))
theorem proofU_succ (F : Nat → Nat → Int) (k m : Nat) : proofU F k (m + 1) = proofU F k m ++ [F m (sib (up k m))] := by unfold proofU; rw [List.range_succ, List.map_append]; rfl
theorem proofU_len (F : Nat → Nat → Int) (k m : Nat) : (proofU F k m).length = m := by simp [proofU]
theorem proofU_all (F : Nat → Nat → Int) (k h : Nat) : proofU F k h = proofZ F h k := by rw [proofZ_eq]; rfl
set_option maxRecDepth 100000 in
set_option maxHeartbeats 4000000 in
theorem rProve_ok (b : Option Addr) (n cap : Nat) (cells : List Int) (k : Nat) (v : Int) (w : World) (hs : Sl w 1 b n cap (cells.map (Value.int .i64))) (hc : I64s cells) (hn : n ≤ 1000) (hk : cells[k]? = some v) :
    Calls Try.prog 13 #[.slice b n cap, .int .i64 k] w (LeafRet w k v (proofZ (nodeZ cells) (hgt n) k)) := by
  obtain ⟨i0, hi, hz0, hz1, hz2⟩ := info_parts infoU64m
  have HI := Lib.hid hi
  have hlen : cells.length = n := by have := hs.1; simpa using this
  have hkl : k < n := by rw [← hlen]; exact (List.getElem?_eq_some_iff.1 hk).1
  have hP2 := hgt_P2 n (by omega)
  have hP3 := P2_hgt n hn
  have h17 := hgt_17 n (by omega)
  obtain ⟨g, o, rfl, hg, hcs⟩ := hs.pos (by omega)
  have hck := hcs k (.int .i64 v) (by rw [List.getElem?_map, hk]; rfl)
  have HS := Lib.hid hs
  have HC := Lib.hid hc
  have HQ1 := Lib.hid (((Q.refl w).alloc (.cells #[.int .i64 0, .int .i64 0, .slice none 0 0] 25)).alloc (.cells #[.int .i64 k, .int .i64 v, .slice none 0 0] 25))
  have HR1 := Lib.hid ((Box.new w [.int .i64 0, .int .i64 0, .slice none 0 0] 25).alloc (.cells #[.int .i64 k, .int .i64 v, .slice none 0 0] 25))
  have HL1 := Lib.hid (Box.new (w.alloc (.cells #[.int .i64 0, .int .i64 0, .slice none 0 0] 25)) [.int .i64 k, .int .i64 v, .slice none 0 0] 25)
  rw [World.size_alloc] at HL1
  have HSZ := Lib.hid (show ((w.alloc (.cells #[.int .i64 0, .int .i64 0, .slice none 0 0] 25)).alloc (.cells #[.int .i64 k, .int .i64 v, .slice none 0 0] 25)).heap.size = w.heap.size + 1 + 1 by simp)
  have hki : (k : Int) < (n : Nat) := by omega
  have hk0 : decide ((k : Int) < 0) = false := decide_eq_false (by omega)
  clear hi hs hc hlen hk hcs
  go_enter Try.func13, Try.ntmps13
  go_wp2_with (fail)
  generalize (w.alloc (.cells #[.int .i64 0, .int .i64 0, .slice none 0 0] 25)).alloc (.cells #[.int .i64 k, .int .i64 v, .slice none 0 0] 25) = W0 at *
  generalize hH : hgt n = h at *
  have HH := Lib.hid hH
  clear hH
  generalize hPB : w.heap.size = PB at *
  have HPB := Lib.hid hPB
  clear hPB hk0 hck
  generalize decide (n ≤ k) = bq
  go_loopw [6] (fun sz wr => ∃ (m : Nat) (a : Option Addr) (ca : Nat), m ≤ h ∧ sz = .int .i64 (P2 m) ∧ Box wr (PB + 1) [.int .i64 k, .int .i64 v, .slice a m ca] ∧ wr.ownsRow W0.heap.size 22 1 (.slice a m ca) m ((proofU (nodeZ cells) k m).map (Value.int .u64)) ∧ Box wr PB [.int .i64 0, .int .i64 0, .slice none 0 0] ∧ Q w wr ∧ W0.heap.size ≤ wr.heap.size) (fun sz _ => P2 h - (intOf sz).toNat)
  case atStart => exact ⟨0, none, 0, by omega, rfl, HL1.out, World.ownsRow_nil _ _ _ _, HR1.out, HQ1.out, Nat.le_refl _⟩
  case round =>
    obtain ⟨m, a, ca, hm, rfl, hbl, hown, hbr, hq, hws⟩ := hrel
    have HWS := Lib.hid hws
    clear hws
    have HBL := Lib.hid hbl
    have HO := Lib.hid hown
    have HBR := Lib.hid hbr
    have HQ := Lib.hid hq
    clear hbl hown hbr hq
    have hpm0 := P2_pos m
    have hpmh := P2_le hm
    by_cases h1 : m < h
    · have hps := P2_succ m
      have hpm1 := P2_le (show m + 1 ≤ h by omega)
      have hult := up_lt (i := k) (h := h) (by omega) hm
      have hus : up k m * P2 m ≤ k := by unfold up; exact Nat.div_mul_le_self k (P2 m)
      have hdv : (k : Int) / (P2 m : Nat) = ((up k m : Nat) : Int) := by unfold up; rw [Int.natCast_ediv]
      have HPU := Lib.hid (proofU_succ (nodeZ cells) k m)
      have hnn : P2 (h - m) ≤ 2000 := Nat.le_trans (P2_le (by omega)) hP3
      have hsq := sib_eq (up k m)
      have hfull : (P2 (h - m)) * P2 m = P2 h := by unfold P2; rw [← Nat.pow_add]; congr 1; omega
      have hub : (up k m + 1) * P2 m ≤ P2 h := by rw [← hfull]; exact Nat.mul_le_mul_right _ hult
      have HUB := Lib.hid hub
      have hms := P2_succ (h - m - 1)
      rw [show h - m - 1 + 1 = h - m by omega] at hms
      have HPS := Lib.hid hps
      have HPM := Lib.hid hpm1
      have HSQ := Lib.hid hsq
      have hp20 : P2 m ≤ 2000 := Nat.le_trans hpmh hP3
      clear hps hpm1 hfull hub hms hnn hsq hult
      go_wp2_with (fail)
      refine (rSize_any n wr (by omega)).mono ?_
      rintro e w4 ⟨rfl, rfl⟩
      rw [HH.out]
      have HW0 := Lib.hid (show W0.heap.size ≤ w4.drew.heap.size from HWS.out)
      generalize hpe : P2 m = p at *
      generalize hue : up k m = u at *
      have HPE := Lib.hid hpe
      obtain ⟨f, hfe⟩ : ∃ f, u * p = f := ⟨_, rfl⟩
      have HFE := Lib.hid hfe
      rw [hfe] at hus
      have hmul : (u : Int) * (p : Int) = (f : Int) := by rw [← Int.natCast_mul, hfe]
      have hlt2 : (p : Int) < (P2 h : Nat) := by have := HPM.out; have := HPS.out; omega
      have hk0 : (0 : Int) ≤ (k : Int) := by omega
      have hu0 : (0 : Int) ≤ (u : Int) := by omega
      have hp1 : (p : Int) ≠ 0 := by omega
      have hul : (u : Int) ≤ 1000 := by
        have : u ≤ k := by rw [← hue]; exact Nat.div_le_self _ _
        omega
      clear hpe hue hfe
      by_cases hpar : u % 2 = 0
      · have HSB := Lib.hid (show sib u = u + 1 by rw [HSQ.out]; omega)
        have hb : ((u : Int) % 2 == 0) = true := by simp; omega
        clear hpar
        go_upto_region 9 with (fail)
        refine wp_region_mixS (F := fun b => (Value.slice a m ca).ownBlock = some b) 14 [(0, true), (1, true), (2, true), (3, true), (4, true), (5, true), (6, true), (7, true), (8, true), (9, true), (10, false), (11, false), (12, false), (13, true), (14, false)] (by kernel_rfl) (by kernel_rfl) (fun _ _ _ _ _ h => h) ?_
        have HBLD := Lib.hid (HBL.out.q (Q.drew (Q.refl w4)))
        have HOD := Lib.hid (own_q HO.out (Q.drew (Q.refl w4)))
        have HBRD := Lib.hid (HBR.out.q (Q.drew (Q.refl w4)))
        have HQD := Lib.hid (HQ.out.drew)
        generalize w4.drew = W1 at *
        have y0 : ∀ y : AfterF (fun b => (Value.slice a m ca).ownBlock = some b) W1, y.w.cell? ⟨PB + 1, 2, none⟩ = some (.slice a m ca) := Box.sF HBLD.out (fun e => by have := (HOD.out.lt _ e).1; have := HSZ.out; omega) 2 _ rfl
        repeat (refine mixS_val rfl rfl ?_; go_big_quiet_step (fail); refine wpQuiet_nil ?_)
        clear y0
        refine mixS_run rfl rfl ?_
        intro K hK
        go_wp2_with (fail)
        refine (rNode_any _ n cap cells HC.out m (sib u) (f + p) (f + 2 * p) W1 (HS.out.q HQD.out) (by rw [HSB.out, HPE.out, Nat.add_mul, Nat.one_mul, HFE.out]) (by rw [HPE.out]; omega) (by omega)).mono ?_
        rintro e w5 ⟨rfl, hq5⟩
        refine hK _ _ (QF.of hq5) ?_
        clear hK K
        have HQ5 := Lib.hid (HQD.out.trans hq5)
        have HQ15 := Lib.hid hq5
        have HO5 := Lib.hid (own_q HOD.out hq5)
        have HB5 := Lib.hid hq5.size
        clear hq5
        generalize nodeZ cells m (sib u) = px at *
        refine mixS_run rfl rfl ?_
        intro K hK
        go_wp2_with (fail)
        refine hK _ _ (QF.of ((Q.refl w5).alloc _)) ?_
        clear hK K
        refine mixS_run rfl rfl ?_
        intro K hK
        refine wp_append_sl _ _ 23 rfl W0.heap.size 22 i0 _ 1 8 Try.underlying23 HI.out hz0 hz1 hz2 rfl (by decide) _ m _ rfl (own_q HO5.out ((Q.refl w5).alloc _)) (some ⟨w5.heap.size, 0, none⟩) 1 1 [.int .u64 px] rfl (slNew w5 [.int .u64 px] 22 1 rfl) (by simp [Value.oneCell']) (by omega) (by decide) (by have h5 := HB5.out; have h6 := HW0.out; simp; omega) ?_
        intro a9 c9 w9 hown9 hgrow9 _
        have HG9 := Lib.hid (show QF (fun b => (Value.slice a m ca).ownBlock = some b) (w5.alloc (.cells #[.int .u64 px] 22)) w9 from QF.grown hgrow9 (fun i hi => hi))
        have HGA := Lib.hid (show QF (fun b => (Value.slice a m ca).ownBlock = some b) W1 w9 from (QF.of (HQ15.out.alloc _)).trans HG9.out (fun i h => .inl h))
        have HO9 := Lib.hid hown9
        refine hK _ _ HG9.out ?_
        clear hK K hown9 hgrow9
        go_frame
        have hb9 := HBLD.out.qf HGA.out (fun e => by have := (HOD.out.lt _ e).1; have := HSZ.out; omega)
        obtain ⟨cb, fb⟩ := hb9.2 2 _ rfl
        have hbl := hb9.1
        have HB9 := Lib.hid hb9
        clear hb9
        repeat (refine mixS_val rfl rfl ?_; go_big_quiet_step (fail); refine wpQuiet_nil ?_)
        refine mixS_last rfl rfl ?_
        intro K hK
        go_wp2_with (fail)
        refine mixS_end ?_
        have hst : QF (· = PB + 1) w9 (w9.setCell ⟨PB + 1, 2, none⟩ (.slice a9 (m + 1) c9)) := QF.set (F := (· = PB + 1)) w9 (PB + 1) 2 _ rfl
        have hall : QF (fun b => (Value.slice a m ca).ownBlock = some b ∨ b = PB + 1) W1 (w9.setCell ⟨PB + 1, 2, none⟩ (.slice a9 (m + 1) c9)) := (HGA.out.mono (fun b hb => .inl hb)).trans hst (fun b hb => .inl (.inr hb))
        have HN1 := Lib.hid (show Box (w9.setCell ⟨PB + 1, 2, none⟩ (.slice a9 (m + 1) c9)) (PB + 1) [.int .i64 k, .int .i64 v, .slice a9 (m + 1) c9] from Box.setC HB9.out 2 _ (show 2 < 3 by decide))
        have HN2 := Lib.hid (own_qf HO9.out hst (fun b hb e => by have := (HO9.out.lt b hb).1; have := HSZ.out; omega))
        have HN3 := Lib.hid (HBRD.out.qf hall (fun e => by
          rcases e with e | e
          · have := (HOD.out.lt _ e).1; have := HSZ.out; omega
          · omega))
        have HN5 := Lib.hid (Nat.le_trans HW0.out hall.size)
        have HN4 := Lib.hid (QF.q HQD.out hall (fun b hb => by
          rcases hb with hb | hb
          · have := (HOD.out.lt _ hb).1; have := HSZ.out; have := HPB.out; omega
          · have := HPB.out; omega))
        clear hst hall cb fb hbl
        generalize w9.setCell ⟨PB + 1, 2, none⟩ (.slice a9 (m + 1) c9) = w10 at *
        go_wp2
        go_roundw
        case rel => exact ⟨m + 1, a9, c9, by omega, by rw [HPS.out]; go_num, HN1.out, by rw [HPU.out, List.map_append]; exact HN2.out, HN3.out, HN4.out, HN5.out⟩
        case measure => simp [intOf]; have := HPS.out; have := HPM.out; have := HPE.out; omega
      · have HSB := Lib.hid (show sib u = u - 1 by rw [HSQ.out]; omega)
        have hb : ((u : Int) % 2 == 0) = false := by simp; omega
        have hu1 : 1 ≤ u := by omega
        have hpf : p ≤ f := by
          have h5 := Nat.mul_le_mul_right p hu1
          rw [Nat.one_mul, HFE.out] at h5
          exact h5
        obtain ⟨e, he⟩ : ∃ e, f = e + p := ⟨f - p, by omega⟩
        have hsub : (f : Int) - (p : Int) = (e : Int) := by omega
        have HEE := Lib.hid he
        clear he
        clear hpar
        go_upto_region 10 with (fail)
        refine wp_region_mixS (F := fun b => (Value.slice a m ca).ownBlock = some b) 11 [(0, true), (1, true), (2, true), (3, true), (4, true), (5, true), (6, true), (7, false), (8, false), (9, false), (10, true), (11, false)] (by kernel_rfl) (by kernel_rfl) (fun _ _ _ _ _ h => h) ?_
        have HBLD := Lib.hid (HBL.out.q (Q.drew (Q.refl w4)))
        have HOD := Lib.hid (own_q HO.out (Q.drew (Q.refl w4)))
        have HBRD := Lib.hid (HBR.out.q (Q.drew (Q.refl w4)))
        have HQD := Lib.hid (HQ.out.drew)
        generalize w4.drew = W1 at *
        have y0 : ∀ y : AfterF (fun b => (Value.slice a m ca).ownBlock = some b) W1, y.w.cell? ⟨PB + 1, 2, none⟩ = some (.slice a m ca) := Box.sF HBLD.out (fun e => by have := (HOD.out.lt _ e).1; have := HSZ.out; omega) 2 _ rfl
        repeat (refine mixS_val rfl rfl ?_; go_big_quiet_step (fail); refine wpQuiet_nil ?_)
        clear y0
        refine mixS_run rfl rfl ?_
        intro K hK
        go_wp2_with (fail)
        refine (rNode_any _ n cap cells HC.out m (sib u) e f W1 (HS.out.q HQD.out) (by rw [HSB.out, HPE.out, Nat.sub_mul, Nat.one_mul, HFE.out]; have := HEE.out; omega) (by rw [HPE.out]; exact HEE.out) (by have := HEE.out; omega)).mono ?_
        rintro e w5 ⟨rfl, hq5⟩
        refine hK _ _ (QF.of hq5) ?_
        clear hK K
        have HQ5 := Lib.hid (HQD.out.trans hq5)
        have HQ15 := Lib.hid hq5
        have HO5 := Lib.hid (own_q HOD.out hq5)
        have HB5 := Lib.hid hq5.size
        clear hq5
        generalize nodeZ cells m (sib u) = px at *
        refine mixS_run rfl rfl ?_
        intro K hK
        go_wp2_with (fail)
        refine hK _ _ (QF.of ((Q.refl w5).alloc _)) ?_
        clear hK K
        refine mixS_run rfl rfl ?_
        intro K hK
        refine wp_append_sl _ _ 23 rfl W0.heap.size 22 i0 _ 1 8 Try.underlying23 HI.out hz0 hz1 hz2 rfl (by decide) _ m _ rfl (own_q HO5.out ((Q.refl w5).alloc _)) (some ⟨w5.heap.size, 0, none⟩) 1 1 [.int .u64 px] rfl (slNew w5 [.int .u64 px] 22 1 rfl) (by simp [Value.oneCell']) (by omega) (by decide) (by have h5 := HB5.out; have h6 := HW0.out; simp; omega) ?_
        intro a9 c9 w9 hown9 hgrow9 _
        have HG9 := Lib.hid (show QF (fun b => (Value.slice a m ca).ownBlock = some b) (w5.alloc (.cells #[.int .u64 px] 22)) w9 from QF.grown hgrow9 (fun i hi => hi))
        have HGA := Lib.hid (show QF (fun b => (Value.slice a m ca).ownBlock = some b) W1 w9 from (QF.of (HQ15.out.alloc _)).trans HG9.out (fun i h => .inl h))
        have HO9 := Lib.hid hown9
        refine hK _ _ HG9.out ?_
        clear hK K hown9 hgrow9
        go_frame
        have hb9 := HBLD.out.qf HGA.out (fun e => by have := (HOD.out.lt _ e).1; have := HSZ.out; omega)
        obtain ⟨cb, fb⟩ := hb9.2 2 _ rfl
        have hbl := hb9.1
        have HB9 := Lib.hid hb9
        clear hb9
        repeat (refine mixS_val rfl rfl ?_; go_big_quiet_step (fail); refine wpQuiet_nil ?_)
        refine mixS_last rfl rfl ?_
        intro K hK
        go_wp2_with (fail)
        refine mixS_end ?_
        have hst : QF (· = PB + 1) w9 (w9.setCell ⟨PB + 1, 2, none⟩ (.slice a9 (m + 1) c9)) := QF.set (F := (· = PB + 1)) w9 (PB + 1) 2 _ rfl
        have hall : QF (fun b => (Value.slice a m ca).ownBlock = some b ∨ b = PB + 1) W1 (w9.setCell ⟨PB + 1, 2, none⟩ (.slice a9 (m + 1) c9)) := (HGA.out.mono (fun b hb => .inl hb)).trans hst (fun b hb => .inl (.inr hb))
        have HN1 := Lib.hid (show Box (w9.setCell ⟨PB + 1, 2, none⟩ (.slice a9 (m + 1) c9)) (PB + 1) [.int .i64 k, .int .i64 v, .slice a9 (m + 1) c9] from Box.setC HB9.out 2 _ (show 2 < 3 by decide))
        have HN2 := Lib.hid (own_qf HO9.out hst (fun b hb e => by have := (HO9.out.lt b hb).1; have := HSZ.out; omega))
        have HN3 := Lib.hid (HBRD.out.qf hall (fun e => by
          rcases e with e | e
          · have := (HOD.out.lt _ e).1; have := HSZ.out; omega
          · omega))
        have HN5 := Lib.hid (Nat.le_trans HW0.out hall.size)
        have HN4 := Lib.hid (QF.q HQD.out hall (fun b hb => by
          rcases hb with hb | hb
          · have := (HOD.out.lt _ hb).1; have := HSZ.out; have := HPB.out; omega
          · have := HPB.out; omega))
        clear hst hall cb fb hbl
        generalize w9.setCell ⟨PB + 1, 2, none⟩ (.slice a9 (m + 1) c9) = w10 at *
        go_wp2
        go_roundw
        case rel => exact ⟨m + 1, a9, c9, by omega, by rw [HPS.out]; go_num, HN1.out, by rw [HPU.out, List.map_append]; exact HN2.out, HN3.out, HN4.out, HN5.out⟩
        case measure => simp [intOf]; have := HPS.out; have := HPM.out; have := HPE.out; omega
    · have e1 : m = h := by omega
      subst e1
      have HZ := Lib.hid (proofU_all (nodeZ cells) k m)
      have HLZ := Lib.hid (proofZ_len (nodeZ cells) m k)
      rw [HZ.out] at HO
      go_wp2_with (fail)
      refine (rSize_any n wr (by omega)).mono ?_
      rintro e w4 ⟨rfl, rfl⟩
      rw [HH.out]
      have hge : ¬ ((P2 m : Nat) : Int) < (P2 m : Nat) := by omega
      obtain ⟨l0, _⟩ := HBL.out.2 0 _ rfl
      obtain ⟨l1, _⟩ := HBL.out.2 1 _ rfl
      obtain ⟨l2, _⟩ := HBL.out.2 2 _ rfl
      obtain ⟨r0, s0⟩ := HBR.out.2 0 _ rfl
      obtain ⟨r1, s1⟩ := HBR.out.2 1 _ rfl
      obtain ⟨r2, s2⟩ := HBR.out.2 2 _ rfl
      have hll := HBL.out.1
      have hrl := HBR.out.1
      go_wp2
      (try simp only [Exit.inBlock, Exit.then])
      have hst : QF (· = PB) w4 (((w4.setCell ⟨PB, 0, none⟩ (.int .i64 k)).setCell ⟨PB, 1, none⟩ (.int .i64 v)).setCell ⟨PB, 2, none⟩ (.slice a m ca)) :=
        ((QF.set (F := (· = PB)) w4 PB 0 _ rfl).trans (QF.set (F := (· = PB)) _ PB 1 _ rfl) (fun _ h => .inl h)).trans (QF.set (F := (· = PB)) _ PB 2 _ rfl) (fun _ h => .inl h)
      have hbx : Box (((w4.setCell ⟨PB, 0, none⟩ (.int .i64 k)).setCell ⟨PB, 1, none⟩ (.int .i64 v)).setCell ⟨PB, 2, none⟩ (.slice a m ca)) PB [.int .i64 k, .int .i64 v, .slice a m ca] :=
        Box.setC (Box.setC (Box.setC HBR.out 0 _ (show 0 < 3 by decide)) 1 _ (show 1 < 3 by decide)) 2 _ (show 2 < 3 by decide)
      refine bodyPost_ret (rleaf_results hbx rfl) rfl ⟨a, ca, ?_, ?_, ?_⟩
      · rw [HLZ.out]
      · rw [HLZ.out]
        exact own_mono (own_qf HO.out hst (fun b hb e => by have := (HO.out.lt b hb).1; have := HSZ.out; have := HPB.out; omega)) (by have := HSZ.out; have := HPB.out; omega)
      · exact QF.q HQ.out hst (fun b e => by have := HPB.out; omega)
theorem rProve_any (b : Option Addr) (n cap : Nat) (cells : List Int) (i : Int) (w : World) (hs : Sl w 1 b n cap (cells.map (Value.int .i64))) (hc : I64s cells) (hn : n ≤ 1000) :
    Calls Try.prog 13 #[.slice b n cap, .int .i64 i] w (LeafRet w (proveV cells i).1 (proveV cells i).2 (proveP (nodeZ cells) cells i)) := by
  have hlen : cells.length = n := by have := hs.1; simpa using this
  unfold proveV proveP
  rw [hlen]
  by_cases h : 0 ≤ i ∧ i < n
  · rw [if_pos h, if_pos h]
    obtain ⟨k, rfl⟩ := Int.eq_ofNat_of_zero_le h.1
    have hk : k < cells.length := by omega
    exact rProve_ok b n cap cells k (cells.getD k 0) w hs hc hn (by rw [List.getD_eq_getElem?_getD, List.getElem?_eq_getElem hk]; rfl)
  · rw [if_neg h, if_neg h]
    exact rProve_bad b n cap i w (by omega) hn
end Go.Proofs.Ytcgnihgebifcjaa
