/- The walk of JournalRecovers. -/
import Derived.Test.YtfkbdiheccnohaaJWalkE
namespace Go.Proofs.Ytfkbdiheccnohaa
open Go Go.RowKit Go.BigFrame

theorem wholeZ_iff : ∀ (rs : List (List Int)) (k i : Nat), i < rs.length → ((bytesL (rs.take (i + 1))).length ≤ k ↔ i < wholeZ rs k)
  | [], k, i, h => by simp at h
  | x :: rs, k, i, h => by
    have hpos := frameZ_pos x
    rw [List.take_succ_cons, bytesL_cons, List.length_append]
    unfold wholeZ
    cases i with
    | zero =>
      rw [List.take_zero, show (bytesL []).length = 0 from rfl]
      by_cases h1 : (frameZ x).length ≤ k
      · rw [if_pos h1]; omega
      · rw [if_neg h1]; omega
    | succ i =>
      rw [List.length_cons] at h
      by_cases h1 : (frameZ x).length ≤ k
      · rw [if_pos h1]
        have := wholeZ_iff rs (k - (frameZ x).length) i (by omega)
        omega
      · rw [if_neg h1]; omega
theorem Recs.one {w : World} {C : Nat → Prop} {vs : List Value} {rs : List (List Int)} (h : Recs w C vs rs) : ∀ u ∈ vs, u.oneCell' = true := fun u hu => by
  obtain ⟨i, hi, rfl⟩ := List.getElem_of_mem hu
  obtain ⟨a, c, h1, _⟩ := h.2 i (rs[i]'(by rw [← h.1]; exact hi)) (by rw [List.getElem?_eq_getElem (by rw [← h.1]; exact hi)])
  rw [List.getElem?_eq_getElem hi] at h1
  injection h1 with h1
  rw [h1]
  rfl
theorem crashYtfkbdiheccnohaain (k n : Nat) (h : k ≤ n) : crashN (k : Int) n = k := by unfold crashN; rw [if_neg (by omega), if_pos (by omega)]; rfl
theorem crashYtfkbdiheccnohaahi (n : Nat) : crashN ((n : Int) + 7) n = n := by unfold crashN; rw [if_neg (by omega), if_neg (by omega)]
set_option maxRecDepth 100000 in
set_option maxHeartbeats 2000000 in
theorem jrecovers_walk (a0 : Option Addr) (len0 cap0 : Nat) (z0 : List Int) (left : Int) (a2 : Option Addr) (len2 cap2 : Nat) (z2 : List Int) (w : World) (w0 : IsRow .i64 w a0 len0 cap0 z0) (w1 : (Lit.int .i64 left).wf = true) (w2 : IsRow .u8 w a2 len2 cap2 z2) :
    Calls Try.prog 9 #[.slice a0 len0 cap0, .int .i64 left, .slice a2 len2 cap2] w fun e w' => e = .returned (.bool true) ∧ Q w w' := by
  obtain ⟨i0, hi, hz0, hz1, hz2⟩ := info_parts infoBytes
  have HI := Lib.hid hi
  have s0 := Lib.hid (Sl.of_row w0)
  have r0 := Lib.hid (rowI64j w0)
  have s2 := Lib.hid (Sl.of_row w2)
  have r2 := Lib.hid (rowU8j w2)
  have rc := Lib.hid (wf_i64 w1)
  clear w0 w1 w2 hi
  go_enter Try.func9, Try.ntmps9
  go_wp2_with (fail)
  refine (rRecords34_any a0 len0 cap0 _ w s0.out r0.out).mono ?_
  rintro e w1 ⟨b1, cp1, vs1, rfl, hO1, hq1⟩
  have HOK := Lib.hid (recsOf_ok (z0.take len0))
  have HO4 := Lib.hid (recsOf_ok4 (z0.take len0))
  have HSM := Lib.hid (recsOf_small (z0.take len0))
  have hrl := recsOf_len (z0.take len0)
  have hbl := recsOf_bytes (z0.take len0)
  generalize recsOf (z0.take len0) = rs at *
  have HR1 := Lib.hid hO1
  have HQ1 := Lib.hid hq1
  clear hO1 hq1
  go_wp2_with (fail)
  refine (filled34_any _ b1 rs.length cp1 rs w1 HR1.out.slr HOK.out HO4.out (by omega)).mono ?_
  rintro e w2 ⟨hq2, LB, col, rfl, hL, _⟩
  have HR2 := Lib.hid (HR1.out.q hq2)
  have HQ2 := Lib.hid (HQ1.out.trans hq2)
  have HL2 := Lib.hid hL
  have HQ12 := Lib.hid hq2
  clear hq2 hL
  go_wp2_with (fail)
  refine (jBytes_any LB col rs w2 HL2.out (by omega)).mono ?_
  rintro e w3 ⟨b3, cp3, rfl, hown3, hq3⟩
  have HR3 := Lib.hid (HR2.out.q hq3)
  have HQ3 := Lib.hid (HQ2.out.trans hq3)
  have HQ13 := Lib.hid (HQ12.out.trans hq3)
  have HL3 := Lib.hid (HL2.out.q hq3)
  have HS3 := Lib.hid (Sl.of_own hown3)
  clear hown3 hq3
  have HBN := Lib.hid (show ∃ n, (bytesL rs).length = n from ⟨_, rfl⟩)
  obtain ⟨n, hn⟩ := HBN.out
  rw [hn] at HS3 hbl ⊢
  have HN := Lib.hid hn
  clear hn
  go_wp2_with (fail)
  refine (around_any _ _ _ rc.out (by omega)).mono ?_
  rintro e w5 ⟨rfl, rfl⟩
  have p0 := aroundZ_lo left ((n : Int) + 1) (by omega)
  have p1 := aroundZ_hi left ((n : Int) + 1) (by omega)
  generalize aroundZ left ((n : Int) + 1) = m at *
  obtain ⟨k, rfl⟩ := Int.eq_ofNat_of_zero_le p0
  have hk : k ≤ n := by omega
  clear p0 p1
  have hcap := HS3.out.2.1
  have hmax := HS3.out.2.2.1
  unfold maxLen at hmax
  go_upto_region 7 with (fail)
  refine wp_region_mix [(0, true), (1, true), (4, true), (5, true), (6, true), (7, true), (2, false), (3, true), (8, true), (9, true), (10, true), (11, false), (12, true), (13, true), (14, true), (15, true), (16, true), (17, true), (18, true), (19, true), (22, true), (23, true), (20, false), (21, true), (24, true), (25, true)] (by kernel_rfl) (by kernel_rfl) (fun _ _ _ _ _ h => h) ?_
  have HQ5 := Lib.hid (HQ3.out.drew)
  have HQ15 := Lib.hid (HQ13.out.drew)
  have HR5 := Lib.hid (HR3.out.q (Q.drew (Q.refl w3)))
  have HL5 := Lib.hid (HL3.out.q (Q.drew (Q.refl w3)))
  have HS5 := Lib.hid (HS3.out.q (Q.drew (Q.refl w3)))
  generalize w3.drew = W at *
  have t0 := toStr_soft (HS5.out.take k hk)
  repeat (refine mix_val rfl rfl ?_; go_big_quiet_step (fail); refine wpQuiet_nil ?_)
  clear t0
  refine mix_run rfl rfl ?_
  intro K hK
  go_wp2_with (fail)
  refine (jCrash_any LB col rs k W HL5.out (by rw [HN.out]; omega) (by omega)).mono ?_
  rw [HN.out, crashYtfkbdiheccnohaain k n hk]
  rintro e w6 ⟨b6, cp6, rfl, hs6, hq6, _⟩
  refine hK _ _ hq6 ?_
  clear hK K
  generalize (bytesL rs).take k = bk at hs6 ⊢
  generalize bk.length = bkl at hs6 ⊢
  have HQ6 := Lib.hid (HQ5.out.trans hq6)
  have HQ16 := Lib.hid (HQ15.out.trans hq6)
  have HR6 := Lib.hid (HR5.out.q hq6)
  have HL6 := Lib.hid (HL5.out.q hq6)
  have HS6 := Lib.hid (HS5.out.q hq6)
  have t1 := toStr_soft hs6
  clear hs6 hq6
  repeat (refine mix_val rfl rfl ?_; go_big_quiet_step (fail); refine wpQuiet_nil ?_)
  clear t1
  refine mix_run rfl rfl ?_
  intro K hK
  go_wp2_with (fail)
  refine (jCrash_any LB col rs (-1) w6 HL6.out (by rw [HN.out]; omega) (by omega)).mono ?_
  rw [HN.out, crashYtfkbdiheccnohaalo (by omega)]
  rintro e w7 ⟨b7, cp7, rfl, _, hq7, _⟩
  refine hK _ _ hq7 ?_
  clear hK K
  have HQ7 := Lib.hid (HQ6.out.trans hq7)
  have HQ17 := Lib.hid (HQ16.out.trans hq7)
  have HR7 := Lib.hid (HR6.out.q hq7)
  have HL7 := Lib.hid (HL6.out.q hq7)
  have HS7 := Lib.hid (HS6.out.q hq7)
  clear hq7
  rw [show ((bytesL rs).take 0).length = 0 from rfl]
  have t2 := toStr_soft HS7.out
  repeat (refine mix_val rfl rfl ?_; go_big_quiet_step (fail); refine wpQuiet_nil ?_)
  clear t2
  refine mix_run rfl rfl ?_
  intro K hK
  go_wp2_with (fail)
  refine (jCrash_any LB col rs ((n : Int) + 7) w7 HL7.out (by rw [HN.out]; omega) (by omega)).mono ?_
  rw [HN.out, crashYtfkbdiheccnohaahi n, List.take_of_length_le (by rw [HN.out]; exact Nat.le_refl _)]
  rintro e w8 ⟨b8, cp8, rfl, hs8, hq8, _⟩
  refine hK _ _ hq8 ?_
  clear hK K
  rw [HN.out] at hs8 ⊢
  have HQ8 := Lib.hid (HQ7.out.trans hq8)
  have HQ18 := Lib.hid (HQ17.out.trans hq8)
  have HR8 := Lib.hid (HR7.out.q hq8)
  have HL8 := Lib.hid (HL7.out.q hq8)
  have t3 := toStr_soft hs8
  clear hs8 hq8
  repeat (refine mix_val rfl rfl ?_; go_big_quiet_step (fail); refine wpQuiet_nil ?_)
  clear t3
  refine mix_end ?_
  go_wp2_with (fail)
  refine (jCrash_any LB col rs k w8 HL8.out (by rw [HN.out]; omega) (by omega)).mono ?_
  rw [HN.out, crashYtfkbdiheccnohaain k n hk]
  rintro e w9 ⟨b9, cp9, rfl, hs9, hq9, hp9⟩
  have HQ9 := Lib.hid (HQ8.out.trans hq9)
  have HQ19 := Lib.hid (HQ18.out.trans hq9)
  have HR9 := Lib.hid (HR8.out.q hq9)
  obtain ⟨kl, hkl⟩ : ∃ kl, ((bytesL rs).take k).length = kl := ⟨_, rfl⟩
  rw [hkl] at hs9 ⊢
  have HKL := Lib.hid hkl
  have HS9 := Lib.hid hs9
  have HP9 := Lib.hid hp9
  clear hkl
  clear hs9 hq9 hp9
  go_wp2_with (fail)
  refine (jOpen_any b9 kl cp9 ((bytesL rs).take k) w9 HS9.out ((bytesL_bys HOK.out).take k) (by rw [← HKL.out, List.length_take, HN.out]; omega) (fun y hy => (HP9.out y hy).2)).mono ?_
  rw [openZ_cut rs k _ [] HO4.out (bytesL_bys HOK.out) (by rw [HKL.out]; exact Nat.le_refl _), List.nil_append]
  rintro e w10 ⟨hq10, ⟨_, L4, col4, rfl, hL4, hc4⟩ | ⟨hx, _⟩⟩
  case inr => exact absurd rfl hx
  have HQ10 := Lib.hid (HQ9.out.trans hq10)
  have HR10 := Lib.hid (HR9.out.q hq10)
  have HM10 := Lib.hid (show LogAt w10 L4 col4 (rs.take (wholeZ rs k)) from hL4)
  have HC10 := Lib.hid (show ∀ b, col4 b ≠ 0 → w1.heap.size ≤ b from fun b hb => Nat.le_trans HQ19.out.size (hc4 b hb))
  have HIF := Lib.hid (wholeZ_iff rs k)
  have HRC10 := Lib.hid (show Recs w10 (fun b => col4 b = 0) vs1 rs from (HR1.out.recs.q (HQ19.out.trans hq10)).mono (fun b hb => by
    rcases Nat.eq_zero_or_pos (col4 b) with h | h
    · exact h
    · have h5 := Nat.le_trans HQ19.out.size (hc4 b (by omega)); have := hb.2.1; omega))
  have hwl := wholeZ_le rs k
  generalize wholeZ rs k = W4 at *
  clear hq10 hL4 hc4 HS9 HP9 HQ9 HR9 HQ8 HR8 HL8 HQ7 HR7 HL7 HS7 HQ6 HR6 HL6 HS6
  go_wp2_with (fail)
  go_loopw [13, 14, 15] (fun sz wh i wr => ∃ j : Nat, j ≤ rs.length ∧ i = .int .i64 j ∧ sz = .int .i64 ((bytesL (rs.take j)).length : Nat) ∧ wh = .int .i64 (min j W4 : Nat) ∧ Q w10 wr) (fun _ _ i _ => rs.length - (intOf i).toNat)
  case atStart => exact ⟨0, by omega, rfl, rfl, by rw [Nat.zero_min]; rfl, Q.refl _⟩
  case round =>
    obtain ⟨j, hj, rfl, rfl, rfl, hq⟩ := hrel
    have HQW := Lib.hid hq
    clear hq
    by_cases h1 : j < rs.length
    · obtain ⟨g, o, d, dc, rfl, hcell, hsd, _⟩ := (HR10.out.slr.q HQW.out).at j h1
      have HSD := Lib.hid hsd
      have HX := Lib.hid (HOK.out _ (List.getElem_mem h1))
      have hbt := bytesL_take rs j h1
      have hble := bytesL_le rs (j + 1)
      rw [HN.out] at hble
      have hiff := HIF.out j h1
      clear hsd
      generalize rs[j] = x at *
      rw [hbt, List.length_append] at hiff hble
      have HBT := Lib.hid hbt
      clear hbt
      generalize hs : (bytesL (rs.take j)).length = s at *
      have HSS := Lib.hid hs
      clear hs
      have HXL := Lib.hid (show ∃ f, (frameZ x).length = f from ⟨_, rfl⟩)
      obtain ⟨f, hf⟩ := HXL.out
      rw [hf] at hiff hble
      have HF := Lib.hid hf
      have HIFF := Lib.hid hiff
      clear hf hiff
      go_wp2_with (fail)
      refine (rFrame_any d x.length dc x wr HSD.out HX.out.2 (by have := HX.out.1; omega)).mono ?_
      rw [HF.out]
      rintro e w11 ⟨b11, cp11, rfl, _, hq11⟩
      have HQW2 := Lib.hid (HQW.out.trans hq11)
      clear hq11
      by_cases h2 : s + f ≤ k
      · have hlt := HIFF.out.1 h2
        have hm1 : min j W4 = j := by omega
        have HM2 := Lib.hid (show min (j + 1) W4 = j + 1 by omega)
        have h2i : (s : Int) + (f : Int) ≤ (k : Int) := by omega
        rw [hm1]
        clear hm1
        go_wp2
        go_roundw
        case rel => exact ⟨j + 1, by omega, by go_num, by rw [HBT.out, List.length_append, HSS.out, HF.out]; go_num, by rw [HM2.out]; go_num, HQW2.out⟩
        case measure => simp [intOf]; omega
      · have hlt : ¬ j < W4 := fun h => h2 (HIFF.out.2 h)
        have hm1 : min j W4 = W4 := by omega
        have HM2 := Lib.hid (show min (j + 1) W4 = W4 by omega)
        have h2i : ¬ (s : Int) + (f : Int) ≤ (k : Int) := by omega
        rw [hm1]
        clear hm1
        go_wp2
        go_roundw
        case rel => exact ⟨j + 1, by omega, by go_num, by rw [HBT.out, List.length_append, HSS.out, HF.out]; go_num, by rw [HM2.out], HQW2.out⟩
        case measure => simp [intOf]; omega
    · have e1 : j = rs.length := by omega
      subst e1
      have hmw : min rs.length W4 = W4 := by omega
      rw [hmw, List.take_length, HN.out]
      clear hmw h1 hj
      have HRW := Lib.hid (HR10.out.q HQW.out)
      have HMW := Lib.hid (HM10.out.q HQW.out)
      have HQA := Lib.hid (HQ10.out.trans HQW.out)
      have hcr := (Sl.of_own HRW.out.own).2.1
      have hmr := (Sl.of_own HRW.out.own).2.2.1
      unfold maxLen at hmr
      go_upto_region 20 with (fail)
      refine wp_region_mix [(0, true), (2, true), (3, true), (4, true), (1, false), (5, false), (6, true)] (by kernel_rfl) (by kernel_rfl) (fun _ _ _ _ _ h => h) ?_
      have HRCD := Lib.hid (HRC10.out.q (HQW.out.drew))
      have HRD := Lib.hid (HRW.out.q (Q.drew (Q.refl wr)))
      have HMD := Lib.hid (HMW.out.q (Q.drew (Q.refl wr)))
      have HQD := Lib.hid (HQA.out.drew)
      clear HRW HMW HQA HQW
      generalize wr.drew = W at *
      repeat (refine mix_val rfl rfl ?_; go_big_quiet_step (fail); refine wpQuiet_nil ?_)
      refine mix_run rfl rfl ?_
      intro K hK
      go_wp2_with (fail)
      have hWT : (rs.take W4).length = W4 := by rw [List.length_take]; omega
      have HWT := Lib.hid hWT
      clear hWT
      have HOKW := Lib.hid (show OkRs (rs.take W4) from fun x hx => HOK.out x (List.mem_of_mem_take hx))
      have HO4W := Lib.hid (show Ok4 (rs.take W4) from fun x hx => HO4.out x (List.mem_of_mem_take hx))
      refine (jRecords_any L4 col4 (rs.take W4) W HMD.out).mono ?_
      rw [show RetRecs W (rs.take W4) = fun e w' => ∃ a cap vs, e = .returned (.slice a (rs.take W4).length cap) ∧ OwnRecs w' W.heap.size a (rs.take W4).length cap vs (rs.take W4) ∧ Q W w' from rfl, HWT.out]
      rintro e w11 ⟨b11, cp11, vs11, rfl, hO11, hq11⟩
      refine hK _ _ hq11 ?_
      clear hK K
      have HQ11 := Lib.hid (HQD.out.trans hq11)
      have HR11 := Lib.hid (HRD.out.q hq11)
      have HRC11 := Lib.hid (HRCD.out.q hq11)
      have HM11 := Lib.hid (HMD.out.q hq11)
      have HO11 := Lib.hid hO11
      clear hO11 hq11
      refine mix_run rfl rfl ?_
      intro K hK
      go_wp2_with (fail)
      refine (rSame34_any _ _ b11 b1 W4 W4 cp11 cp1 (rs.take W4) (rs.take W4) w11 HO11.out.slr (HR11.out.slr.take W4 (by omega)) HOKW.out HOKW.out (by omega) (by omega)).mono ?_
      rintro e w12 ⟨rfl, hq12⟩
      refine hK _ _ hq12 ?_
      clear hK K
      have HQ12 := Lib.hid (HQ11.out.trans hq12)
      have HR12 := Lib.hid (HR11.out.q hq12)
      have HRC12 := Lib.hid (HRC11.out.q hq12)
      have HM12 := Lib.hid (HM11.out.q hq12)
      clear hq12
      rw [show decide (rs.take W4 = rs.take W4) = true from decide_eq_true rfl]
      repeat (refine mix_val rfl rfl ?_; go_big_quiet_step (fail); refine wpQuiet_nil ?_)
      refine mix_end ?_
      go_wp2_with (fail)
      refine (few_any a2 len2 cap2 30 (z2.take len2) w12 (s2.out.q HQ12.out) (by omega)).mono ?_
      rintro e w13 ⟨b13, cp13, rfl, hown13, hq13⟩
      have HQ13' := Lib.hid (HQ12.out.trans hq13)
      have HS13 := Lib.hid (Sl.of_own hown13)
      have HP13 := Lib.hid (own_pos hown13)
      have hfl : ((z2.take len2).take 30).length = min len2 30 := by have := HS13.out.1; simp at this; simp; omega
      have HFB := Lib.hid (show Bys ((z2.take len2).take 30) from fun b hb => r2.out b (List.mem_of_mem_take hb))
      generalize (z2.take len2).take 30 = fs at *
      have hn30 : min len2 30 ≤ 30 := by omega
      generalize min len2 30 = q at *
      have HFL := Lib.hid hfl
      have HR13 := Lib.hid (HR12.out.q hq13)
      have HRC13 := Lib.hid (HRC12.out.q hq13)
      have HM13 := Lib.hid (HM12.out.q hq13)
      have HN12 := Lib.hid (show ∀ b, w12.heap.size ≤ b → col4 b = 0 from HM12.out.new0)
      clear hown13 hq13 hfl
      go_wp2_with (at_builtin; refine stopAt ?_)
      refine goOn ?_
      refine wpList_append_sl rfl _ _ 23 rfl w13.heap.size 27 i0 _ 1 24 Try.underlying23 HI.out hz0 hz1 hz2 rfl (by decide) _ 0 [] rfl (World.ownsRow_made w13 #[] 0 (Nat.le_refl _) (by decide) rfl) b1 W4 cp1 (vs1.take W4) rfl (((Sl.of_own HR13.out.own).takeV W4 (by omega)).q ((Q.refl w13).alloc _)) (fun u hu => HRC13.out.one u (List.mem_of_mem_take hu)) (by omega) (by decide) (by simp) ?_
      intro a14 cp14 w14 hown14 hgrow14 _
      have HQ14 := Lib.hid (((Q.refl w13).alloc (.cells #[] 27)).grown hgrow14 (fun k hk => by cases hk; exact Nat.le_refl _))
      rw [Nat.zero_add, List.nil_append] at hown14
      have HO14 := Lib.hid hown14
      rw [Nat.zero_add]
      clear hown14 hgrow14
      go_wp2_with (at_builtin; refine stopAt ?_)
      refine goOn ?_
      refine wpList_append_sl rfl _ _ 23 rfl w13.heap.size 27 i0 _ 1 24 Try.underlying23 HI.out hz0 hz1 hz2 rfl (by decide) _ W4 _ rfl (own_q HO14.out ((Q.refl w14).alloc _)) (some ⟨w14.heap.size, 0, none⟩) 1 1 [.slice b13 q cp13] rfl (slAlloc w14 [.slice b13 q cp13] 27 1 rfl) (by simp [Value.oneCell']) (by omega) (by decide) (by have := HQ14.out.size; simp; omega) ?_
      intro a15 cp15 w15 hown15 hgrow15 _
      have HQ15' := Lib.hid (((HQ14.out).alloc (.cells #[.slice b13 q cp13] 27)).grown_own (own_q HO14.out ((Q.refl w14).alloc _)) (Nat.le_refl _) hgrow15)
      have HQ15'' := Lib.hid (HQ13'.out.trans HQ15'.out)
      have HM15 := Lib.hid (HM13.out.q HQ15'.out)
      have HW15 := Lib.hid (show SlR w15 (fun b => col4 b = 0) a15 (W4 + 1) cp15 (rs.take W4 ++ [fs]) from
        ⟨by rw [List.length_append, HWT.out]; rfl, _, Sl.of_own hown15, (fun y hy => HM13.out.new0 _ (own_pos hown15 y hy).1), ((HRC13.out.q HQ15'.out).take W4).snoc fs b13 q cp13 HFL.out.symm (HS13.out.q HQ15'.out) (fun y hy => HN12.out _ (HP13.out y hy).1)⟩)
      have HS15 := Lib.hid (HS13.out.q HQ15'.out)
      clear hown15 hgrow15 HO14
      go_wp2_with (fail)
      refine (jAppend_any L4 col4 (rs.take W4) b13 q cp13 fs w15 HM15.out HS15.out HFB.out (by omega) (by rw [HWT.out]; omega)).mono ?_
      rintro e w16 (⟨hx, _⟩ | ⟨_, rfl, hd⟩)
      · exact absurd hx (by omega)
      have HW16 := Lib.hid (show SlR w16 (fun b => col4 b = 0) a15 (W4 + 1) cp15 (rs.take W4 ++ [fs]) from by
        obtain ⟨_, _, _, hF⟩ := hd
        exact HW15.out.qf hF (fun b hb e => e hb))
      obtain ⟨hq16, col5, hL16, _⟩ := hd.got HQ15''.out (fun b hb => Nat.le_trans HQ1.out.size (HC10.out b hb))
      have HQ16' := Lib.hid hq16
      have HL16 := Lib.hid hL16
      have HOK2 := Lib.hid (show OkRs (rs.take W4 ++ [fs]) from hL16.ok)
      have HO42 := Lib.hid (show Ok4 (rs.take W4 ++ [fs]) from fun x hx => (List.mem_append.1 hx).elim (HO4W.out x) (fun h => by rw [List.mem_singleton.1 h, HFL.out]; omega))
      have HL2 := Lib.hid (show (rs.take W4 ++ [fs]).length = W4 + 1 by rw [List.length_append, HWT.out]; rfl)
      have hb2 : (bytesL (rs.take W4 ++ [fs])).length ≤ 1550 := by
        have h5 := bytesL_le rs W4
        have h6 := frameZ_le fs
        rw [HN.out] at h5
        rw [bytesL_append, bytesL_one, List.length_append]
        have h7 := HFL.out
        omega
      generalize rs.take W4 ++ [fs] = want at *
      clear hd hq16 hL16
      obtain ⟨bl, hbl2⟩ : ∃ bl, (bytesL want).length = bl := ⟨_, rfl⟩
      have HBL := Lib.hid hbl2
      rw [hbl2] at hb2
      clear hbl2
      go_wp2_with (fail)
      refine (jBytes_any L4 col5 want w16 HL16.out (by rw [HBL.out]; omega)).mono ?_
      rintro e w17 ⟨b17, cp17, rfl, hown17, hq17⟩
      rw [HBL.out] at hown17 ⊢
      have HQ17' := Lib.hid (HQ16'.out.trans hq17)
      have HW17 := Lib.hid (HW16.out.q hq17)
      have HS17 := Lib.hid (Sl.of_own hown17)
      have HP17 := Lib.hid (own_pos hown17)
      clear hown17 hq17
      go_wp2_with (fail)
      refine (jOpen_any b17 bl cp17 (bytesL want) w17 HS17.out (bytesL_bys HOK2.out) (by omega) (fun y hy => (HP17.out y hy).2.1)).mono ?_
      have hoa := openZ_all want HO42.out HOK2.out
      rw [HBL.out] at hoa
      rw [hoa]
      rintro e w18 ⟨hq18, ⟨_, L6, col6, rfl, hL6, _⟩ | ⟨hx, _⟩⟩
      case inr => exact absurd rfl hx
      have HQ18' := Lib.hid (HQ17'.out.trans hq18)
      have HW18 := Lib.hid (HW17.out.q hq18)
      have HL18 := Lib.hid (show LogAt w18 L6 col6 want from hL6)
      clear hq18 hL6 hoa
      go_wp2_with (fail)
      refine (jRecords_any L6 col6 want w18 HL18.out).mono ?_
      rw [show RetRecs w18 want = fun e w' => ∃ a cap vs, e = .returned (.slice a want.length cap) ∧ OwnRecs w' w18.heap.size a want.length cap vs want ∧ Q w18 w' from rfl, HL2.out]
      rintro e w19 ⟨b19, cp19, vs19, rfl, hO19, hq19⟩
      have HQ19' := Lib.hid (HQ18'.out.trans hq19)
      have HW19 := Lib.hid (HW18.out.q hq19)
      have HO19 := Lib.hid hO19
      clear hO19 hq19
      go_wp2_with (fail)
      refine (rSame34_any _ _ b19 a15 (W4 + 1) (W4 + 1) cp19 cp15 want want w19 HO19.out.slr HW19.out HOK2.out HOK2.out (by omega) (by omega)).mono ?_
      rintro e w20 ⟨rfl, hq20⟩
      have HQ20 := Lib.hid (HQ19'.out.trans hq20)
      clear hq20
      rw [show decide (want = want) = true from decide_eq_true rfl]
      go_wp2_with (fail)
      refine (lives34_any w20).mono ?_
      rintro e w21 ⟨rfl, hq21⟩
      have HQ21 := Lib.hid (HQ20.out.trans hq21)
      clear hq21
      go_wp2
      go_ret
      exact ⟨rfl, HQ21.out⟩
end Go.Proofs.Ytfkbdiheccnohaa
