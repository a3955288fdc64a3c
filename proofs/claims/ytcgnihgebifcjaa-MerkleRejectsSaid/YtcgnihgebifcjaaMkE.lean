/- The walk of MerkleVerifies. -/
import Derived.Test.YtcgnihgebifcjaaMkD
import Derived.Lib.MinMax
namespace Go.Proofs.Ytcgnihgebifcjaa
open Go Go.RowKit Go.BigFrame

theorem Sl.takeM {w : World} {a : Option Addr} {n cap : Nat} {f : Int → Value} {zs : List Int} (h : Sl w 1 a n cap (zs.map f)) (m : Nat) (hm : m ≤ n) : Sl w 1 a m cap ((zs.take m).map f) := by
  obtain ⟨h1, h2, h3, h4, h5⟩ := h
  have hl : zs.length = n := by simpa using h1
  refine ⟨by rw [List.length_map, List.length_take, hl]; omega, by omega, h3, h4, ?_⟩
  rcases h5 with h5 | ⟨g, o, ha, hg, hc⟩
  · exact .inl (by omega)
  · refine .inr ⟨g, o, ha, hg, fun j u hu => hc j u ?_⟩
    rw [List.map_take, List.getElem?_take] at hu
    split at hu
    · exact hu
    · cases hu
theorem bentI_rng (k : Nat) (d i : Int) (h : -9223372036854775808 ≤ i ∧ i ≤ 9223372036854775807) : -9223372036854775808 ≤ bentI k d i ∧ bentI k d i ≤ 9223372036854775807 := by
  unfold bentI; split
  · exact wf_i64 (wrap64_wf _)
  · exact h
theorem bentV_rng (k : Nat) (d i : Int) (h : -9223372036854775808 ≤ i ∧ i ≤ 9223372036854775807) : -9223372036854775808 ≤ bentV k d i ∧ bentV k d i ≤ 9223372036854775807 := by
  unfold bentV; split
  · exact wf_i64 (wrap64_wf _)
  · exact h
theorem proveV_rng (cs : List Int) (k : Int) (hc : I64s cs) (hk : -9223372036854775808 ≤ k ∧ k ≤ 9223372036854775807) : (-9223372036854775808 ≤ (proveV cs k).1 ∧ (proveV cs k).1 ≤ 9223372036854775807) ∧ (-9223372036854775808 ≤ (proveV cs k).2 ∧ (proveV cs k).2 ≤ 9223372036854775807) := by
  unfold proveV
  split
  · rename_i h
    refine ⟨hk, hc _ ?_⟩
    have hl : k.toNat < cs.length := by omega
    rw [List.getD_eq_getElem?_getD, List.getElem?_eq_getElem hl]
    exact List.getElem_mem hl
  · exact ⟨⟨by decide, by decide⟩, ⟨by decide, by decide⟩⟩
theorem proveP_len (F : Nat → Nat → Int) (cs : List Int) (k : Int) (h : cs.length ≤ 1000) : (proveP F cs k).length ≤ 17 := by
  unfold proveP
  split
  · rw [proofZ_len]; exact hgt_17 _ (by omega)
  · simp
set_option maxRecDepth 100000 in
set_option maxHeartbeats 2000000 in
theorem merkleVerifies_walk (root n i v : Int) (a : Option Addr) (m cap : Nat) (pz : List Int) (a3 : Option Addr) (len3 cap3 : Nat) (z3 : List Int) (k how by_ : Int) (w : World)
    (_hr : (Lit.int .u64 root).wf = true) (hn : (Lit.int .i64 n).wf = true) (hi : (Lit.int .i64 i).wf = true) (hv : (Lit.int .i64 v).wf = true) (hp : IsRow .u64 w a m cap pz)
    (w3 : IsRow .i64 w a3 len3 cap3 z3) (hk : (Lit.int .i64 k).wf = true) (hh : (Lit.int .i64 how).wf = true) (hb : (Lit.int .i64 by_).wf = true) :
    Calls Try.prog 3 #[.int .u64 root, .int .i64 n, .agg #[.int .i64 i, .int .i64 v, .slice a m cap], .slice a3 len3 cap3, .int .i64 k, .int .i64 how, .int .i64 by_] w fun e w' => e = .returned (.bool true) ∧ Q w w' := by
  obtain ⟨i0, hinf, hz0, hz1, hz2⟩ := info_parts infoU64m
  have HINF := Lib.hid hinf
  have SP := Lib.hid (Sl.of_row hp)
  have S3 := Lib.hid (Sl.of_row w3)
  have R3 := Lib.hid (rowI64m w3)
  have HI := Lib.hid (wf_i64 hi)
  have HV := Lib.hid (wf_i64 hv)
  have HN := Lib.hid (wf_i64 hn)
  have HK := Lib.hid (wf_i64 hk)
  have HH := Lib.hid (wf_i64 hh)
  have HB := Lib.hid (wf_i64 hb)
  generalize z3.take len3 = zl at *
  generalize pz.take m = pl at *
  have hmc := SP.out.2.1
  have hmx := SP.out.2.2.1
  unfold maxLen at hmx
  have HB1 := Lib.hid (Box.new w [.int .i64 i, .int .i64 v, .slice a m cap] 25)
  have HQ1 := Lib.hid ((Q.refl w).alloc (.cells #[.int .i64 i, .int .i64 v, .slice a m cap] 25))
  clear hi hv hp hn w3 hk hh hb hinf
  go_enter Try.func3, Try.ntmps3
  go_upto_region 1 with (fail)
  generalize w.alloc (.cells #[.int .i64 i, .int .i64 v, .slice a m cap] 25) = W0 at *
  generalize hPB : w.heap.size = PB at *
  have HPB := Lib.hid hPB
  clear hPB
  obtain ⟨r2, s2⟩ := HB1.out.2 2 _ rfl
  have hrl := HB1.out.1
  obtain ⟨q, hq⟩ : ∃ q : Nat, min m 8 = q := ⟨_, rfl⟩
  have hmin : min (m : Int) 8 = (q : Int) := by omega
  have hqc : q ≤ cap := by omega
  have HQ8 := Lib.hid (show q ≤ 8 by omega)
  have SQ := Lib.hid (show Sl W0 1 a q cap ((pl.take q).map (Value.int .u64)) from Sl.takeM (SP.out.q HQ1.out) q (by omega))
  clear hq
  go_wp2_with (at_builtin; refine stopAt ?_)
  refine goOn ?_
  refine wpList_append_sl rfl _ _ 23 rfl W0.heap.size 22 i0 _ 1 8 Try.underlying23 HINF.out hz0 hz1 hz2 rfl (by decide) _ 0 [] rfl (World.ownsRow_made W0 #[] 0 (Nat.le_refl _) (by decide) rfl) a q cap _ rfl (SQ.out.q ((Q.refl W0).alloc _)) (fun u hu => by obtain ⟨b, _, rfl⟩ := List.mem_map.1 hu; rfl) (by have := HQ8.out; omega) (by decide) (by simp) ?_
  intro a' cap' w' hown hgrow _
  have hO5 : w'.ownsRow W0.heap.size 22 1 (.slice a' q cap') q ((pl.take q).map (Value.int .u64)) := by rw [Nat.zero_add] at hown; exact hown
  have HO5 := Lib.hid hO5
  rw [Nat.zero_add]
  have HQ05 := Lib.hid (((Q.refl W0).alloc (.cells #[] 22)).grown hgrow (fun k hk => by cases hk; exact Nat.le_refl _))
  clear hown hO5 hgrow r2 s2 hmin hqc hmc hmx
  have HQ5 := Lib.hid (HQ1.out.trans HQ05.out)
  have HB5 := Lib.hid (HB1.out.q HQ05.out)
  have HPL := Lib.hid hrl
  clear hrl
  obtain ⟨r2, s2⟩ := HB5.out.2 2 _ rfl
  have hrl := HB5.out.1
  go_wp2_with (fail)
  have hst : QF (· = PB) w' (w'.setCell ⟨PB, 2, none⟩ (.slice a' q cap')) := QF.set (F := (· = PB)) w' PB 2 _ rfl
  have HB6 := Lib.hid (show Box (w'.setCell ⟨PB, 2, none⟩ (.slice a' q cap')) PB [.int .i64 i, .int .i64 v, .slice a' q cap'] from Box.setC HB5.out 2 _ (show 2 < 3 by decide))
  have HP6 := Lib.hid (Sl.of_own (own_qf HO5.out hst (fun b hb e => by have := (HO5.out.lt b hb).1; have := HPL.out; omega)))
  have HQ6 := Lib.hid (QF.q HQ5.out hst (fun b e => by have := HPB.out; omega))
  clear hst r2 s2 hrl HQ05 HO5 HQ5 HB5 SQ HB1 HQ1
  generalize w'.setCell ⟨PB, 2, none⟩ (.slice a' q cap') = w6 at *
  have HPS := Lib.hid (show (pl.take q).length = q by have := HP6.out.1; simpa using this)
  generalize pl.take q = ps at *
  refine (rCells_any a3 len3 cap3 zl w6 (S3.out.q HQ6.out)).mono ?_
  have HM : min len3 20 ≤ 20 := Nat.min_le_right _ _
  have R1 := Lib.hid (show I64s (zl.take 20) from fun z hz => R3.out z (List.mem_of_mem_take hz))
  rintro e w7 ⟨a1, c1, rfl, hown7, hq7⟩
  have Q7 := Lib.hid (HQ6.out.trans hq7)
  have S7 := Lib.hid (Sl.of_own hown7)
  have B7 := Lib.hid (HB6.out.q hq7)
  have P7 := Lib.hid (HP6.out.q hq7)
  clear hown7 hq7 S3 R3 HQ6 HB6 HP6
  generalize zl.take 20 = cs at *
  generalize min len3 20 = c at *
  have HL := Lib.hid (show cs.length = c by have := S7.out.1; simpa using this)
  go_wp2_with (fail)
  refine (around_any k (c + 1) _ HK.out (by omega)).mono ?_
  rintro e w7' ⟨rfl, rfl⟩
  have hk : 0 ≤ aroundZ k (c + 1) ∧ aroundZ k (c + 1) < c + 1 := ⟨aroundZ_lo _ _ (by omega), aroundZ_hi _ _ (by omega)⟩
  generalize aroundZ k (c + 1) = k0 at *
  have HX := Lib.hid (proveV_rng cs k0 R1.out (by omega))
  have HXP := Lib.hid (proveP_len (nodeZ cs) cs k0 (by have := HL.out; omega))
  go_wp2_with (fail)
  refine (rProve_any a1 c c1 cs k0 _ S7.out R1.out (by omega)).mono ?_
  generalize (proveV cs k0).1 = x0 at *
  generalize (proveV cs k0).2 = x1 at *
  generalize proveP (nodeZ cs) cs k0 = xp at *
  rintro e w8 ⟨b8, c8, rfl, hown8, hq8⟩
  have Q8 := Lib.hid (Q7.out.trans hq8)
  have S8 := Lib.hid (S7.out.q hq8)
  have B8 := Lib.hid (B7.out.q hq8)
  have P8 := Lib.hid (P7.out.q hq8)
  have X8 := Lib.hid (Sl.of_own hown8)
  clear hown8 hq8 Q7 S7 B7 P7
  generalize xp.length = xm at *
  go_upto_region 5 with (fail)
  have X9 := Lib.hid (Box.new w8 [.int .i64 x0, .int .i64 x1, .slice b8 xm c8] 25)
  have hqa : Q w8 (w8.alloc (.cells #[.int .i64 x0, .int .i64 x1, .slice b8 xm c8] 25)) := (Q.refl w8).alloc _
  have Q9 := Lib.hid (Q8.out.trans hqa)
  have S9 := Lib.hid (S8.out.q hqa)
  have B9 := Lib.hid (B8.out.q hqa)
  have P9 := Lib.hid (P8.out.q hqa)
  have Z9 := Lib.hid (X8.out.q hqa)
  clear hqa Q8 S8 B8 P8 X8
  generalize w8.alloc (.cells #[.int .i64 x0, .int .i64 x1, .slice b8 xm c8] 25) = w9 at *
  generalize w8.heap.size = XB at *
  obtain ⟨hx, y0, y1, y2⟩ := Box.here3 X9.out
  go_wp2_with (fail)
  refine (rBent_any x0 x1 b8 xm c8 xp how by_ w9 Z9.out (by have := HXP.out; omega) HX.out.1 HX.out.2 HH.out HB.out).mono ?_
  have HY := Lib.hid (bentI_rng (bentK how xm) (bentD by_) x0 HX.out.1)
  have HYV := Lib.hid (bentV_rng (bentK how xm) (bentD by_) x1 HX.out.2)
  generalize bentI (bentK how xm) (bentD by_) x0 = e0 at *
  generalize bentV (bentK how xm) (bentD by_) x1 = e1 at *
  generalize bentP (bentK how xm) (bentD by_) xp = ep at *
  rintro e w10 ⟨b10, c10, rfl, hown10, hq10⟩
  have Q10 := Lib.hid (Q9.out.trans hq10)
  have S10 := Lib.hid (S9.out.q hq10)
  have B10 := Lib.hid (B9.out.q hq10)
  have P10 := Lib.hid (P9.out.q hq10)
  have X10 := Lib.hid (X9.out.q hq10)
  have Z10 := Lib.hid (Z9.out.q hq10)
  have E10 := Lib.hid (Sl.of_own hown10)
  clear hown10 hq10 Q9 S9 B9 P9 X9 Z9 hx y0 y1 y2
  generalize ep.length = em at *
  go_upto_region 6 with (fail)
  have F11 := Lib.hid (Box.new w10 [.int .i64 e0, .int .i64 e1, .slice b10 em c10] 25)
  have hqa : Q w10 (w10.alloc (.cells #[.int .i64 e0, .int .i64 e1, .slice b10 em c10] 25)) := (Q.refl w10).alloc _
  have Q11 := Lib.hid (Q10.out.trans hqa)
  have S11 := Lib.hid (S10.out.q hqa)
  have B11 := Lib.hid (B10.out.q hqa)
  have P11 := Lib.hid (P10.out.q hqa)
  have X11 := Lib.hid (X10.out.q hqa)
  have Z11 := Lib.hid (Z10.out.q hqa)
  have E11 := Lib.hid (E10.out.q hqa)
  clear hqa Q10 S10 B10 P10 X10 Z10 E10
  generalize w10.alloc (.cells #[.int .i64 e0, .int .i64 e1, .slice b10 em c10] 25) = w11 at *
  generalize w10.heap.size = EB at *
  go_wp2_with (fail)
  refine (rRoot_any a1 c c1 cs _ S11.out R1.out (by omega)).mono ?_
  rintro e w12 ⟨rfl, hq12⟩
  have Q12 := Lib.hid (Q11.out.trans hq12)
  have B12 := Lib.hid (B11.out.q hq12)
  have P12 := Lib.hid (P11.out.q hq12)
  have X12 := Lib.hid (X11.out.q hq12)
  have Z12 := Lib.hid (Z11.out.q hq12)
  have E12 := Lib.hid (E11.out.q hq12)
  have F12 := Lib.hid (F11.out.q hq12)
  clear hq12 Q11 B11 P11 X11 Z11 E11 F11 S11
  generalize rootZ cs = R at *
  go_wp2_with (fail)
  refine (around_any n 65537 _ HN.out (by omega)).mono ?_
  rintro e w12' ⟨rfl, rfl⟩
  obtain ⟨N, hN⟩ : ∃ N : Nat, aroundZ n 65537 = N := ⟨(aroundZ n 65537).toNat, by have := aroundZ_lo n 65537 (by omega); omega⟩
  have hN2 : N < 65537 := by have := aroundZ_hi n 65537 (by omega); omega
  rw [hN]
  clear hN
  go_upto_region 8 with (fail)
  refine wp_region_mix [(0, true), (1, true), (2, true), (4, true), (5, true), (6, true), (3, false), (7, false), (8, true), (9, true), (10, true), (11, true), (12, true), (13, true), (15, true), (16, true), (17, true), (18, true), (14, false), (19, false), (20, true), (21, true)] (by kernel_rfl) (by kernel_rfl) (fun _ _ _ _ _ h => h) ?_
  have hqd : Q w12 w12.drew := (Q.refl w12).drew
  have Q13 := Lib.hid (Q12.out.trans hqd)
  have B13 := Lib.hid (B12.out.q hqd)
  have P13 := Lib.hid (P12.out.q hqd)
  have X13 := Lib.hid (X12.out.q hqd)
  have Z13 := Lib.hid (Z12.out.q hqd)
  have E13 := Lib.hid (E12.out.q hqd)
  have F13 := Lib.hid (F12.out.q hqd)
  clear hqd Q12 B12 P12 X12 Z12 E12 F12
  generalize w12.drew = w13 at *
  obtain ⟨y0, y1, y2⟩ := Box.soft3 B13.out
  repeat (refine mix_val rfl rfl ?_; go_big_quiet_step (fail); refine wpQuiet_nil ?_)
  clear y0 y1 y2
  refine mix_run rfl rfl ?_
  intro K hK
  go_wp2_with (fail)
  refine (mVerify_any root N i v a' q cap' ps _ (by omega) HI.out HV.out P13.out).mono ?_
  obtain ⟨V1, hV1⟩ : ∃ V1, verZ root N i v ps = V1 := ⟨_, rfl⟩
  have HV1 := Lib.hid hV1
  rw [hV1]
  clear hV1
  rintro e w14 ⟨rfl, hq⟩
  refine hK _ _ hq ?_
  clear hK K
  have Q14 := Lib.hid (Q13.out.trans hq)
  have B14 := Lib.hid (B13.out.q hq)
  have P14 := Lib.hid (P13.out.q hq)
  have X14 := Lib.hid (X13.out.q hq)
  have Z14 := Lib.hid (Z13.out.q hq)
  have E14 := Lib.hid (E13.out.q hq)
  have F14 := Lib.hid (F13.out.q hq)
  clear hq Q13 B13 P13 X13 Z13 E13 F13
  refine mix_run rfl rfl ?_
  intro K hK
  go_wp2_with (fail)
  refine (rVerify_any root N i v a' q cap' ps _ (by omega) HI.out HV.out P14.out).mono ?_
  rw [HV1.out]
  rintro e w15 ⟨rfl, hq⟩
  refine hK _ _ hq ?_
  clear hK K
  have Q15 := Lib.hid (Q14.out.trans hq)
  have X15 := Lib.hid (X14.out.q hq)
  have Z15 := Lib.hid (Z14.out.q hq)
  have E15 := Lib.hid (E14.out.q hq)
  have F15 := Lib.hid (F14.out.q hq)
  clear hq Q14 X14 Z14 E14 F14
  have bn1 : (V1 != V1) = false := by simp
  obtain ⟨y0, y1, y2⟩ := Box.soft3 X15.out
  repeat (refine mix_val rfl rfl ?_; go_big_quiet_step (fail); refine wpQuiet_nil ?_)
  clear y0 y1 y2
  refine mix_run rfl rfl ?_
  intro K hK
  go_wp2_with (fail)
  refine (mVerify_any R c x0 x1 b8 xm c8 xp _ (by omega) HX.out.1 HX.out.2 Z15.out).mono ?_
  obtain ⟨V2, hV2⟩ : ∃ V2, verZ R c x0 x1 xp = V2 := ⟨_, rfl⟩
  have HV2 := Lib.hid hV2
  rw [hV2]
  clear hV2
  rintro e w16 ⟨rfl, hq⟩
  refine hK _ _ hq ?_
  clear hK K
  have Q16 := Lib.hid (Q15.out.trans hq)
  have X16 := Lib.hid (X15.out.q hq)
  have Z16 := Lib.hid (Z15.out.q hq)
  have E16 := Lib.hid (E15.out.q hq)
  have F16 := Lib.hid (F15.out.q hq)
  clear hq Q15 X15 Z15 E15 F15
  refine mix_run rfl rfl ?_
  intro K hK
  go_wp2_with (fail)
  refine (rVerify_any R c x0 x1 b8 xm c8 xp _ (by omega) HX.out.1 HX.out.2 Z16.out).mono ?_
  rw [HV2.out]
  rintro e w17 ⟨rfl, hq⟩
  refine hK _ _ hq ?_
  clear hK K
  have Q17 := Lib.hid (Q16.out.trans hq)
  have X17 := Lib.hid (X16.out.q hq)
  have Z17 := Lib.hid (Z16.out.q hq)
  have E17 := Lib.hid (E16.out.q hq)
  have F17 := Lib.hid (F16.out.q hq)
  clear hq Q16 X16 Z16 E16 F16
  have bn2 : (V2 != V2) = false := by simp
  repeat (refine mix_val rfl rfl ?_; go_big_quiet_step (fail); refine wpQuiet_nil ?_)
  refine mix_end ?_
  go_upto_region 10 with (fail)
  refine wp_region_mix [(0, true), (1, true), (2, true), (3, true), (5, true), (6, true), (7, true), (8, true), (4, false), (9, false), (10, true), (11, true), (12, true), (13, true), (14, true), (16, true), (17, true), (18, true), (15, false), (19, false), (20, true), (21, true), (22, true), (23, false), (24, true), (25, true)] (by kernel_rfl) (by kernel_rfl) (fun _ _ _ _ _ h => h) ?_
  have hqd : Q w17 w17.drew := (Q.refl w17).drew
  have Q18 := Lib.hid (Q17.out.trans hqd)
  have X18 := Lib.hid (X17.out.q hqd)
  have Z18 := Lib.hid (Z17.out.q hqd)
  have E18 := Lib.hid (E17.out.q hqd)
  have F18 := Lib.hid (F17.out.q hqd)
  clear hqd Q17 X17 Z17 E17 F17
  generalize w17.drew = w18 at *
  obtain ⟨y0, y1, y2⟩ := Box.soft3 F18.out
  repeat (refine mix_val rfl rfl ?_; go_big_quiet_step (fail); refine wpQuiet_nil ?_)
  clear y0 y1 y2
  refine mix_run rfl rfl ?_
  intro K hK
  go_wp2_with (fail)
  refine (mVerify_any R c e0 e1 b10 em c10 ep _ (by omega) HY.out HYV.out E18.out).mono ?_
  obtain ⟨V3, hV3⟩ : ∃ V3, verZ R c e0 e1 ep = V3 := ⟨_, rfl⟩
  have HV3 := Lib.hid hV3
  rw [hV3]
  clear hV3
  rintro e w19 ⟨rfl, hq⟩
  refine hK _ _ hq ?_
  clear hK K
  have Q19 := Lib.hid (Q18.out.trans hq)
  have X19 := Lib.hid (X18.out.q hq)
  have Z19 := Lib.hid (Z18.out.q hq)
  have E19 := Lib.hid (E18.out.q hq)
  have F19 := Lib.hid (F18.out.q hq)
  clear hq Q18 X18 Z18 E18 F18
  refine mix_run rfl rfl ?_
  intro K hK
  go_wp2_with (fail)
  refine (rVerify_any R c e0 e1 b10 em c10 ep _ (by omega) HY.out HYV.out E19.out).mono ?_
  rw [HV3.out]
  rintro e w20 ⟨rfl, hq⟩
  refine hK _ _ hq ?_
  clear hK K
  have Q20 := Lib.hid (Q19.out.trans hq)
  have X20 := Lib.hid (X19.out.q hq)
  have Z20 := Lib.hid (Z19.out.q hq)
  clear hq Q19 X19 Z19
  have bn3 : (V3 == V3) = true := by simp
  obtain ⟨y0, y1, y2⟩ := Box.soft3 X20.out
  repeat (refine mix_val rfl rfl ?_; go_big_quiet_step (fail); refine wpQuiet_nil ?_)
  clear y0 y1 y2
  refine mix_run rfl rfl ?_
  intro K hK
  go_wp2_with (fail)
  refine (mVerify_any R N x0 x1 b8 xm c8 xp _ (by omega) HX.out.1 HX.out.2 Z20.out).mono ?_
  obtain ⟨V4, hV4⟩ : ∃ V4, verZ R N x0 x1 xp = V4 := ⟨_, rfl⟩
  have HV4 := Lib.hid hV4
  rw [hV4]
  clear hV4
  rintro e w21 ⟨rfl, hq⟩
  refine hK _ _ hq ?_
  clear hK K
  have Q21 := Lib.hid (Q20.out.trans hq)
  have Z21 := Lib.hid (Z20.out.q hq)
  clear hq Q20 Z20
  refine mix_run rfl rfl ?_
  intro K hK
  go_wp2_with (fail)
  refine (rVerify_any R N x0 x1 b8 xm c8 xp _ (by omega) HX.out.1 HX.out.2 Z21.out).mono ?_
  rw [HV4.out]
  rintro e w22 ⟨rfl, hq⟩
  refine hK _ _ hq ?_
  clear hK K
  have Q22 := Lib.hid (Q21.out.trans hq)
  have Z22 := Lib.hid (Z21.out.q hq)
  clear hq Q21 Z21
  have bn4 : (V4 == V4) = true := by simp
  repeat (refine mix_val rfl rfl ?_; go_big_quiet_step (fail); refine wpQuiet_nil ?_)
  refine mix_run rfl rfl ?_
  intro K hK
  go_wp2_with (fail)
  refine (lives11_any _).mono ?_
  rintro e w23 ⟨rfl, hq⟩
  refine hK _ _ hq ?_
  clear hK K
  have Q23 := Lib.hid (Q22.out.trans hq)
  have Z23 := Lib.hid (Z22.out.q hq)
  clear hq Q22 Z22
  repeat (refine mix_val rfl rfl ?_; go_big_quiet_step (fail); refine wpQuiet_nil ?_)
  refine mix_end ?_
  go_wp2
  go_ret
  exact ⟨rfl, Q23.out⟩
end Go.Proofs.Ytcgnihgebifcjaa
