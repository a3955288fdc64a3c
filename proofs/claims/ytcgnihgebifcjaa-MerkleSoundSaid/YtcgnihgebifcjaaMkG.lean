/- The walk of MerkleSound. (Printed by wip/mksound.py.) -/
import Derived.Test.YtcgnihgebifcjaaMkF
namespace Go.Proofs.Ytcgnihgebifcjaa
open Go Go.RowKit Go.BigFrame

theorem aroundZ_small (x m : Int) (h0 : 0 ≤ x) (h1 : x < m) : aroundZ x m = x := by
  unfold aroundZ
  rw [if_neg (by omega)]
  exact Int.emod_eq_of_lt h0 h1
set_option maxRecDepth 100000 in
set_option maxHeartbeats 4000000 in
theorem merkleSound_walk (a0 : Option Addr) (len0 cap0 : Nat) (z0 : List Int) (i how by_ : Int) (w : World) (w0 : IsRow .i64 w a0 len0 cap0 z0) (wi : (Lit.int .i64 i).wf = true) (wh : (Lit.int .i64 how).wf = true) (wb : (Lit.int .i64 by_).wf = true) :
    Calls Try.prog 4 #[.slice a0 len0 cap0, .int .i64 i, .int .i64 how, .int .i64 by_] w fun e w' => e = .returned (.bool true) ∧ Q w w' := by
  have S0 := Lib.hid (Sl.of_row w0)
  have R0 := Lib.hid (rowI64m w0)
  have WI := Lib.hid (wf_i64 wi)
  have WH := Lib.hid (wf_i64 wh)
  have WB := Lib.hid (wf_i64 wb)
  clear w0 wi wh wb
  generalize z0.take len0 = zl at *
  have HM : min len0 20 ≤ 20 := Nat.min_le_right _ _
  have R1 := Lib.hid (show I64s (zl.take 20) from fun z hz => R0.out z (List.mem_of_mem_take hz))
  go_enter Try.func4, Try.ntmps4
  go_wp2_with (fail)
  refine (rCells_any a0 len0 cap0 zl w S0.out).mono ?_
  rintro e w1 ⟨a1, c1, rfl, hown1, hq1⟩
  have Q1 := Lib.hid hq1
  have S1 := Lib.hid (Sl.of_own hown1)
  clear hown1 hq1 S0 R0
  generalize zl.take 20 = cs at *
  generalize min len0 20 = n at *
  have HL := Lib.hid (show cs.length = n by have := S1.out.1; simpa using this)
  by_cases hn0 : n = 0
  · have hz : ((n : Int) == 0) = true := by simp; omega
    clear hn0
    go_wp2_with (fail)
    refine (lives11_any _).mono ?_
    rintro e w2 ⟨rfl, hq2⟩
    have Q2 := Lib.hid (Q1.out.trans hq2)
    clear hq2
    go_wp2
    go_ret
    exact ⟨rfl, Q2.out⟩
  have hz : ((n : Int) == 0) = false := by simp; omega
  go_wp2_with (fail)
  refine (mTree_any a1 n c1 cs w1 S1.out R1.out (by omega)).mono ?_
  rintro e w2 ⟨hq2, TB, col, rfl, hT, _⟩
  have Q2 := Lib.hid (Q1.out.trans hq2)
  have T2 := Lib.hid hT
  clear hq2 hT S1 Q1
  go_wp2_with (fail)
  refine (around_any i n _ WI.out (by omega)).mono ?_
  rintro e w2' ⟨rfl, rfl⟩
  obtain ⟨k, hk⟩ : ∃ k : Nat, aroundZ i n = k := ⟨(aroundZ i n).toNat, by have := aroundZ_lo i n (by omega); omega⟩
  have hkn : k < n := by have := aroundZ_hi i n (by omega); omega
  rw [hk]
  clear hk
  obtain ⟨v, hv⟩ : ∃ v, cs[k]? = some v := ⟨cs[k]'(by rw [HL.out]; exact hkn), by rw [List.getElem?_eq_getElem]⟩
  have hvr := R1.out v (List.mem_of_getElem? hv)
  have HVR := Lib.hid hvr
  have HPV := Lib.hid (show proveV cs k = ((k : Int), v) by
    unfold proveV
    rw [if_pos ⟨by omega, by have := HL.out; omega⟩, Int.toNat_natCast, List.getD_eq_getElem?_getD, hv]; rfl)
  have HPP := Lib.hid (show proveP (nodeZ cs) cs k = proofZ (nodeZ cs) (hgt cs.length) k by
    unfold proveP
    rw [if_pos ⟨by omega, by have := HL.out; omega⟩, Int.toNat_natCast])
  have HCO := Lib.hid (ver_complete cs k v hv (by have := HL.out; omega))
  have HSO := Lib.hid (fun K d hd h1 h2 => ver_sound cs k v hv (by have := HL.out; omega) hvr K d hd h1 h2)
  have HPN := Lib.hid (proofZ_len (nodeZ cs) (hgt cs.length) k)
  clear hv hvr
  go_wp2_with (fail)
  refine (mProve_any TB col cs (nodeZ cs) k w2 T2.out).mono ?_
  rw [HPV.out, HPP.out]
  have hm17 : hgt cs.length ≤ 17 := hgt_17 _ (by have := HL.out; omega)
  generalize hPP : proofZ (nodeZ cs) (hgt cs.length) k = P at *
  clear hPP
  obtain ⟨m, hm⟩ : ∃ m, hgt cs.length = m := ⟨_, rfl⟩
  rw [hm] at HPN HSO hm17
  rintro e w3 ⟨b3, c3, rfl, hown3, hq3⟩
  rw [HPN.out] at hown3 ⊢
  have Q3 := Lib.hid (Q2.out.trans hq3)
  have T3 := Lib.hid (T2.out.q hq3)
  have Z3 := Lib.hid (Sl.of_own hown3)
  clear hown3 hq3 Q2 T2 hm
  go_upto_region 8 with (fail)
  have X4 := Lib.hid (Box.new w3 [.int .i64 k, .int .i64 v, .slice b3 m c3] 25)
  have hqa : Q w3 (w3.alloc (.cells #[.int .i64 k, .int .i64 v, .slice b3 m c3] 25)) := (Q.refl w3).alloc _
  have Q4 := Lib.hid (Q3.out.trans hqa)
  have T4 := Lib.hid (T3.out.q hqa)
  have Z4 := Lib.hid (Z3.out.q hqa)
  clear hqa Q3 T3 Z3
  generalize w3.alloc (.cells #[.int .i64 k, .int .i64 v, .slice b3 m c3] 25) = w4 at *
  generalize w3.heap.size = XB at *
  refine wp_region_tree (fun w'' => ∃ x : After w4.drew, w'' = x.w) (.val 0 (.val 1 (.val 2 (.val 3 (.val 4 (.val 5 (.val 8 (.two 6 (.val 7 (.two 9 (.one 10 (.one 11 .fin)) 10 (.one 9 (.one 11 .fin)))) 10 (.one 6 (.val 7 (.one 9 (.one 11 .fin)))))))))))) (by kernel_rfl) (by kernel_rfl) (fun _ _ _ _ _ h => h) ⟨⟨_, Q.refl _⟩, rfl⟩ ?_
  have hqd : Q w4 w4.drew := (Q.refl w4).drew
  have Q5 := Lib.hid (Q4.out.trans hqd)
  have T5 := Lib.hid (T4.out.q hqd)
  have Z5 := Lib.hid (Z4.out.q hqd)
  have X5 := Lib.hid (X4.out.q hqd)
  clear hqd Q4 T4 Z4 X4
  generalize w4.drew = W at *
  have hg : 0 ≤ aroundZ how (1 + m) ∧ aroundZ how (1 + m) < 1 + m := ⟨aroundZ_lo _ _ (by omega), aroundZ_hi _ _ (by omega)⟩
  have HAR := Lib.hid (fun (u : World) => around_any how (1 + m) u WH.out (by omega))
  generalize aroundZ how (1 + m) = g0 at *
  have hd0 : 1 ≤ bentD by_ ∧ bentD by_ ≤ 1000000 := by
    have h1 := aroundZ_lo by_ 1000000 (by omega)
    have h2 := aroundZ_hi by_ 1000000 (by omega)
    unfold bentD; omega
  have hbk : bentK (1 + g0) m = (1 + g0).toNat := by unfold bentK; rw [aroundZ_small _ _ (by omega) (by omega)]
  have HVB := Lib.hid (HSO.out (bentK (1 + g0) m) (bentD by_) hd0 (by rw [hbk]; omega) (by rw [hbk]; omega))
  have HY := Lib.hid (bentI_rng (bentK (1 + g0) m) (bentD by_) k (by omega))
  have HYV := Lib.hid (bentV_rng (bentK (1 + g0) m) (bentD by_) v HVR.out)
  have HEL := Lib.hid (show (bentP (bentK (1 + g0) m) (bentD by_) P).length = m by rw [bentP_len, HPN.out])
  have HBE := Lib.hid (fun (u : World) (hu : Q W u) => rBent_any k v b3 m c3 P (1 + g0) by_ u (Z5.out.q hu) (by omega) (by omega) HVR.out (by omega) WB.out)
  clear hd0 hbk
  generalize bentI (bentK (1 + g0) m) (bentD by_) k = e0 at *
  generalize bentV (bentK (1 + g0) m) (bentD by_) v = e1 at *
  generalize bentP (bentK (1 + g0) m) (bentD by_) P = ep at *
  obtain ⟨R, hR⟩ : ∃ R, nodeZ cs (hgt cs.length) 0 = R := ⟨_, rfl⟩
  have HR := Lib.hid hR
  rw [show rootZ cs = R from hR, HL.out] at HCO HVB
  clear hR
  obtain ⟨y0, y1, y2⟩ := Box.soft3 X5.out
  repeat (refine tree_val rfl rfl ?_; go_big_quiet_step (fail); refine wpQuiet_nil ?_)
  clear y0 y1 y2
  refine tree_two ?_ ?_
  · refine tree_one rfl rfl ?_
    intro K hK
    go_wp2_with (fail)
    refine (HAR.out _).mono ?_
    rintro e w9 ⟨rfl, rfl⟩
    refine hK _ _ ⟨⟨_, Q.refl _⟩, rfl⟩ ?_
    clear hK K
    refine tree_val rfl rfl ?_; go_big_quiet_step (fail); refine wpQuiet_nil ?_
    refine tree_two ?_ ?_
    · refine tree_one rfl rfl ?_
      intro K hK
      go_wp2_with (fail)
      refine (HBE.out _ (Q.refl _)).mono ?_
      rintro e w10 ⟨be, ce, rfl, hownE, hqE⟩
      rw [HEL.out] at hownE ⊢
      refine hK _ _ ⟨⟨_, hqE⟩, rfl⟩ ?_
      clear hK K
      have QE := Lib.hid hqE
      have EE := Lib.hid (Sl.of_own hownE)
      clear hqE hownE
      refine tree_one rfl rfl ?_
      intro K hK
      go_wp2_with (fail)
      refine hK _ _ ⟨⟨_, QE.out.alloc _⟩, rfl⟩ ?_
      clear hK K
      refine tree_one rfl rfl ?_
      intro K hK
      go_wp2_with (fail)
      refine hK _ _ ⟨⟨_, QE.out.alloc _⟩, rfl⟩ ?_
      clear hK K
      have FT := Lib.hid (Box.new w10 [.int .i64 e0, .int .i64 e1, .slice be m ce] 25)
      have QT := Lib.hid (QE.out.alloc (.cells #[.int .i64 e0, .int .i64 e1, .slice be m ce] 25))
      have ET := Lib.hid (EE.out.q ((Q.refl w10).alloc (.cells #[.int .i64 e0, .int .i64 e1, .slice be m ce] 25)))
      clear QE EE
      generalize w10.alloc (.cells #[.int .i64 e0, .int .i64 e1, .slice be m ce] 25) = wt at *
      generalize w10.heap.size = EB at *
      refine tree_end ?_
      have Q20 := Lib.hid (Q5.out.trans QT.out)
      have T20 := Lib.hid (T5.out.q QT.out)
      have Z20 := Lib.hid (Z5.out.q QT.out)
      have X20 := Lib.hid (X5.out.q QT.out)
      clear QT
      go_upto_region 9 with (fail)
      refine wp_region_mix [(0, true), (2, true), (3, true), (4, true), (1, false), (5, false), (6, true), (7, true), (9, true), (10, true), (11, true), (8, false), (12, false), (13, true), (14, true), (15, true), (16, false), (17, true), (18, true)] (by kernel_rfl) (by kernel_rfl) (fun _ _ _ _ _ h => h) ?_
      have hqd : Q wt wt.drew := (Q.refl wt).drew
      have Q21 := Lib.hid (Q20.out.trans hqd)
      have T21 := Lib.hid (T20.out.q hqd)
      have Z21 := Lib.hid (Z20.out.q hqd)
      have X21 := Lib.hid (X20.out.q hqd)
      have F21 := Lib.hid (FT.out.q hqd)
      have E21 := Lib.hid (ET.out.q hqd)
      clear hqd Q20 T20 Z20 X20 FT ET
      generalize wt.drew = w21 at *
      obtain ⟨y0, y1, y2⟩ := Box.soft3 X21.out
      repeat (refine mix_val rfl rfl ?_; go_big_quiet_step (fail); refine wpQuiet_nil ?_)
      clear y0 y1 y2
      refine mix_run rfl rfl ?_
      intro K hK
      go_wp2_with (fail)
      refine (mTRoot_any TB col _ _ _ T21.out).mono ?_
      rw [HR.out]
      rintro e w22 ⟨rfl, hq⟩
      refine hK _ _ hq ?_
      clear hK K
      have Q22 := Lib.hid (Q21.out.trans hq)
      have T22 := Lib.hid (T21.out.q hq)
      have Z22 := Lib.hid (Z21.out.q hq)
      have X22 := Lib.hid (X21.out.q hq)
      have E22 := Lib.hid (E21.out.q hq)
      have F22 := Lib.hid (F21.out.q hq)
      clear hq Q21 T21 Z21 X21 E21 F21
      refine mix_run rfl rfl ?_
      intro K hK
      go_wp2_with (fail)
      refine (mVerify_any R n k v b3 m c3 P _ (by omega) (by omega) HVR.out Z22.out).mono ?_
      rw [HCO.out]
      rintro e w23 ⟨rfl, hq⟩
      refine hK _ _ hq ?_
      clear hK K
      have Q23 := Lib.hid (Q22.out.trans hq)
      have T23 := Lib.hid (T22.out.q hq)
      have E23 := Lib.hid (E22.out.q hq)
      have F23 := Lib.hid (F22.out.q hq)
      clear hq Q22 T22 E22 F22
      obtain ⟨y0, y1, y2⟩ := Box.soft3 F23.out
      repeat (refine mix_val rfl rfl ?_; go_big_quiet_step (fail); refine wpQuiet_nil ?_)
      clear y0 y1 y2
      refine mix_run rfl rfl ?_
      intro K hK
      go_wp2_with (fail)
      refine (mTRoot_any TB col _ _ _ T23.out).mono ?_
      rw [HR.out]
      rintro e w24 ⟨rfl, hq⟩
      refine hK _ _ hq ?_
      clear hK K
      have Q24 := Lib.hid (Q23.out.trans hq)
      have E24 := Lib.hid (E23.out.q hq)
      have F24 := Lib.hid (F23.out.q hq)
      clear hq Q23 E23 F23
      refine mix_run rfl rfl ?_
      intro K hK
      go_wp2_with (fail)
      refine (mVerify_any R n e0 e1 be m ce ep _ (by omega) HY.out HYV.out E24.out).mono ?_
      rw [HVB.out]
      rintro e w25 ⟨rfl, hq⟩
      refine hK _ _ hq ?_
      clear hK K
      have Q25 := Lib.hid (Q24.out.trans hq)
      have F25 := Lib.hid (F24.out.q hq)
      clear hq Q24 F24
      repeat (refine mix_val rfl rfl ?_; go_big_quiet_step (fail); refine wpQuiet_nil ?_)
      refine mix_run rfl rfl ?_
      intro K hK
      go_wp2_with (fail)
      refine (lives11_any _).mono ?_
      rintro e w26 ⟨rfl, hq⟩
      refine hK _ _ hq ?_
      clear hK K
      have Q26 := Lib.hid (Q25.out.trans hq)
      have F26 := Lib.hid (F25.out.q hq)
      clear hq Q25 F25
      repeat (refine mix_val rfl rfl ?_; go_big_quiet_step (fail); refine wpQuiet_nil ?_)
      refine mix_end ?_
      go_wp2
      go_ret
      exact ⟨rfl, Q26.out⟩
    · refine tree_one rfl rfl ?_
      intro K hK
      go_wp2_with (fail)
      refine hK _ _ ⟨⟨_, (Q.refl W).alloc _⟩, rfl⟩ ?_
      clear hK K
      refine tree_one rfl rfl ?_
      intro K hK
      go_wp2_with (fail)
      refine (HBE.out _ ((Q.refl W).alloc _)).mono ?_
      rintro e w10 ⟨be, ce, rfl, hownE, hqE⟩
      rw [HEL.out] at hownE ⊢
      refine hK _ _ ⟨⟨_, ((Q.refl W).alloc _).trans hqE⟩, rfl⟩ ?_
      clear hK K
      have QE := Lib.hid (((Q.refl W).alloc (.cells #[.int .i64 0, .int .i64 0, .slice none 0 0] 25)).trans hqE)
      have ZB := Lib.hid ((Box.new W [.int .i64 0, .int .i64 0, .slice none 0 0] 25).q hqE)
      have OE := Lib.hid hownE
      clear hqE hownE
      obtain ⟨n0, f0⟩ := ZB.out.2 0 _ rfl
      obtain ⟨n1, f1⟩ := ZB.out.2 1 _ rfl
      obtain ⟨n2, f2⟩ := ZB.out.2 2 _ rfl
      have hnl := ZB.out.1
      refine tree_one rfl rfl ?_
      intro K hK
      go_wp2_with (fail)
      have hst : QF (· = W.heap.size) w10 (((w10.setCell ⟨W.heap.size, 0, none⟩ (.int .i64 e0)).setCell ⟨W.heap.size, 1, none⟩ (.int .i64 e1)).setCell ⟨W.heap.size, 2, none⟩ (.slice be m ce)) := ((QF.set (F := (· = W.heap.size)) w10 W.heap.size 0 _ rfl).trans (QF.set (F := (· = W.heap.size)) _ W.heap.size 1 _ rfl) (fun _ h => .inl h)).trans (QF.set (F := (· = W.heap.size)) _ W.heap.size 2 _ rfl) (fun _ h => .inl h)
      have QT := Lib.hid (QF.q QE.out hst (fun b e => by omega))
      have FT := Lib.hid (show Box (((w10.setCell ⟨W.heap.size, 0, none⟩ (.int .i64 e0)).setCell ⟨W.heap.size, 1, none⟩ (.int .i64 e1)).setCell ⟨W.heap.size, 2, none⟩ (.slice be m ce)) W.heap.size [.int .i64 e0, .int .i64 e1, .slice be m ce] from Box.setC (Box.setC (Box.setC ZB.out 0 _ (show 0 < 3 by decide)) 1 _ (show 1 < 3 by decide)) 2 _ (show 2 < 3 by decide))
      have ET := Lib.hid (Sl.of_own (own_qf OE.out hst (fun b hb e => by have := (OE.out.lt b hb).1; simp at this; omega)))
      refine hK _ _ ⟨⟨_, QT.out⟩, rfl⟩ ?_
      clear hK K
      clear hst n0 f0 n1 f1 n2 f2 hnl ZB OE QE
      generalize (((w10.setCell ⟨W.heap.size, 0, none⟩ (.int .i64 e0)).setCell ⟨W.heap.size, 1, none⟩ (.int .i64 e1)).setCell ⟨W.heap.size, 2, none⟩ (.slice be m ce)) = wt at *
      generalize hEB : W.heap.size = EB at FT ⊢
      clear hEB
      refine tree_end ?_
      have Q20 := Lib.hid (Q5.out.trans QT.out)
      have T20 := Lib.hid (T5.out.q QT.out)
      have Z20 := Lib.hid (Z5.out.q QT.out)
      have X20 := Lib.hid (X5.out.q QT.out)
      clear QT
      go_upto_region 9 with (fail)
      refine wp_region_mix [(0, true), (2, true), (3, true), (4, true), (1, false), (5, false), (6, true), (7, true), (9, true), (10, true), (11, true), (8, false), (12, false), (13, true), (14, true), (15, true), (16, false), (17, true), (18, true)] (by kernel_rfl) (by kernel_rfl) (fun _ _ _ _ _ h => h) ?_
      have hqd : Q wt wt.drew := (Q.refl wt).drew
      have Q21 := Lib.hid (Q20.out.trans hqd)
      have T21 := Lib.hid (T20.out.q hqd)
      have Z21 := Lib.hid (Z20.out.q hqd)
      have X21 := Lib.hid (X20.out.q hqd)
      have F21 := Lib.hid (FT.out.q hqd)
      have E21 := Lib.hid (ET.out.q hqd)
      clear hqd Q20 T20 Z20 X20 FT ET
      generalize wt.drew = w21 at *
      obtain ⟨y0, y1, y2⟩ := Box.soft3 X21.out
      repeat (refine mix_val rfl rfl ?_; go_big_quiet_step (fail); refine wpQuiet_nil ?_)
      clear y0 y1 y2
      refine mix_run rfl rfl ?_
      intro K hK
      go_wp2_with (fail)
      refine (mTRoot_any TB col _ _ _ T21.out).mono ?_
      rw [HR.out]
      rintro e w22 ⟨rfl, hq⟩
      refine hK _ _ hq ?_
      clear hK K
      have Q22 := Lib.hid (Q21.out.trans hq)
      have T22 := Lib.hid (T21.out.q hq)
      have Z22 := Lib.hid (Z21.out.q hq)
      have X22 := Lib.hid (X21.out.q hq)
      have E22 := Lib.hid (E21.out.q hq)
      have F22 := Lib.hid (F21.out.q hq)
      clear hq Q21 T21 Z21 X21 E21 F21
      refine mix_run rfl rfl ?_
      intro K hK
      go_wp2_with (fail)
      refine (mVerify_any R n k v b3 m c3 P _ (by omega) (by omega) HVR.out Z22.out).mono ?_
      rw [HCO.out]
      rintro e w23 ⟨rfl, hq⟩
      refine hK _ _ hq ?_
      clear hK K
      have Q23 := Lib.hid (Q22.out.trans hq)
      have T23 := Lib.hid (T22.out.q hq)
      have E23 := Lib.hid (E22.out.q hq)
      have F23 := Lib.hid (F22.out.q hq)
      clear hq Q22 T22 E22 F22
      obtain ⟨y0, y1, y2⟩ := Box.soft3 F23.out
      repeat (refine mix_val rfl rfl ?_; go_big_quiet_step (fail); refine wpQuiet_nil ?_)
      clear y0 y1 y2
      refine mix_run rfl rfl ?_
      intro K hK
      go_wp2_with (fail)
      refine (mTRoot_any TB col _ _ _ T23.out).mono ?_
      rw [HR.out]
      rintro e w24 ⟨rfl, hq⟩
      refine hK _ _ hq ?_
      clear hK K
      have Q24 := Lib.hid (Q23.out.trans hq)
      have E24 := Lib.hid (E23.out.q hq)
      have F24 := Lib.hid (F23.out.q hq)
      clear hq Q23 E23 F23
      refine mix_run rfl rfl ?_
      intro K hK
      go_wp2_with (fail)
      refine (mVerify_any R n e0 e1 be m ce ep _ (by omega) HY.out HYV.out E24.out).mono ?_
      rw [HVB.out]
      rintro e w25 ⟨rfl, hq⟩
      refine hK _ _ hq ?_
      clear hK K
      have Q25 := Lib.hid (Q24.out.trans hq)
      have F25 := Lib.hid (F24.out.q hq)
      clear hq Q24 F24
      repeat (refine mix_val rfl rfl ?_; go_big_quiet_step (fail); refine wpQuiet_nil ?_)
      refine mix_run rfl rfl ?_
      intro K hK
      go_wp2_with (fail)
      refine (lives11_any _).mono ?_
      rintro e w26 ⟨rfl, hq⟩
      refine hK _ _ hq ?_
      clear hK K
      have Q26 := Lib.hid (Q25.out.trans hq)
      have F26 := Lib.hid (F25.out.q hq)
      clear hq Q25 F25
      repeat (refine mix_val rfl rfl ?_; go_big_quiet_step (fail); refine wpQuiet_nil ?_)
      refine mix_end ?_
      go_wp2
      go_ret
      exact ⟨rfl, Q26.out⟩
  · refine tree_one rfl rfl ?_
    intro K hK
    go_wp2_with (fail)
    refine hK _ _ ⟨⟨_, (Q.refl W).alloc _⟩, rfl⟩ ?_
    clear hK K
    refine tree_one rfl rfl ?_
    intro K hK
    go_wp2_with (fail)
    refine (HAR.out _).mono ?_
    rintro e w9 ⟨rfl, rfl⟩
    refine hK _ _ ⟨⟨_, (Q.refl W).alloc _⟩, rfl⟩ ?_
    clear hK K
    refine tree_val rfl rfl ?_; go_big_quiet_step (fail); refine wpQuiet_nil ?_
    refine tree_one rfl rfl ?_
    intro K hK
    go_wp2_with (fail)
    refine (HBE.out _ ((Q.refl W).alloc _)).mono ?_
    rintro e w10 ⟨be, ce, rfl, hownE, hqE⟩
    rw [HEL.out] at hownE ⊢
    refine hK _ _ ⟨⟨_, ((Q.refl W).alloc _).trans hqE⟩, rfl⟩ ?_
    clear hK K
    have QE := Lib.hid (((Q.refl W).alloc (.cells #[.int .i64 0, .int .i64 0, .slice none 0 0] 25)).trans hqE)
    have ZB := Lib.hid ((Box.new W [.int .i64 0, .int .i64 0, .slice none 0 0] 25).q hqE)
    have OE := Lib.hid hownE
    clear hqE hownE
    obtain ⟨n0, f0⟩ := ZB.out.2 0 _ rfl
    obtain ⟨n1, f1⟩ := ZB.out.2 1 _ rfl
    obtain ⟨n2, f2⟩ := ZB.out.2 2 _ rfl
    have hnl := ZB.out.1
    refine tree_one rfl rfl ?_
    intro K hK
    go_wp2_with (fail)
    have hst : QF (· = W.heap.size) w10 (((w10.setCell ⟨W.heap.size, 0, none⟩ (.int .i64 e0)).setCell ⟨W.heap.size, 1, none⟩ (.int .i64 e1)).setCell ⟨W.heap.size, 2, none⟩ (.slice be m ce)) := ((QF.set (F := (· = W.heap.size)) w10 W.heap.size 0 _ rfl).trans (QF.set (F := (· = W.heap.size)) _ W.heap.size 1 _ rfl) (fun _ h => .inl h)).trans (QF.set (F := (· = W.heap.size)) _ W.heap.size 2 _ rfl) (fun _ h => .inl h)
    have QT := Lib.hid (QF.q QE.out hst (fun b e => by omega))
    have FT := Lib.hid (show Box (((w10.setCell ⟨W.heap.size, 0, none⟩ (.int .i64 e0)).setCell ⟨W.heap.size, 1, none⟩ (.int .i64 e1)).setCell ⟨W.heap.size, 2, none⟩ (.slice be m ce)) W.heap.size [.int .i64 e0, .int .i64 e1, .slice be m ce] from Box.setC (Box.setC (Box.setC ZB.out 0 _ (show 0 < 3 by decide)) 1 _ (show 1 < 3 by decide)) 2 _ (show 2 < 3 by decide))
    have ET := Lib.hid (Sl.of_own (own_qf OE.out hst (fun b hb e => by have := (OE.out.lt b hb).1; simp at this; omega)))
    refine hK _ _ ⟨⟨_, QT.out⟩, rfl⟩ ?_
    clear hK K
    clear hst n0 f0 n1 f1 n2 f2 hnl ZB OE QE
    generalize (((w10.setCell ⟨W.heap.size, 0, none⟩ (.int .i64 e0)).setCell ⟨W.heap.size, 1, none⟩ (.int .i64 e1)).setCell ⟨W.heap.size, 2, none⟩ (.slice be m ce)) = wt at *
    generalize hEB : W.heap.size = EB at FT ⊢
    clear hEB
    refine tree_end ?_
    have Q20 := Lib.hid (Q5.out.trans QT.out)
    have T20 := Lib.hid (T5.out.q QT.out)
    have Z20 := Lib.hid (Z5.out.q QT.out)
    have X20 := Lib.hid (X5.out.q QT.out)
    clear QT
    go_upto_region 9 with (fail)
    refine wp_region_mix [(0, true), (2, true), (3, true), (4, true), (1, false), (5, false), (6, true), (7, true), (9, true), (10, true), (11, true), (8, false), (12, false), (13, true), (14, true), (15, true), (16, false), (17, true), (18, true)] (by kernel_rfl) (by kernel_rfl) (fun _ _ _ _ _ h => h) ?_
    have hqd : Q wt wt.drew := (Q.refl wt).drew
    have Q21 := Lib.hid (Q20.out.trans hqd)
    have T21 := Lib.hid (T20.out.q hqd)
    have Z21 := Lib.hid (Z20.out.q hqd)
    have X21 := Lib.hid (X20.out.q hqd)
    have F21 := Lib.hid (FT.out.q hqd)
    have E21 := Lib.hid (ET.out.q hqd)
    clear hqd Q20 T20 Z20 X20 FT ET
    generalize wt.drew = w21 at *
    obtain ⟨y0, y1, y2⟩ := Box.soft3 X21.out
    repeat (refine mix_val rfl rfl ?_; go_big_quiet_step (fail); refine wpQuiet_nil ?_)
    clear y0 y1 y2
    refine mix_run rfl rfl ?_
    intro K hK
    go_wp2_with (fail)
    refine (mTRoot_any TB col _ _ _ T21.out).mono ?_
    rw [HR.out]
    rintro e w22 ⟨rfl, hq⟩
    refine hK _ _ hq ?_
    clear hK K
    have Q22 := Lib.hid (Q21.out.trans hq)
    have T22 := Lib.hid (T21.out.q hq)
    have Z22 := Lib.hid (Z21.out.q hq)
    have X22 := Lib.hid (X21.out.q hq)
    have E22 := Lib.hid (E21.out.q hq)
    have F22 := Lib.hid (F21.out.q hq)
    clear hq Q21 T21 Z21 X21 E21 F21
    refine mix_run rfl rfl ?_
    intro K hK
    go_wp2_with (fail)
    refine (mVerify_any R n k v b3 m c3 P _ (by omega) (by omega) HVR.out Z22.out).mono ?_
    rw [HCO.out]
    rintro e w23 ⟨rfl, hq⟩
    refine hK _ _ hq ?_
    clear hK K
    have Q23 := Lib.hid (Q22.out.trans hq)
    have T23 := Lib.hid (T22.out.q hq)
    have E23 := Lib.hid (E22.out.q hq)
    have F23 := Lib.hid (F22.out.q hq)
    clear hq Q22 T22 E22 F22
    obtain ⟨y0, y1, y2⟩ := Box.soft3 F23.out
    repeat (refine mix_val rfl rfl ?_; go_big_quiet_step (fail); refine wpQuiet_nil ?_)
    clear y0 y1 y2
    refine mix_run rfl rfl ?_
    intro K hK
    go_wp2_with (fail)
    refine (mTRoot_any TB col _ _ _ T23.out).mono ?_
    rw [HR.out]
    rintro e w24 ⟨rfl, hq⟩
    refine hK _ _ hq ?_
    clear hK K
    have Q24 := Lib.hid (Q23.out.trans hq)
    have E24 := Lib.hid (E23.out.q hq)
    have F24 := Lib.hid (F23.out.q hq)
    clear hq Q23 E23 F23
    refine mix_run rfl rfl ?_
    intro K hK
    go_wp2_with (fail)
    refine (mVerify_any R n e0 e1 be m ce ep _ (by omega) HY.out HYV.out E24.out).mono ?_
    rw [HVB.out]
    rintro e w25 ⟨rfl, hq⟩
    refine hK _ _ hq ?_
    clear hK K
    have Q25 := Lib.hid (Q24.out.trans hq)
    have F25 := Lib.hid (F24.out.q hq)
    clear hq Q24 F24
    repeat (refine mix_val rfl rfl ?_; go_big_quiet_step (fail); refine wpQuiet_nil ?_)
    refine mix_run rfl rfl ?_
    intro K hK
    go_wp2_with (fail)
    refine (lives11_any _).mono ?_
    rintro e w26 ⟨rfl, hq⟩
    refine hK _ _ hq ?_
    clear hK K
    have Q26 := Lib.hid (Q25.out.trans hq)
    have F26 := Lib.hid (F25.out.q hq)
    clear hq Q25 F25
    repeat (refine mix_val rfl rfl ?_; go_big_quiet_step (fail); refine wpQuiet_nil ?_)
    refine mix_end ?_
    go_wp2
    go_ret
    exact ⟨rfl, Q26.out⟩
end Go.Proofs.Ytcgnihgebifcjaa
