/- The walk of MerkleOwn. -/
import Derived.Test.YtcgnihgebifcjaaMkAE
import Derived.Test.YtcgnihgebifcjaaMkAC
import Derived.Deep.DeepCutAuto
namespace Go.Proofs.Ytcgnihgebifcjaa
open Go Go.RowKit Go.BigFrame

set_option maxRecDepth 100000 in
set_option maxHeartbeats 4000000 in
theorem merkleOwn_walk (a0 : Option Addr) (len0 cap0 : Nat) (z0 : List Int) (i : Int) (w : World) (w0 : IsRow .i64 w a0 len0 cap0 z0) (wi : (Lit.int .i64 i).wf = true) :
    Calls Try.prog 9 #[.slice a0 len0 cap0, .int .i64 i] w fun e w' => e = .returned (.bool true) ∧ Q w w' := by
  obtain ⟨i0, hinf, hz0, hz1, hz2⟩ := info_parts infoInt
  have HINF := Lib.hid hinf
  have S0 := Lib.hid (Sl.of_row w0)
  have R0 := Lib.hid (rowI64m w0)
  have WI := Lib.hid (wf_i64 wi)
  clear w0 wi hinf
  generalize z0.take len0 = zl at *
  have HM : min len0 20 ≤ 20 := Nat.min_le_right _ _
  have RC := Lib.hid (show I64s (zl.take 20) from fun z hz => R0.out z (List.mem_of_mem_take hz))
  go_enter Try.func9, Try.ntmps9
  go_wp2_with (fail)
  refine (rCells_any a0 len0 cap0 zl w S0.out).mono ?_
  rintro e w1 ⟨ac, cc, rfl, hown1, hq1⟩
  have Q1 := Lib.hid hq1
  have SC := Lib.hid (Sl.of_own hown1)
  clear hown1 hq1 S0 R0
  generalize zl.take 20 = cs at *
  generalize min len0 20 = n at *
  have HL := Lib.hid (show cs.length = n by have := SC.out.1; simpa using this)
  have hncc := SC.out.2.1
  by_cases hn0 : n = 0
  · subst hn0
    go_wp2_with (fail)
    refine (lives11_any _).mono ?_
    rintro e w7 ⟨rfl, hq7⟩
    have HQ7 := Lib.hid (Q1.out.trans hq7)
    clear hq7
    go_wp2
    go_ret
    exact ⟨rfl, HQ7.out⟩
  · have hnz : ((n : Int) == 0) = false := by simp; omega
    go_wp2_with (at_builtin; refine stopAt ?_)
    refine goOn ?_
    refine wpList_append_sl rfl _ _ 26 rfl w1.heap.size 3 i0 _ 1 8 Try.underlying26 HINF.out hz0 hz1 hz2 rfl (by decide) _ 0 [] rfl (World.ownsRow_made w1 #[] 0 (Nat.le_refl _) (by decide) rfl) ac n cc _ rfl (SC.out.q ((Q.refl w1).alloc _)) (oneCell_map _ _) (by omega) (by decide) (by simp) ?_
    intro na nc w3 hown3 hg3 _
    rw [Nat.zero_add] at hown3 ⊢
    have Q13 := Lib.hid (((Q.refl w1).alloc (.cells #[] 3)).grown hg3 (fun k hk => by cases hk; exact Nat.le_refl _))
    have HO3 := Lib.hid (show w3.ownsRow w1.heap.size 3 1 (.slice na n nc) n (cs.map (Value.int .i64)) from hown3)
    clear hown3 hg3
    obtain ⟨gn, rfl, hgn0, hgn1⟩ := own_addr1 HO3.out (by omega)
    have HGN := Lib.hid hgn0
    have HGN1 := Lib.hid hgn1
    clear hgn0 hgn1
    go_wp2_with (fail)
    refine (mTree_any _ n nc cs w3 (Sl.of_own HO3.out) RC.out (by omega)).mono ?_
    rintro e w4 ⟨hq4, TB, col, rfl, hT, hcol⟩
    have Q14 := Lib.hid (Q13.out.trans hq4)
    have T4 := Lib.hid hT
    have HCOL := Lib.hid (show ∀ b, col b ≠ 0 → w3.heap.size ≤ b from hcol)
    have HO4 := Lib.hid (own_q HO3.out hq4)
    clear hq4 hT hcol HO3
    obtain ⟨c0, hc0⟩ : ∃ c0, cs[0]? = some c0 := ⟨cs[0]'(by rw [HL.out]; omega), by rw [List.getElem?_eq_getElem]⟩
    obtain ⟨n0, f0⟩ := own_cell HO4.out 0 (.int .i64 c0) (by rw [List.getElem?_map, hc0]; rfl)
    have hgl4 := (HO4.out.lt gn rfl).2
    have hnpos : (0 : Int) < (n : Int) := by omega
    clear hc0
    go_upto_region 9 with (fail)
    have hst : QF (· = gn) w4 (w4.setCell ⟨gn, 0, none⟩ (.int .i64 (wrap64 (c0 + 1)))) := QF.set (F := (· = gn)) w4 gn 0 _ rfl
    have T5 := Lib.hid (T4.out.qf hst (fun b hb => by
      rw [hb]
      cases hc : col gn with
      | zero => rfl
      | succ m => have := HCOL.out gn (by rw [hc]; omega); have := HGN1.out; omega))
    have Q15 := Lib.hid (QF.q Q14.out hst (fun b hb => by rw [hb]; exact HGN.out))
    have HS13 := Lib.hid Q13.out.size
    clear hst n0 f0 hgl4 hnpos T4 HO4 Q13 Q14
    generalize w4.setCell ⟨gn, 0, none⟩ (.int .i64 (wrap64 (c0 + 1))) = w5 at *
    go_wp2_with (fail)
    refine (around_any i n _ WI.out (by omega)).mono ?_
    rintro e w6 ⟨rfl, rfl⟩
    have p0 := aroundZ_lo i (n : Int) (by omega)
    have p1 := aroundZ_hi i (n : Int) (by omega)
    obtain ⟨k, hk⟩ := Int.eq_ofNat_of_zero_le p0
    rw [hk] at p1 ⊢
    clear hk p0
    have hkn : k < n := by omega
    obtain ⟨v, hv⟩ : ∃ v, cs[k]? = some v := ⟨cs[k]'(by rw [HL.out]; exact hkn), by rw [List.getElem?_eq_getElem]⟩
    have HV := Lib.hid hv
    have HVR := Lib.hid (RC.out v (List.mem_of_getElem? hv))
    have HPV := Lib.hid (show proveV cs k = ((k : Int), v) by
      unfold proveV
      rw [if_pos ⟨by omega, by have := HL.out; omega⟩, Int.toNat_natCast, List.getD_eq_getElem?_getD, hv]; rfl)
    have HPP := Lib.hid (show proveP (nodeZ cs) cs k = proofZ (nodeZ cs) (hgt n) k by
      unfold proveP
      rw [if_pos ⟨by omega, by have := HL.out; omega⟩, Int.toNat_natCast, HL.out])
    have HPL := Lib.hid (proofZ_len (nodeZ cs) (hgt n) k)
    have hh17 := hgt_17 n (by omega)
    clear hv p1
    go_wp2_with (fail)
    refine (mProve_any TB col cs (nodeZ cs) k _ T5.out).mono ?_
    rw [HPV.out, HPP.out]
    generalize hPZ : proofZ (nodeZ cs) (hgt n) k = pz at *
    have HPZ := Lib.hid hPZ
    clear hPZ
    rintro e w7 ⟨pa, pc, rfl, hown7, hq7⟩
    generalize hpm : pz.length = pm at *
    have HPM := Lib.hid hpm
    have hpm17 : pm ≤ 17 := by rw [HPL.out]; exact hh17
    have Q17 := Lib.hid (Q15.out.trans hq7)
    have T7 := Lib.hid (T5.out.q hq7)
    have HO7 := Lib.hid hown7
    have HPB := Lib.hid (show ∀ g, pa = some g → col g.block = 0 from fun g hg => T5.out.new0 _ (hown7.lt g.block (by rw [hg]; rfl)).1)
    have HPB2 := Lib.hid (show ∀ g, pa = some g → w1.heap.size ≤ g.block from fun g hg => Nat.le_trans Q15.out.size (hown7.lt g.block (by rw [hg]; rfl)).1)
    clear hown7 hq7 hpm T5 Q15
    go_upto_region 11 with (fail)
    have hqa : Q w7 (w7.alloc (.cells #[.int .i64 k, .int .i64 v, .slice pa pm pc] 25)) := (Q.refl w7).alloc _
    have X8 := Lib.hid (Box.new w7 [.int .i64 k, .int .i64 v, .slice pa pm pc] 25)
    have Q18 := Lib.hid (Q17.out.trans hqa)
    have T8 := Lib.hid (T7.out.q hqa)
    have HO8 := Lib.hid (own_q HO7.out hqa)
    have HXB := Lib.hid (show (∀ g, pa = some g → g.block < w7.heap.size) ∧ col w7.heap.size = 0 from ⟨fun g hg => (HO7.out.lt g.block (by rw [hg]; rfl)).2, T7.out.new0 _ (Nat.le_refl _)⟩)
    clear hqa Q17 T7 HO7
    generalize w7.alloc (.cells #[.int .i64 k, .int .i64 v, .slice pa pm pc] 25) = w8 at *
    generalize w7.heap.size = XB at *
    have HX := Lib.hid (show HonestL cs [k] [⟨k, v, pa, pm, pc, pz⟩] from ⟨⟨rfl, HV.out, by rw [HL.out]; exact HPZ.out.symm, by rw [HL.out]; exact HPL.out⟩, trivial⟩)
    obtain ⟨s, hnp, hinv⟩ := np_honest (by rw [HL.out]; omega) HX.out
    rw [HL.out] at hnp
    have HNP := Lib.hid hnp
    have HINV := Lib.hid hinv
    have HSL8 := Lib.hid (Sl.of_own HO8.out)
    have HLF := Lib.hid (show ∀ (W W' : World), Q w8 W → W' = W.alloc (.cells #[.int .i64 k, .int .i64 v, .slice pa pm pc] 25) → LfsAt W' (some ⟨W.heap.size, 0, none⟩) 1 1 [⟨k, v, pa, pm, pc, pz⟩] by
      rintro W W' q rfl
      have b := Box.new W [.int .i64 k, .int .i64 v, .slice pa pm pc] 25
      refine ⟨⟨rfl, by omega, by decide, (fun e => by cases e), .inr ⟨_, 0, rfl, b.1, fun j u hu => ?_⟩⟩, fun x hx => ?_⟩
      · rw [Nat.zero_add]; exact (b.2 j u hu).1
      · rw [List.mem_singleton.1 hx]
        exact ⟨HSL8.out.q (q.alloc _), ⟨by show _ ≤ (k : Int); omega, by show (k : Int) ≤ _; omega⟩, HVR.out⟩)
    clear hnp hinv
    go_cut [10, 11] (fun s10 s11 wx => ∃ PB MC MN, s10 = .pointer (some ⟨PB, 0, none⟩) ∧ s11 = .int .i64 0 ∧ PartAt wx PB MC MN n s ∧ Q w8 wx ∧ w8.heap.size ≤ PB ∧ w8.heap.size ≤ MC ∧ w8.heap.size ≤ MN)
    case first =>
      refine wp_region_tree (fun w'' => ∃ x : After w8.drew, w'' = x.w) (.val 0 (.val 2 (.val 3 (.val 4 (.two 1 (.one 5 (.one 6 (.val 7 (.val 8 (.val 9 (.val 10 (.val 11 .fin))))))) 5 (.one 1 (.one 6 (.val 7 (.val 8 (.val 9 (.val 10 (.val 11 .fin)))))))))))) (by kernel_rfl) (by kernel_rfl) (fun _ _ _ _ _ h => h) ⟨⟨_, Q.refl _⟩, rfl⟩ ?_
      have hqd : Q w8 w8.drew := (Q.refl w8).drew
      have HQ8 := Lib.hid hqd
      have TD := Lib.hid (T8.out.q hqd)
      have XD := Lib.hid (X8.out.q hqd)
      clear hqd
      generalize w8.drew = V at *
      obtain ⟨y0, y1, y2⟩ := Box.soft3 XD.out
      have HRT := Lib.hid (show nodeZ cs (hgt cs.length) 0 = rootZ cs from rfl)
      repeat (refine tree_val rfl rfl ?_; go_big_quiet_step (fail); refine wpQuiet_nil ?_)
      clear y0 y1 y2
      refine tree_two ?_ ?_
      · refine tree_one rfl rfl ?_
        intro K hK
        go_wp2_with (fail)
        refine (mTRoot_any TB col cs _ _ TD.out).mono ?_
        rintro e w9 ⟨rfl, hq9⟩
        refine hK _ _ ⟨⟨w9, hq9⟩, rfl⟩ ?_
        clear hK K
        have HQ9 := Lib.hid hq9
        clear hq9
        rw [HRT.out]
        generalize rootZ cs = rt at *
        refine tree_one rfl rfl ?_
        intro K hK
        go_wp2_with (fail)
        refine hK _ _ ⟨⟨_, HQ9.out.alloc _⟩, rfl⟩ ?_
        clear hK K
        have HQV := Lib.hid (HQ9.out.alloc (.cells #[.int .i64 k, .int .i64 v, .slice pa pm pc] 25))
        have HLW := Lib.hid (HLF.out w9 _ (HQ8.out.trans HQ9.out) rfl)
        generalize w9.alloc (.cells #[.int .i64 k, .int .i64 v, .slice pa pm pc] 25) = w11 at *
        refine tree_one rfl rfl ?_
        intro K hK
        go_wp2_with (fail)
        refine (mNewPartial_any _ n _ 1 1 _ _ HLW.out (by omega) (by omega)).mono ?_
        rintro e w12 ⟨hq12, hm12⟩
        rw [HNP.out] at hm12
        obtain ⟨PB, MC, MN, rfl, hp12, b1, b2, b3⟩ := hm12
        refine hK _ _ ⟨⟨_, HQV.out.trans hq12⟩, rfl⟩ ?_
        clear hK K
        have HP12 := Lib.hid hp12
        have HQ12 := Lib.hid (HQ8.out.trans (HQV.out.trans hq12))
        have HB12 := Lib.hid (show w8.heap.size ≤ PB ∧ w8.heap.size ≤ MC ∧ w8.heap.size ≤ MN from by have h1 := HQ8.out.size; have h2 := HQV.out.size; omega)
        clear hp12 hq12 b1 b2 b3
        repeat (refine tree_val rfl rfl ?_; go_big_quiet_step (fail); refine wpQuiet_nil ?_)
        refine tree_end ?_
        go_wp2
        go_meet
        exact ⟨PB, MC, MN, rfl, rfl, HP12.out, HQ12.out, HB12.out⟩
      · refine tree_one rfl rfl ?_
        intro K hK
        go_wp2_with (fail)
        have hqb : Q V (V.alloc (.cells #[.int .i64 k, .int .i64 v, .slice pa pm pc] 25)) := (Q.refl V).alloc _
        refine hK _ _ ⟨⟨_, hqb⟩, rfl⟩ ?_
        clear hK K
        have HQ9 := Lib.hid hqb
        have HLW9 := Lib.hid (HLF.out V _ HQ8.out rfl)
        have TE := Lib.hid (TD.out.q hqb)
        clear hqb
        generalize V.alloc (.cells #[.int .i64 k, .int .i64 v, .slice pa pm pc] 25) = w9 at *
        refine tree_one rfl rfl ?_
        intro K hK
        go_wp2_with (fail)
        refine (mTRoot_any TB col cs _ _ TE.out).mono ?_
        rintro e w11 ⟨rfl, hq9⟩
        refine hK _ _ ⟨⟨w11, HQ9.out.trans hq9⟩, rfl⟩ ?_
        clear hK K
        have HQV := Lib.hid (HQ9.out.trans hq9)
        have HLW := Lib.hid (HLW9.out.q hq9)
        clear hq9
        rw [HRT.out]
        generalize rootZ cs = rt at *
        refine tree_one rfl rfl ?_
        intro K hK
        go_wp2_with (fail)
        refine (mNewPartial_any _ n _ 1 1 _ _ HLW.out (by omega) (by omega)).mono ?_
        rintro e w12 ⟨hq12, hm12⟩
        rw [HNP.out] at hm12
        obtain ⟨PB, MC, MN, rfl, hp12, b1, b2, b3⟩ := hm12
        refine hK _ _ ⟨⟨_, HQV.out.trans hq12⟩, rfl⟩ ?_
        clear hK K
        have HP12 := Lib.hid hp12
        have HQ12 := Lib.hid (HQ8.out.trans (HQV.out.trans hq12))
        have HB12 := Lib.hid (show w8.heap.size ≤ PB ∧ w8.heap.size ≤ MC ∧ w8.heap.size ≤ MN from by have h1 := HQ8.out.size; have h2 := HQV.out.size; omega)
        clear hp12 hq12 b1 b2 b3
        repeat (refine tree_val rfl rfl ?_; go_big_quiet_step (fail); refine wpQuiet_nil ?_)
        refine tree_end ?_
        go_wp2
        go_meet
        exact ⟨PB, MC, MN, rfl, rfl, HP12.out, HQ12.out, HB12.out⟩
    case rest =>
      obtain ⟨PB, MC, MN, rfl, rfl, hp, hq, hb⟩ := hcut
      have HP9 := Lib.hid hp
      have T9 := Lib.hid (T8.out.q hq)
      have X9 := Lib.hid (X8.out.q hq)
      have HO9 := Lib.hid (own_q HO8.out hq)
      have Q19 := Lib.hid (Q18.out.trans hq)
      have HBB := Lib.hid hb
      have HCB := Lib.hid (show col PB = 0 ∧ col MC = 0 ∧ col MN = 0 from ⟨T8.out.new0 _ hb.1, T8.out.new0 _ hb.2.1, T8.out.new0 _ hb.2.2⟩)
      have HW18 := Lib.hid (show w1.heap.size ≤ w8.heap.size ∧ XB < w8.heap.size from ⟨Q18.out.size, X8.out.1⟩)
      clear hp hq hb T8 X8 HO8 Q18 HSL8 HLF HNP
      go_wp2_with (fail)
      go_loopw [12] (fun jv wr => ∃ (j : Nat) (zs : List Int), j ≤ pm ∧ jv = .int .i64 j ∧ wr.ownsRow 0 22 1 (.slice pa pm pc) pm (zs.map (Value.int .u64)) ∧ zs.length = pm ∧ TreeAt wr TB col cs (nodeZ cs) ∧ PartAt wr PB MC MN n s ∧ Box wr XB [.int .i64 k, .int .i64 v, .slice pa pm pc] ∧ Q w1 wr) (fun jv _ => pm - (intOf jv).toNat)
      case atStart => exact ⟨0, pz, by omega, rfl, own_mono HO9.out (Nat.zero_le _), HPM.out, T9.out, HP9.out, X9.out, Q19.out⟩
      case round =>
        obtain ⟨j, zs, hj, rfl, ho, hzl, ht, hp, hx, hq⟩ := hrel
        have HO := Lib.hid ho
        have HZL := Lib.hid hzl
        have HT := Lib.hid ht
        have HP := Lib.hid hp
        have HX := Lib.hid hx
        have HQ := Lib.hid hq
        clear ho hzl ht hp hx hq T9 HP9 X9 HO9 Q19
        obtain ⟨hxl, x0, x1, x2⟩ := Box.here3 HX.out
        by_cases hjp : j < pm
        · have hji : (j : Int) < (pm : Int) := by omega
          obtain ⟨gp, rfl, _, hgp⟩ := own_addr1 HO.out (by omega)
          obtain ⟨u, hu⟩ : ∃ u, zs[j]? = some u := ⟨zs[j]'(by rw [HZL.out]; exact hjp), by rw [List.getElem?_eq_getElem]⟩
          obtain ⟨c5, f5⟩ := own_cell HO.out j (.int .u64 u) (by rw [List.getElem?_map, hu]; rfl)
          clear hu
          go_wp2_with (fail)
          have hst : QF (· = gp) wr (wr.setCell ⟨gp, j, none⟩ (.int .u64 7)) := QF.set (F := (· = gp)) wr gp j _ rfl
          have hgx := HXB.out.1 _ rfl
          have hcg := HPB.out _ rfl
          have hw1 := HPB2.out _ rfl
          have h18 := HW18.out
          have hbb := HBB.out
          dsimp only at hgx hcg hw1
          go_roundw
          case rel =>
            refine ⟨j + 1, zs.set j 7, by omega, by go_num, ?_, by rw [List.length_set]; exact HZL.out, HT.out.qf hst (fun b hb => by rw [hb]; exact hcg), HP.out.qf hst (fun e => by omega) (fun e => by omega) (fun e => by omega), HX.out.qf hst (fun e => by omega), QF.q HQ.out hst (fun b hb => by rw [hb]; exact hw1)⟩
            rw [List.map_set]
            exact own_set HO.out j _
          case measure => simp [intOf]; omega
        · have hje : j = pm := by omega
          subst hje
          have hjj : ¬ (j : Int) < (j : Int) := by omega
          have hcp := HCB.out
          have HKO := Lib.hid (show KnownOk n s.cm by have := HINV.out.ok RC.out; rw [HL.out] at this; exact this)
          have hk5 : I64 (k : Int) := ⟨by omega, by omega⟩
          have HINV2 := Lib.hid (show PInv (cs.set k 5) [k] (setP n k 5 s) by have := HINV.out.set k 5 (List.mem_singleton.2 rfl) (by rw [HL.out]; exact hkn) (by rw [HL.out]; omega); rw [HL.out] at this; exact this)
          go_wp2_with (fail)
          refine (mPSet_any PB MC MN n s k 5 _ HP.out (by omega) HKO.out hk5 ⟨by decide, by decide⟩).mono ?_
          rintro e w10 ⟨rfl, hp10, hq10⟩
          have HP10 := Lib.hid hp10
          have HT10 := Lib.hid (HT.out.qf hq10 (fun b hb => by rcases hb with e | e | e <;> rw [e]; exact hcp.1; exact hcp.2.1; exact hcp.2.2))
          have HQ10 := Lib.hid (QF.q HQ.out hq10 (fun b hb => by have h1 := HBB.out; have h2 := HW18.out; rcases hb with e | e | e <;> omega))
          clear hp10 hq10 hxl x0 x1 x2 HX HO HP HT HQ
          go_wp2_with (fail)
          refine (mSet_any TB col cs k 5 _ HT10.out ⟨by decide, by decide⟩).mono ?_
          rintro e w11 hset
          have hz : setZ cs k 5 = cs.set k 5 := by unfold setZ; rw [if_pos ⟨by omega, by have := HL.out; omega⟩, Int.toNat_natCast]
          obtain ⟨⟨xx, rfl⟩, ht11, hq11⟩ := hset
          rw [hz] at ht11
          have HT11 := Lib.hid ht11
          have HP11 := Lib.hid (HP10.out.qf hq11 (fun h => h hcp.1) (fun h => h hcp.2.1) (fun h => h hcp.2.2))
          have HQ11 := Lib.hid (QF.q HQ10.out hq11 (fun b hb => Nat.le_trans HS13.out (HCOL.out b hb)))
          have HCL := Lib.hid (show (cs.set k 5).length = n by rw [List.length_set]; exact HL.out)
          have HCV := Lib.hid (show (cs.set k 5)[k]? = some 5 from List.getElem?_set_self (by rw [HL.out]; exact hkn))
          have HRO := Lib.hid HINV2.out.root
          clear ht11 hq11 hz
          generalize cs.set k 5 = c5 at *
          generalize setP n k 5 s = s5 at *
          go_wp2_with (fail)
          refine (mPRoot_any PB MC MN n s5 _ HP11.out).mono ?_
          rintro e w12 ⟨rfl, rfl⟩
          rw [HRO.out]
          go_wp2_with (fail)
          refine (mTRoot_any TB col c5 _ _ HT11.out).mono ?_
          rw [show nodeZ c5 (hgt c5.length) 0 = rootZ c5 from rfl]
          have HVC := Lib.hid (ver_complete c5 k 5 HCV.out (by rw [HCL.out]; omega))
          rw [HCL.out] at HVC
          generalize hr5 : rootZ c5 = r5 at *
          have HR5 := Lib.hid (show nodeZ c5 (hgt c5.length) 0 = r5 from hr5)
          clear hr5
          rintro e w13 ⟨rfl, hq13⟩
          have HQ13 := Lib.hid (HQ11.out.trans hq13)
          have HT13 := Lib.hid (HT11.out.q hq13)
          clear hq13
          have hrr : (r5 == r5) = true := by simp
          go_wp2_with (fail)
          refine (mTRoot_any TB col c5 _ _ HT13.out).mono ?_
          rw [HR5.out]
          rintro e w14 ⟨rfl, hq14⟩
          have HQ14 := Lib.hid (HQ13.out.trans hq14)
          have HT14 := Lib.hid (HT13.out.q hq14)
          clear hq14
          have HPV5 := Lib.hid (show proveV c5 k = ((k : Int), 5) by
            unfold proveV
            rw [if_pos ⟨by omega, by have := HCL.out; omega⟩, Int.toNat_natCast, List.getD_eq_getElem?_getD, HCV.out]; rfl)
          have HPP5 := Lib.hid (show proveP (nodeZ c5) c5 k = proofZ (nodeZ c5) (hgt n) k by
            unfold proveP
            rw [if_pos ⟨by omega, by have := HCL.out; omega⟩, Int.toNat_natCast, HCL.out])
          go_wp2_with (fail)
          refine (mProve_any TB col c5 (nodeZ c5) k _ HT14.out).mono ?_
          rw [HPV5.out, HPP5.out]
          generalize proofZ (nodeZ c5) (hgt n) k = p5 at *
          rintro e w15 ⟨qa, qc, rfl, hown15, hq15⟩
          have HQ15 := Lib.hid (HQ14.out.trans hq15)
          have HS15 := Lib.hid (Sl.of_own hown15)
          clear hown15 hq15
          generalize p5.length = ql at *
          go_wp2_with (fail)
          refine (mVerify_any r5 n k 5 qa ql qc p5 _ (by omega) ⟨by omega, by omega⟩ ⟨by decide, by decide⟩ HS15.out).mono ?_
          rw [HVC.out]
          rintro e w16 ⟨rfl, hq16⟩
          have HQ16 := Lib.hid (HQ15.out.trans hq16)
          clear hq16
          go_wp2_with (fail)
          refine (lives11_any _).mono ?_
          rintro e w17 ⟨rfl, hq17⟩
          have HQ17 := Lib.hid (Q1.out.trans (HQ16.out.trans hq17))
          clear hq17
          go_wp2
          go_ret
          exact ⟨rfl, HQ17.out⟩
end Go.Proofs.Ytcgnihgebifcjaa
