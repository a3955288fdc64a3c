/- The walk of MerkleComplete. -/
import Derived.Test.YtcgnihgebifcjaaMkD
import Derived.Test.YtcgnihgebifcjaaMkJ
namespace Go.Proofs.Ytcgnihgebifcjaa
open Go Go.RowKit Go.BigFrame

theorem setZ_len (cells : List Int) (i v : Int) : (setZ cells i v).length = cells.length := by unfold setZ; split <;> simp
theorem setZ_ok (cells : List Int) (i v : Int) (hc : I64s cells) (hv : -9223372036854775808 ≤ v ∧ v ≤ 9223372036854775807) : I64s (setZ cells i v) := by
  unfold setZ
  split
  · intro y hy
    rcases List.mem_or_eq_of_mem_set hy with h | rfl
    · exact hc _ h
    · exact hv
  · exact hc
/-- an assignment in a tree that was built behind w -/
theorem SetRet.q {w0 w w' : World} {TB : Nat} {col : Nat → Nat} {cells : List Int} {i v : Int} {e : Ending} (h : SetRet w TB col cells i v e w') (q : Q w0 w) (hcol : ∀ b, col b ≠ 0 → w0.heap.size ≤ b) : Q w0 w' := QF.q q h.2.2 hcol
set_option maxRecDepth 100000 in
set_option maxHeartbeats 4000000 in
theorem merkleComplete_walk (a0 : Option Addr) (len0 cap0 : Nat) (z0 : List Int) (at_ by_ : Int) (w : World) (w0 : IsRow .i64 w a0 len0 cap0 z0) (wa : (Lit.int .i64 at_).wf = true) (wb : (Lit.int .i64 by_).wf = true) :
    Calls Try.prog 6 #[.slice a0 len0 cap0, .int .i64 at_, .int .i64 by_] w fun e w' => e = .returned (.bool true) ∧ Q w w' := by
  have S0 := Lib.hid (Sl.of_row w0)
  have R0 := Lib.hid (rowI64m w0)
  have WA := Lib.hid (wf_i64 wa)
  have WB := Lib.hid (wf_i64 wb)
  clear w0 wa wb
  generalize z0.take len0 = zl at *
  have HM : min len0 20 ≤ 20 := Nat.min_le_right _ _
  have R1 := Lib.hid (show I64s (zl.take 20) from fun z hz => R0.out z (List.mem_of_mem_take hz))
  go_enter Try.func6, Try.ntmps6
  go_wp2_with (fail)
  refine (rCells_any a0 len0 cap0 zl w S0.out).mono ?_
  rintro e w1 ⟨a1, c1, rfl, hown1, hq1⟩
  have Q1 := Lib.hid hq1
  have S1 := Lib.hid (Sl.of_own hown1)
  clear hown1 hq1 S0 R0
  generalize zl.take 20 = cs at *
  generalize min len0 20 = n at *
  have HL := Lib.hid (show cs.length = n by have := S1.out.1; simpa using this)
  go_wp2_with (fail)
  refine (mTree_any a1 n c1 cs w1 S1.out R1.out (by omega)).mono ?_
  rintro e w2 ⟨hq2, TB, col, rfl, hT, hcol⟩
  have Q2 := Lib.hid (Q1.out.trans hq2)
  have T2 := Lib.hid hT
  have HCOL := Lib.hid (show ∀ b, col b ≠ 0 → w.heap.size ≤ b from fun b hb => Nat.le_trans Q1.out.size (hcol b hb))
  clear hq2 hT hcol Q1 S1
  go_wp2_with (fail)
  go_loopw [9] (fun rv wr => ∃ (r : Nat) (cur : List Int), r ≤ 2 ∧ rv = .int .i64 r ∧ cur.length = n ∧ TreeAt wr TB col cur (nodeZ cur) ∧ Q w wr) (fun rv _ => 2 - (intOf rv).toNat)
  case atStart => exact ⟨0, cs, by omega, rfl, HL.out, T2.out, Q2.out⟩
  case round =>
    obtain ⟨r, cur, hr, rfl, hcl, hT, hq⟩ := hrel
    have HCL := Lib.hid hcl
    have HT := Lib.hid hT
    have HQ := Lib.hid hq
    clear hcl hT hq
    by_cases h1 : r < 2
    · have hri : (r : Int) < 2 := by omega
      go_wp2_with (fail)
      generalize hw5 : wr = w5 at *
      clear hw5
      go_loopw [10] (fun jv wr => ∃ j : Nat, j ≤ n ∧ jv = .int .i64 j ∧ Q w5 wr) (fun jv _ => n - (intOf jv).toNat)
      case atStart => exact ⟨0, by omega, rfl, Q.refl _⟩
      case round =>
        obtain ⟨j, hj, rfl, hqj⟩ := hrel
        have HQJ := Lib.hid hqj
        clear hqj
        by_cases h2 : j < n
        · have hji : (j : Int) < (n : Int) := by omega
          obtain ⟨v, hv⟩ : ∃ v, cur[j]? = some v := ⟨cur[j]'(by rw [HCL.out]; exact h2), by rw [List.getElem?_eq_getElem]⟩
          have HPV := Lib.hid (show proveV cur j = ((j : Int), v) by
            unfold proveV
            rw [if_pos ⟨by omega, by have := HCL.out; omega⟩, Int.toNat_natCast, List.getD_eq_getElem?_getD, hv]; rfl)
          have HPP := Lib.hid (show proveP (nodeZ cur) cur j = proofZ (nodeZ cur) (hgt n) j by
            unfold proveP
            rw [if_pos ⟨by omega, by have := HCL.out; omega⟩, Int.toNat_natCast, HCL.out])
          have HCO := Lib.hid (show verZ (nodeZ cur (hgt n) 0) n j v (proofZ (nodeZ cur) (hgt n) j) = true by
            have h := ver_complete cur j v hv (by have := HCL.out; omega)
            unfold rootZ at h
            rw [HCL.out] at h
            exact h)
          have HVR := Lib.hid (HT.out.ok v (List.mem_of_getElem? hv))
          have HPN := Lib.hid (proofZ_len (nodeZ cur) (hgt n) j)
          have HTJ := Lib.hid (HT.out.q HQJ.out)
          clear hv
          go_wp2_with (fail)
          refine (mProve_any TB col cur (nodeZ cur) j wr HTJ.out).mono ?_
          rw [HPV.out, HPP.out]
          have hm17 : hgt n ≤ 17 := hgt_17 _ (by omega)
          generalize proofZ (nodeZ cur) (hgt n) j = P at *
          rintro e w6 ⟨b6, c6, rfl, hown6, hq6⟩
          rw [HPN.out] at hown6 ⊢
          obtain ⟨m, hm⟩ : ∃ m, hgt n = m := ⟨_, rfl⟩
          have HMM := Lib.hid hm
          rw [hm] at hown6 hm17 ⊢
          clear hm
          have QJ6 := Lib.hid (HQJ.out.trans hq6)
          have T6 := Lib.hid (HTJ.out.q hq6)
          have Z6 := Lib.hid (Sl.of_own hown6)
          clear hown6 hq6 HTJ
          go_upto_region 12 with (fail)
          have X7 := Lib.hid (Box.new w6 [.int .i64 j, .int .i64 v, .slice b6 m c6] 25)
          have hqa : Q w6 (w6.alloc (.cells #[.int .i64 j, .int .i64 v, .slice b6 m c6] 25)) := (Q.refl w6).alloc _
          have QJ7 := Lib.hid (QJ6.out.trans hqa)
          have T7 := Lib.hid (T6.out.q hqa)
          have Z7 := Lib.hid (Z6.out.q hqa)
          clear hqa QJ6 T6 Z6
          generalize w6.alloc (.cells #[.int .i64 j, .int .i64 v, .slice b6 m c6] 25) = w7 at *
          generalize w6.heap.size = XB at *
          refine wp_region_mix [(0, true), (2, true), (3, true), (4, true), (1, false), (5, false), (6, true), (7, true), (8, true), (9, true), (10, true), (11, true), (12, true), (13, false), (14, true), (15, true), (16, true), (17, true), (18, true), (19, true), (20, true), (21, true)] (by kernel_rfl) (by kernel_rfl) (fun _ _ _ _ _ h => h) ?_
          have hqd : Q w7 w7.drew := (Q.refl w7).drew
          have QJ8 := Lib.hid (QJ7.out.trans hqd)
          have T8 := Lib.hid (T7.out.q hqd)
          have Z8 := Lib.hid (Z7.out.q hqd)
          have X8 := Lib.hid (X7.out.q hqd)
          clear hqd QJ7 T7 Z7 X7
          generalize w7.drew = w8 at *
          obtain ⟨y0, y1, y2⟩ := Box.soft3 X8.out
          repeat (refine mix_val rfl rfl ?_; go_big_quiet_step (fail); refine wpQuiet_nil ?_)
          clear y0 y1 y2
          refine mix_run rfl rfl ?_
          intro K hK
          go_wp2_with (fail)
          refine (mTRoot_any TB col _ _ _ T8.out).mono ?_
          rw [HCL.out]
          rintro e w9 ⟨rfl, hq⟩
          refine hK _ _ hq ?_
          clear hK K
          have QJ9 := Lib.hid (QJ8.out.trans hq)
          have Z9 := Lib.hid (Z8.out.q hq)
          have X9 := Lib.hid (X8.out.q hq)
          clear hq QJ8 T8 Z8 X8
          refine mix_run rfl rfl ?_
          intro K hK
          go_wp2_with (fail)
          refine (mVerify_any _ n j v b6 m c6 P _ (by omega) (by omega) HVR.out Z9.out).mono ?_
          rw [HCO.out]
          rintro e w10 ⟨rfl, hq⟩
          refine hK _ _ hq ?_
          clear hK K
          have QJ10 := Lib.hid (QJ9.out.trans hq)
          have X10 := Lib.hid (X9.out.q hq)
          clear hq QJ9 Z9 X9
          obtain ⟨y0, y1, y2⟩ := Box.soft3 X10.out
          repeat (refine mix_val rfl rfl ?_; go_big_quiet_step (fail); refine wpQuiet_nil ?_)
          clear y0 y1 y2
          refine mix_run rfl rfl ?_
          intro K hK
          go_wp2_with (fail)
          refine (rHeight_any n _ (by omega)).mono ?_
          rw [HMM.out]
          rintro e w11 ⟨rfl, rfl⟩
          refine hK _ _ (Q.refl _) ?_
          clear hK K
          have bm : ((m : Int) != (m : Int)) = false := by simp
          have bj : ((j : Int) != (j : Int)) = false := by simp
          obtain ⟨y0, y1, y2⟩ := Box.soft3 X10.out
          repeat (refine mix_val rfl rfl ?_; go_big_quiet_step (fail); refine wpQuiet_nil ?_)
          clear y0 y1 y2
          refine mix_end ?_
          go_wp2
          go_roundw
          case rel => exact ⟨j + 1, by omega, by go_num, QJ10.out⟩
          case measure => simp [intOf]; omega
        · have e1 : j = n := by omega
          subst e1
          have hge : ¬ (j : Int) < (j : Int) := by omega
          have HT9 := Lib.hid (HT.out.q HQJ.out)
          have HQ9 := Lib.hid (HQ.out.trans HQJ.out)
          go_wp2_with (fail)
          refine (around_any at_ (j + 1) _ WA.out (by omega)).mono ?_
          rintro e w9 ⟨rfl, rfl⟩
          generalize aroundZ at_ (j + 1) = kk at *
          go_wp2_with (fail)
          refine (mSet_any TB col cur kk by_ _ HT9.out WB.out).mono ?_
          rintro e w10 hset
          have HQ10 := Lib.hid (hset.q HQ9.out HCOL.out)
          obtain ⟨⟨x, rfl⟩, hT10, _⟩ := hset
          have HT10 := Lib.hid hT10
          have HCL10 := Lib.hid (show (setZ cur kk by_).length = j by rw [setZ_len]; exact HCL.out)
          clear hT10
          go_wp2
          go_roundw
          case rel => exact ⟨r + 1, _, by omega, by go_num, HCL10.out, HT10.out, HQ10.out⟩
          case measure => simp [intOf]; omega
    · have e1 : r = 2 := by omega
      subst e1
      go_wp2_with (fail)
      refine (lives11_any _).mono ?_
      rintro e w9 ⟨rfl, hq9⟩
      have Q9 := Lib.hid (HQ.out.trans hq9)
      clear hq9
      go_wp2
      go_ret
      exact ⟨rfl, Q9.out⟩
end Go.Proofs.Ytcgnihgebifcjaa
