/- Contract: merkle's Root; the walk of MerkleRoots. -/
import Derived.Test.YtcgnihgebifcjaaMkC
namespace Go.Proofs.Ytcgnihgebifcjaa
open Go Go.RowKit Go.BigFrame

theorem rowI64m {w : World} {a : Option Addr} {len cap : Nat} {zs : List Int} (h : IsRow .i64 w a len cap zs) : I64s (zs.take len) := by
  intro z hz
  rcases h with ⟨rfl, rfl, rfl, rfl⟩ | ⟨x, rfl, hl, hm, hzl, hc, hw⟩
  · simp at hz
  · exact wf_i64 (hw z (List.mem_of_mem_take hz))
set_option maxRecDepth 100000 in
set_option maxHeartbeats 1000000 in
theorem mRoot_any (a : Option Addr) (n cap : Nat) (cells : List Int) (w : World) (hs : Sl w 1 a n cap (cells.map (Value.int .i64))) (hc : I64s cells) (hn : n ≤ 1000) :
    Calls Try.prog 22 #[.slice a n cap] w fun e w' => e = .returned (.int .u64 (rootZ cells)) ∧ Q w w' := by
  have HS := Lib.hid hs
  have HC := Lib.hid hc
  clear hs hc
  go_enter Try.func22, Try.ntmps22
  go_wp2_with (fail)
  refine (mTree_any a n cap cells w HS.out HC.out hn).mono ?_
  rintro e w1 ⟨hq, TB, col, rfl, hT, _⟩
  have HQ := Lib.hid hq
  have HT := Lib.hid hT
  clear hq hT
  go_wp2_with (fail)
  refine (mTRoot_any TB col _ _ _ HT.out).mono ?_
  rintro e w2 ⟨rfl, hq2⟩
  have HQ2 := Lib.hid (HQ.out.trans hq2)
  clear hq2
  go_wp2
  go_ret
  exact ⟨rfl, HQ2.out⟩
set_option maxRecDepth 100000 in
set_option maxHeartbeats 2000000 in
theorem merkleRoots_walk (a0 : Option Addr) (len0 cap0 : Nat) (z0 : List Int) (i : Int) (w : World) (w0 : IsRow .i64 w a0 len0 cap0 z0) (wi : (Lit.int .i64 i).wf = true) :
    Calls Try.prog 5 #[.slice a0 len0 cap0, .int .i64 i] w fun e w' => e = .returned (.bool true) ∧ Q w w' := by
  have S0 := Lib.hid (Sl.of_row w0)
  have R0 := Lib.hid (rowI64m w0)
  have WI := Lib.hid (wf_i64 wi)
  clear w0 wi
  generalize z0.take len0 = zl at *
  have HM : min len0 20 ≤ 20 := Nat.min_le_right _ _
  have R1 := Lib.hid (show I64s (zl.take 20) from fun z hz => R0.out z (List.mem_of_mem_take hz))
  go_enter Try.func5, Try.ntmps5
  go_wp2_with (fail)
  refine (rCells_any a0 len0 cap0 zl w S0.out).mono ?_
  rintro e w1 ⟨a1, c1, rfl, hown1, hq1⟩
  have Q1 := Lib.hid hq1
  have S1 := Lib.hid (Sl.of_own hown1)
  clear hown1 hq1 S0 R0
  generalize zl.take 20 = cs at *
  generalize min len0 20 = n at *
  have HL := Lib.hid (show cs.length = n by have := S1.out.1; simpa using this)
  go_wp2_with (fail)
  refine (mTree_any a1 n c1 cs w1 S1.out R1.out (by omega)).mono ?_
  rintro e w2 ⟨hq2, TB, col, rfl, hT, _⟩
  have Q2 := Lib.hid (Q1.out.trans hq2)
  have S2 := Lib.hid (S1.out.q hq2)
  have T2 := Lib.hid hT
  clear hq2 hT S1 Q1
  go_wp2_with (fail)
  refine (around_any i 22 _ WI.out (by omega)).mono ?_
  rintro e w2' ⟨rfl, rfl⟩
  have hk : 0 ≤ aroundZ i 22 ∧ aroundZ i 22 < 22 := ⟨aroundZ_lo _ _ (by omega), aroundZ_hi _ _ (by omega)⟩
  generalize aroundZ i 22 = k0 at *
  go_wp2_with (fail)
  refine (mTRoot_any TB col _ _ _ T2.out).mono ?_
  rintro e w3 ⟨rfl, hq3⟩
  have Q3 := Lib.hid (Q2.out.trans hq3)
  have S3 := Lib.hid (S2.out.q hq3)
  have T3 := Lib.hid (T2.out.q hq3)
  clear hq3 S2 Q2 T2
  rw [show nodeZ cs (hgt cs.length) 0 = rootZ cs from rfl]
  go_wp2_with (fail)
  refine (rRoot_any a1 n c1 cs _ S3.out R1.out (by omega)).mono ?_
  rintro e w4 ⟨rfl, hq4⟩
  have Q4 := Lib.hid (Q3.out.trans hq4)
  have S4 := Lib.hid (S3.out.q hq4)
  have T4 := Lib.hid (T3.out.q hq4)
  clear hq4 S3 Q3 T3
  obtain ⟨R, hR⟩ : ∃ R, rootZ cs = R := ⟨_, rfl⟩
  have HR := Lib.hid hR
  rw [hR]
  clear hR
  have bn : (R != R) = false := by simp
  go_wp2_with (fail)
  refine (mRoot_any a1 n c1 cs _ S4.out R1.out (by omega)).mono ?_
  rintro e w5 ⟨rfl, hq5⟩
  have Q5 := Lib.hid (Q4.out.trans hq5)
  have S5 := Lib.hid (S4.out.q hq5)
  have T5 := Lib.hid (T4.out.q hq5)
  clear hq5 S4 Q4 T4
  rw [HR.out]
  go_wp2_with (fail)
  refine (mTRoot_any TB col _ _ _ T5.out).mono ?_
  rintro e w6 ⟨rfl, hq6⟩
  have Q6 := Lib.hid (Q5.out.trans hq6)
  have S6 := Lib.hid (S5.out.q hq6)
  have T6 := Lib.hid (T5.out.q hq6)
  clear hq6 S5 Q5 T5
  rw [show nodeZ cs (hgt cs.length) 0 = rootZ cs from rfl, HR.out]
  go_wp2_with (fail)
  refine (mProve_any TB col cs (nodeZ cs) _ _ T6.out).mono ?_
  rintro e w7 ⟨a7, c7, rfl, hown7, hq7⟩
  have Q7 := Lib.hid (Q6.out.trans hq7)
  have S7 := Lib.hid (S6.out.q hq7)
  have T7 := Lib.hid (T6.out.q hq7)
  have P7 := Lib.hid (Sl.of_own hown7)
  clear hown7 hq7 S6 Q6 T6
  go_wp2_with (fail)
  refine (rProve_any a1 n c1 cs _ _ S7.out R1.out (by omega)).mono ?_
  rintro e w8 ⟨a8, c8, rfl, hown8, hq8⟩
  have Q8 := Lib.hid (Q7.out.trans hq8)
  have S8 := Lib.hid (S7.out.q hq8)
  have T8 := Lib.hid (T7.out.q hq8)
  have P8 := Lib.hid (P7.out.q hq8)
  have U8 := Lib.hid (Sl.of_own hown8)
  clear hown8 hq8 S7 Q7 T7 P7
  go_wp2_with (fail)
  refine (rSame_eq _ _ a7 a8 _ c7 c8 _ w8 P8.out U8.out).mono ?_
  rintro e w9 ⟨rfl, hq9⟩
  have Q9 := Lib.hid (Q8.out.trans hq9)
  have S9 := Lib.hid (S8.out.q hq9)
  have T9 := Lib.hid (T8.out.q hq9)
  clear hq9 S8 Q8 T8 P8 U8
  go_wp2_with (fail)
  refine (mProve_any TB col cs (nodeZ cs) _ _ T9.out).mono ?_
  rintro e w10 ⟨a10, c10, rfl, hown10, hq10⟩
  have Q10 := Lib.hid (Q9.out.trans hq10)
  have S10 := Lib.hid (S9.out.q hq10)
  have P10 := Lib.hid (Sl.of_own hown10)
  clear hown10 hq10 S9 Q9 T9
  go_wp2_with (fail)
  refine (rProve_any a1 n c1 cs _ _ S10.out R1.out (by omega)).mono ?_
  rintro e w11 ⟨a11, c11, rfl, hown11, hq11⟩
  have Q11 := Lib.hid (Q10.out.trans hq11)
  have P11 := Lib.hid (P10.out.q hq11)
  have U11 := Lib.hid (Sl.of_own hown11)
  clear hown11 hq11 S10 Q10 P10
  go_wp2_with (fail)
  refine (rSame_eq _ _ a10 a11 _ c10 c11 _ w11 P11.out U11.out).mono ?_
  rintro e w12 ⟨rfl, hq12⟩
  have Q12 := Lib.hid (Q11.out.trans hq12)
  clear hq12 Q11 P11 U11
  go_wp2_with (fail)
  refine (lives11_any _).mono ?_
  rintro e w13 ⟨rfl, hq13⟩
  have Q13 := Lib.hid (Q12.out.trans hq13)
  clear hq13 Q12
  go_wp2
  go_ret
  exact ⟨rfl, Q13.out⟩
end Go.Proofs.Ytcgnihgebifcjaa
