/- The walks of Hash64Pairs, Hash64Arguments. -/
import Derived.Test.YtcccffohpmpmeaaHWalkA
import Derived.Test.YtcccffohpmpmeaaHashInj
namespace Go.Proofs.Ytcccffohpmpmeaa
open Go Go.RowKit Go.BigFrame

theorem wf_u64Z {x : Int} (h : (Lit.int .u64 x).wf = true) : U64 x := by
  have := wf_u64 h
  unfold U64 MM
  omega
theorem hash64Pairs_walk (a b c : Int) (w : World) (wa : (Lit.int .u64 a).wf = true) (wb : (Lit.int .u64 b).wf = true) (_wc : (Lit.int .u64 c).wf = true) :
    Calls Try.prog 9 #[.int .u64 a, .int .u64 b, .int .u64 c] w fun e w' => e = .returned (.bool true) ∧ Q w w' := by
  have UA := Lib.hid (wf_u64Z wa)
  have UB := Lib.hid (wf_u64Z wb)
  clear wa wb _wc
  have h1 : ((pairZ a c == pairZ b c) == (a == b)) = true := by
    by_cases e : a = b
    · subst e; simp
    · have : pairZ a c ≠ pairZ b c := fun h => e (pair_left UA.out UB.out h)
      rw [beq_eq_false_iff_ne.2 this, beq_eq_false_iff_ne.2 e]; rfl
  have h2 : ((pairZ c a == pairZ c b) == (a == b)) = true := by
    by_cases e : a = b
    · subst e; simp
    · have : pairZ c a ≠ pairZ c b := fun h => e (pair_right UA.out UB.out h)
      rw [beq_eq_false_iff_ne.2 this, beq_eq_false_iff_ne.2 e]; rfl
  go_enter Try.func9, Try.ntmps9
  go_wp2_with (fail)
  refine (hPair_any a c _).mono ?_
  rintro e w1 ⟨rfl, hq1⟩
  have Q1 := Lib.hid hq1
  clear hq1
  go_wp2_with (fail)
  refine (hPair_any b c _).mono ?_
  rintro e w2 ⟨rfl, hq2⟩
  have Q2 := Lib.hid (Q1.out.trans hq2)
  clear hq2 Q1
  go_wp2_with (fail)
  refine (hPair_any c a _).mono ?_
  rintro e w3 ⟨rfl, hq3⟩
  have Q3 := Lib.hid (Q2.out.trans hq3)
  clear hq3 Q2
  go_wp2_with (fail)
  refine (hPair_any c b _).mono ?_
  rintro e w4 ⟨rfl, hq4⟩
  have Q4 := Lib.hid (Q3.out.trans hq4)
  clear hq4 Q3
  go_wp2_with (fail)
  refine (hPair_any a b _).mono ?_
  rintro e w5 ⟨rfl, hq5⟩
  have Q5 := Lib.hid (Q4.out.trans hq5)
  clear hq5 Q4
  go_wp2_with (fail)
  rw [wrap64Z, wrap64Z]
  refine (sum_any pairS _ _ _ [i64Z a, i64Z b] _ (by decide) (by omega) (sl_two w5 _ _ _) (two_range a b)).mono ?_
  rintro e w6 ⟨rfl, hq6⟩
  have Q6 := Lib.hid (Q5.out.trans (Q.trans ((Q.refl w5).alloc _) hq6))
  clear hq6 Q5
  rw [show sumZ (strZ pairS) [i64Z a, i64Z b] = pairZ a b from rfl]
  go_wp2_with (fail)
  refine (lives10_any _).mono ?_
  rintro e w7 ⟨rfl, hq7⟩
  have Q7 := Lib.hid (Q6.out.trans hq7)
  clear hq7 Q6
  go_wp2
  go_ret
  exact ⟨rfl, Q7.out⟩
def sameS : ByteArray := ⟨#[115, 97, 109, 101]⟩
theorem sameL_refl (xs : List Int) : sameL xs xs = true := by simp [sameL]
theorem hash64Arguments_walk (a0 : Option Addr) (len0 cap0 : Nat) (z0 : List Int) (a1 : Option Addr) (len1 cap1 : Nat) (z1 : List Int) (w : World) (w0 : IsRow .i64 w a0 len0 cap0 z0) (w1 : IsRow .u8 w a1 len1 cap1 z1) :
    Calls Try.prog 10 #[.slice a0 len0 cap0, .slice a1 len1 cap1] w fun e w' => e = .returned (.bool true) ∧ Q w w' := by
  have S0 := Lib.hid (Sl.of_row w0)
  have R0 := Lib.hid (rowI64 w0)
  have S1 := Lib.hid (Sl.of_row w1)
  have R1 := Lib.hid (rowU8 w1)
  clear w0 w1
  generalize z0.take len0 = zl at *
  generalize z1.take len1 = zb at *
  go_enter Try.func10, Try.ntmps10
  go_wp2_with (fail)
  refine (ints_any a0 len0 cap0 10 zl _ S0.out (by omega)).mono ?_
  rintro e w1 ⟨a2, cap2, rfl, hown1, hq1⟩
  have T0 := Lib.hid (Sl.of_own hown1)
  have Q1 := Lib.hid hq1
  clear hown1 hq1
  go_wp2_with (fail)
  refine (few_any a1 len1 cap1 30 zb _ (S1.out.q Q1.out) (by omega)).mono ?_
  rintro e w2 ⟨a3, cap3, rfl, hown2, hq2⟩
  have T1 := Lib.hid (Sl.of_own hown2)
  have T0' := Lib.hid (T0.out.q hq2)
  have Q2 := Lib.hid (Q1.out.trans hq2)
  clear hown2 hq2 T0 Q1
  have L0 := Lib.hid (show min len0 10 ≤ 10 from Nat.min_le_right _ _)
  have L1 := Lib.hid (show min len1 30 ≤ 30 from Nat.min_le_right _ _)
  have P0 := Lib.hid (show ∀ z ∈ zl.take 10, -9223372036854775808 ≤ z ∧ z ≤ 9223372036854775807 from fun z hz => R0.out z (List.mem_of_mem_take hz))
  have P1 := Lib.hid (show Bys (zb.take 30) from fun z hz => R1.out z (List.mem_of_mem_take hz))
  have G0 := Lib.hid (show ∀ w : World, Sl w 1 a0 len0 cap0 (zl.map (Value.int .i64)) → Calls Try.prog 12 #[.slice a0 len0 cap0, .int .i64 (10 : Nat)] w (RetOwn w 3 1 (min len0 10) ((zl.take 10).map (Value.int .i64))) from fun w h => ints_any a0 len0 cap0 10 zl w h (by omega))
  have G1 := Lib.hid (show ∀ w : World, Sl w 1 a1 len1 cap1 (zb.map (Value.int .u8)) → Calls Try.prog 16 #[.slice a1 len1 cap1, .int .i64 (30 : Nat)] w (RetOwn w 5 1 (min len1 30) ((zb.take 30).map (Value.int .u8))) from fun w h => few_any a1 len1 cap1 30 zb w h (by omega))
  generalize zl.take 10 = xs at *
  generalize zb.take 30 = ys at *
  generalize min len0 10 = m at *
  generalize min len1 30 = n at *
  go_wp2_with (fail)
  refine (sum_any sameS _ _ _ xs _ (by decide) (by have := L0.out; omega) T0'.out P0.out).mono ?_
  rintro e w3 ⟨rfl, hq3⟩
  have Q3 := Lib.hid (Q2.out.trans hq3)
  have U0 := Lib.hid (T0'.out.q hq3)
  have U1 := Lib.hid (T1.out.q hq3)
  clear hq3 Q2 T0' T1
  go_wp2_with (fail)
  refine (hbytes_any sameS _ _ _ ys _ (by decide) (by have := L1.out; omega) U1.out P1.out).mono ?_
  rintro e w4 ⟨rfl, hq4⟩
  have Q4 := Lib.hid (Q3.out.trans hq4)
  have V0 := Lib.hid (U0.out.q hq4)
  have V1 := Lib.hid (U1.out.q hq4)
  clear hq4 Q3 U0 U1
  go_wp2_with (fail)
  refine (G0.out _ (S0.out.q Q4.out)).mono ?_
  rintro e w5 ⟨a4, cap4, rfl, hown5, hq5⟩
  have Q5 := Lib.hid (Q4.out.trans hq5)
  have X0 := Lib.hid (V0.out.q hq5)
  have X1 := Lib.hid (V1.out.q hq5)
  have T4 := Lib.hid (Sl.of_own hown5)
  clear hown5 hq5 Q4 V0 V1
  go_wp2_with (fail)
  refine (sameInts_any _ _ _ _ _ _ xs xs _ X0.out T4.out).mono ?_
  rintro e w6 ⟨rfl, hq6⟩
  rw [sameL_refl]
  have Q6 := Lib.hid (Q5.out.trans hq6)
  have Y0 := Lib.hid (X0.out.q hq6)
  have Y1 := Lib.hid (X1.out.q hq6)
  clear hq6 Q5 X0 X1 T4
  go_wp2_with (fail)
  refine (G1.out _ (S1.out.q Q6.out)).mono ?_
  rintro e w7 ⟨a5, cap5, rfl, hown7, hq7⟩
  have Q7 := Lib.hid (Q6.out.trans hq7)
  have Z0 := Lib.hid (Y0.out.q hq7)
  have Z1 := Lib.hid (Y1.out.q hq7)
  have T5 := Lib.hid (Sl.of_own hown7)
  clear hown7 hq7 Q6 Y0 Y1
  go_wp2_with (fail)
  refine (sameBytes_any _ _ _ _ _ _ ys ys _ Z1.out T5.out).mono ?_
  rintro e w8 ⟨rfl, hq8⟩
  rw [sameL_refl]
  have Q8 := Lib.hid (Q7.out.trans hq8)
  have Y0 := Lib.hid (Z0.out.q hq8)
  have Y1 := Lib.hid (Z1.out.q hq8)
  clear hq8 Q7 Z0 Z1 T5
  go_wp2_with (fail)
  refine (sum_any sameS _ _ _ xs _ (by decide) (by have := L0.out; omega) Y0.out P0.out).mono ?_
  rintro e w9 ⟨rfl, hq9⟩
  have Q9 := Lib.hid (Q8.out.trans hq9)
  have Z1 := Lib.hid (Y1.out.q hq9)
  clear hq9 Q8 Y0 Y1
  go_wp2_with (fail)
  refine (hbytes_any sameS _ _ _ ys _ (by decide) (by have := L1.out; omega) Z1.out P1.out).mono ?_
  rintro e w10 ⟨rfl, hq10⟩
  have Q10 := Lib.hid (Q9.out.trans hq10)
  clear hq10 Q9 Z1
  go_wp2_with (fail)
  refine (lives10_any _).mono ?_
  rintro e w11 ⟨rfl, hq11⟩
  have Q11 := Lib.hid (Q10.out.trans hq11)
  clear hq11 Q10
  go_wp2
  go_ret
  exact ⟨rfl, Q11.out⟩
end Go.Proofs.Ytcccffohpmpmeaa
