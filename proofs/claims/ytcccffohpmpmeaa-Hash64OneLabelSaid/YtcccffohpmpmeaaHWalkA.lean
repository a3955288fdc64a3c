/- The walks of Hash64Sum, Hash64Bytes, Hash64Pairs, Hash64Arguments. -/
import Derived.Test.YtcccffohpmpmeaaLives10
namespace Go.Proofs.Ytcccffohpmpmeaa
open Go Go.RowKit Go.BigFrame

theorem rowU8 {w : World} {a : Option Addr} {len cap : Nat} {zs : List Int} (h : IsRow .u8 w a len cap zs) : ∀ z ∈ zs.take len, 0 ≤ z ∧ z ≤ 255 := by
  intro z hz
  rcases h with ⟨rfl, rfl, rfl, rfl⟩ | ⟨x, rfl, hl, hm, hzl, hc, hw⟩
  · simp at hz
  · exact wf_u8 (hw z (List.mem_of_mem_take hz))
theorem rowI64 {w : World} {a : Option Addr} {len cap : Nat} {zs : List Int} (h : IsRow .i64 w a len cap zs) : ∀ z ∈ zs.take len, -9223372036854775808 ≤ z ∧ z ≤ 9223372036854775807 := by
  intro z hz
  rcases h with ⟨rfl, rfl, rfl, rfl⟩ | ⟨x, rfl, hl, hm, hzl, hc, hw⟩
  · simp at hz
  · exact wf_i64 (hw z (List.mem_of_mem_take hz))
theorem sl_nil (w : World) (f : Int → Value) : Sl w 1 none 0 0 (([] : List Int).map f) := ⟨rfl, Nat.le_refl _, by decide, fun _ => rfl, .inl rfl⟩

theorem hash64Sum_walk (s : ByteArray) (a1 : Option Addr) (len1 cap1 : Nat) (z1 : List Int) (w : World) (_hs : s.size ≤ maxLen) (w1 : IsRow .i64 w a1 len1 cap1 z1) :
    Calls Try.prog 3 #[.string s, .slice a1 len1 cap1] w fun e w' => e = .returned (.bool true) ∧ Q w w' := by
  have s0 := Lib.hid (Sl.of_row w1)
  have r0 := Lib.hid (rowI64 w1)
  clear w1 _hs
  generalize z1.take len1 = zl at *
  go_enter Try.func3, Try.ntmps3
  go_wp2_with (fail)
  refine (short_any s 40 _ (by omega)).mono ?_
  rintro e w1 ⟨rfl, rfl⟩
  have hsz := shortB_size s 40
  generalize shortB s 40 = sh at *
  have HSZ := Lib.hid hsz
  clear hsz
  go_wp2_with (fail)
  refine (ints_any a1 len1 cap1 12 zl _ s0.out (by omega)).mono ?_
  rintro e w1 ⟨a2, cap2, rfl, hown1, hq1⟩
  have hm : min len1 12 ≤ 12 := Nat.min_le_right _ _
  have HM := Lib.hid hm
  have S1 := Lib.hid (Sl.of_own hown1)
  have R1 := Lib.hid (show ∀ z ∈ zl.take 12, -9223372036854775808 ≤ z ∧ z ≤ 9223372036854775807 from fun z hz => r0.out z (List.mem_of_mem_take hz))
  have Q1 := Lib.hid hq1
  clear hown1 hq1 hm
  generalize zl.take 12 = zs at *
  generalize min len1 12 = m at *
  go_wp2_with (fail)
  refine (sum_any sh _ _ _ zs _ (by have := HSZ.out; omega) (by have := HM.out; omega) S1.out R1.out).mono ?_
  rintro e w2 ⟨rfl, hq2⟩
  have Q2 := Lib.hid (Q1.out.trans hq2)
  have S2 := Lib.hid (S1.out.q hq2)
  clear hq2 Q1 S1
  go_wp2_with (fail)
  refine (rSum_any sh _ _ _ zs _ (by have := HSZ.out; omega) (by have := HM.out; omega) S2.out R1.out).mono ?_
  rintro e w3 ⟨rfl, hq3⟩
  have Q3 := Lib.hid (Q2.out.trans hq3)
  clear hq3 Q2 S2
  go_wp2_with (fail)
  refine (sum_any sh _ _ _ [] _ (by have := HSZ.out; omega) (by omega) (sl_nil _ _) (in64 rfl)).mono ?_
  rintro e w4 ⟨rfl, hq4⟩
  have Q4 := Lib.hid (Q3.out.trans hq4)
  clear hq4 Q3
  go_wp2_with (fail)
  refine (rSum_any sh _ _ _ [] _ (by have := HSZ.out; omega) (by omega) (sl_nil _ _) (in64 rfl)).mono ?_
  rintro e w5 ⟨rfl, hq5⟩
  have Q5 := Lib.hid (Q4.out.trans hq5)
  clear hq5 Q4
  go_wp2_with (fail)
  refine (lives10_any _).mono ?_
  rintro e w6 ⟨rfl, hq6⟩
  have Q6 := Lib.hid (Q5.out.trans hq6)
  clear hq6 Q5
  go_wp2
  go_ret
  exact ⟨rfl, Q6.out⟩
theorem hash64Bytes_walk (s : ByteArray) (a1 : Option Addr) (len1 cap1 : Nat) (z1 : List Int) (x y : Int) (w : World) (_hs : s.size ≤ maxLen) (w1 : IsRow .u8 w a1 len1 cap1 z1) (_wx : (Lit.int .u64 x).wf = true) (_wy : (Lit.int .u64 y).wf = true) :
    Calls Try.prog 4 #[.string s, .slice a1 len1 cap1, .int .u64 x, .int .u64 y] w fun e w' => e = .returned (.bool true) ∧ Q w w' := by
  have s0 := Lib.hid (Sl.of_row w1)
  have r0 := Lib.hid (rowU8 w1)
  clear w1 _hs _wx _wy
  generalize z1.take len1 = zl at *
  go_enter Try.func4, Try.ntmps4
  go_wp2_with (fail)
  refine (short_any s 20 _ (by omega)).mono ?_
  rintro e w1 ⟨rfl, rfl⟩
  have hsz := shortB_size s 20
  generalize shortB s 20 = sh at *
  have HSZ := Lib.hid hsz
  clear hsz
  go_wp2_with (fail)
  refine (few_any a1 len1 cap1 60 zl _ s0.out (by omega)).mono ?_
  rintro e w1 ⟨a2, cap2, rfl, hown1, hq1⟩
  have hm : min len1 60 ≤ 60 := Nat.min_le_right _ _
  have HM := Lib.hid hm
  have S1 := Lib.hid (Sl.of_own hown1)
  have R1 := Lib.hid (show Bys (zl.take 60) from fun z hz => r0.out z (List.mem_of_mem_take hz))
  have Q1 := Lib.hid hq1
  clear hown1 hq1 hm
  generalize zl.take 60 = zs at *
  generalize min len1 60 = m at *
  go_wp2_with (fail)
  refine (hbytes_any sh _ _ _ zs _ (by have := HSZ.out; omega) (by have := HM.out; omega) S1.out R1.out).mono ?_
  rintro e w2 ⟨rfl, hq2⟩
  have Q2 := Lib.hid (Q1.out.trans hq2)
  have S2 := Lib.hid (S1.out.q hq2)
  clear hq2 Q1 S1
  go_wp2_with (fail)
  refine (rBytes_any sh _ _ _ zs _ (by have := HSZ.out; omega) (by have := HM.out; omega) S2.out R1.out).mono ?_
  rintro e w3 ⟨rfl, hq3⟩
  have Q3 := Lib.hid (Q2.out.trans hq3)
  clear hq3 Q2 S2
  go_wp2_with (fail)
  refine (hPair_any x y _).mono ?_
  rintro e w4 ⟨rfl, hq4⟩
  have Q4 := Lib.hid (Q3.out.trans hq4)
  clear hq4 Q3
  go_wp2_with (fail)
  refine (rPair_any x y _).mono ?_
  rintro e w5 ⟨rfl, hq5⟩
  have Q5 := Lib.hid (Q4.out.trans hq5)
  clear hq5 Q4
  go_wp2_with (fail)
  refine (lives10_any _).mono ?_
  rintro e w6 ⟨rfl, hq6⟩
  have Q6 := Lib.hid (Q5.out.trans hq6)
  clear hq6 Q5
  go_wp2
  go_ret
  exact ⟨rfl, Q6.out⟩
end Go.Proofs.Ytcccffohpmpmeaa
