/- The walk of Hash64OneGroup. -/
import Derived.Test.YtcccffohpmpmeaaHWalkC
namespace Go.Proofs.Ytcccffohpmpmeaa
open Go Go.RowKit Go.BigFrame

/-- a byte with some bits turned -/
def xorB (a b : Int) : Int := bits BinOp.xor IntKind.u8 a b
theorem xorB_nat (a b : Nat) (ha : a < 256) (hb : b < 256) : xorB a b = ((a ^^^ b : Nat) : Int) := by
  unfold xorB
  have hx : a ^^^ b < 2 ^ 8 := Nat.xor_lt_two_pow (by omega) (by omega)
  have h1 : (BitVec.ofInt 8 (a : Int)).toNat = a := by
    rw [BitVec.ofInt_natCast, BitVec.toNat_ofNat]; exact Nat.mod_eq_of_lt (by omega)
  have h2 : (BitVec.ofInt 8 (b : Int)).toNat = b := by
    rw [BitVec.ofInt_natCast, BitVec.toNat_ofNat]; exact Nat.mod_eq_of_lt (by omega)
  show IntKind.u8.wrap ((BitVec.ofInt 8 (a : Int) ^^^ BitVec.ofInt 8 (b : Int)).toNat : Int) = _
  rw [BitVec.toNat_xor, h1, h2]
  simp [IntKind.wrap, IntKind.bits, IntKind.signed]
  omega
theorem xorB_range (a b : Int) (ha : 0 ≤ a ∧ a ≤ 255) (hb : 0 ≤ b ∧ b ≤ 255) : 0 ≤ xorB a b ∧ xorB a b ≤ 255 := by
  obtain ⟨n, rfl⟩ := Int.eq_ofNat_of_zero_le ha.1
  obtain ⟨m, rfl⟩ := Int.eq_ofNat_of_zero_le hb.1
  rw [xorB_nat n m (by omega) (by omega)]
  have hx : n ^^^ m < 2 ^ 8 := Nat.xor_lt_two_pow (by omega) (by omega)
  omega
theorem xorB_zero (a b : Int) (ha : 0 ≤ a ∧ a ≤ 255) (hb : 0 ≤ b ∧ b ≤ 255) : xorB a b = a ↔ b = 0 := by
  obtain ⟨n, rfl⟩ := Int.eq_ofNat_of_zero_le ha.1
  obtain ⟨m, rfl⟩ := Int.eq_ofNat_of_zero_le hb.1
  rw [xorB_nat n m (by omega) (by omega)]
  constructor
  · intro h
    have h1 : n ^^^ m = n := by omega
    have : (n ^^^ m) ^^^ n = n ^^^ n := by rw [h1]
    rw [Nat.xor_self, Nat.xor_comm n m, Nat.xor_assoc, Nat.xor_self, Nat.xor_zero] at this
    omega
  · intro h
    have : m = 0 := by omega
    rw [this, Nat.xor_zero]
theorem Bys.set {l : List Int} (h : Bys l) (k : Nat) (v : Int) (hv : 0 ≤ v ∧ v ≤ 255) : Bys (l.set k v) := by
  intro z hz
  rcases List.mem_or_eq_of_mem_set hz with h1 | h1
  · exact h z h1
  · rw [h1]; exact hv
/-- the same bytes but for those of group g -/
def SameBut (g : Nat) (xs ys : List Int) : Prop := xs.length = ys.length ∧ xs.take (8 * g) = ys.take (8 * g) ∧ xs.drop (8 * g + 8) = ys.drop (8 * g + 8)
theorem SameBut.set {g : Nat} {xs ys : List Int} (h : SameBut g xs ys) (k : Nat) (hk : 8 * g ≤ k) (hk2 : k < 8 * g + 8) (v : Int) : SameBut g xs (ys.set k v) := by
  obtain ⟨h1, h2, h3⟩ := h
  exact ⟨by simpa using h1, by rw [List.take_set_of_le hk]; exact h2, by rw [List.drop_set_of_lt hk2]; exact h3⟩
theorem oneGroup_law (label xs ys : List Int) (g : Nat) (hx : Bys xs) (hy : Bys ys) (hg : 8 * g < xs.length) (hm : xs.length ≤ 1000000) (h : SameBut g xs ys) :
    ((bytesZ label xs == bytesZ label ys) == sameL xs ys) = true := by
  by_cases e : xs = ys
  · subst e; simp [sameL]
  · have : bytesZ label xs ≠ bytesZ label ys := fun h' => e (bytesZ_near label g hx hy hg hm h.1 h.2.1 h.2.2 h')
    rw [beq_eq_false_iff_ne.2 this]
    simp [sameL, e]

theorem hash64OneGroup_walk (s : ByteArray) (a1 : Option Addr) (len1 cap1 : Nat) (z1 : List Int) (at_ one two : Int) (w : World) (_hs : s.size ≤ maxLen) (w1 : IsRow .u8 w a1 len1 cap1 z1) (wa : (Lit.int .i64 at_).wf = true) (wo : (Lit.int .u8 one).wf = true) (wt : (Lit.int .u8 two).wf = true) :
    Calls Try.prog 6 #[.string s, .slice a1 len1 cap1, .int .i64 at_, .int .u8 one, .int .u8 two] w fun e w' => e = .returned (.bool true) ∧ Q w w' := by
  obtain ⟨i0, hi, hz0, hz1, hz2⟩ := info_parts infoU8
  have s0 := Lib.hid (Sl.of_row w1)
  have r0 := Lib.hid (rowU8 w1)
  have GA := Lib.hid (wf_i64 wa)
  have GO := Lib.hid (wf_u8 wo)
  have GT := Lib.hid (wf_u8 wt)
  have HI := Lib.hid hi
  clear w1 _hs wa wo wt hi
  generalize z1.take len1 = zl at *
  go_enter Try.func6, Try.ntmps6
  go_wp2_with (fail)
  refine (short_any s 20 _ (by omega)).mono ?_
  rintro e w1 ⟨rfl, rfl⟩
  have hsz := shortB_size s 20
  generalize shortB s 20 = sh at *
  have HSZ := Lib.hid hsz
  clear hsz
  go_wp2_with (fail)
  refine (few_any a1 len1 cap1 39 zl _ s0.out (by omega)).mono ?_
  rintro e w2 ⟨a2, cap2, rfl, hown2, hq2⟩
  have HM := Lib.hid (show min len1 39 ≤ 39 from Nat.min_le_right _ _)
  have R1 := Lib.hid (show Bys (zl.take 39) from fun z hz => r0.out z (List.mem_of_mem_take hz))
  have HL := Lib.hid (show (zl.take 39).length = min len1 39 by have := s0.out.1; simp at this; rw [List.length_take, this, Nat.min_comm])
  have Q2 := Lib.hid hq2
  have O2 := Lib.hid hown2
  have B2 := Lib.hid hq2.size
  have hm := HM.out
  clear hown2 hq2
  generalize zl.take 39 = zs at *
  generalize min len1 39 = m at *
  go_wp2_with (at_builtin; refine append_one rfl _ _ 30 rfl w1.heap.size 5 i0 _ 1 1 Try.underlying30 HI.out hz0 hz1 hz2 rfl (by decide) _ m _ rfl O2.out 1 _ rfl [.int .u8 65] rfl rfl (by simp [Value.oneCell']) (by omega) (by decide) B2.out ?_; intro g3 cap3 w3 hown3 hq3)
  have Q3 := Lib.hid (hq3 _ Q2.out (Nat.le_refl _))
  have hl3 : (zs ++ [65]).length = m + 1 := by rw [List.length_append, HL.out]; rfl
  have S3 := Lib.hid (show Sl w3 1 (some ⟨g3, 0, none⟩) (m + 1) cap3 ((zs ++ [65]).map (Value.int .u8)) by rw [List.map_append]; exact Sl.of_own hown3)
  have R3 := Lib.hid (show Bys (zs ++ [65]) from fun z hz => by
    rcases List.mem_append.1 hz with h | h
    · exact R1.out z h
    · rw [List.mem_singleton.1 h]; omega)
  clear hown3 hq3 Q2 O2 B2
  generalize zs ++ [65] = xs at *
  have HL3 := Lib.hid hl3
  go_wp2_with (fail)
  refine (few_any _ _ _ 40 xs _ S3.out (by omega)).mono ?_
  rintro e w4 ⟨a4, cap4, rfl, hown4, hq4⟩
  rw [Nat.min_eq_left (show m + 1 ≤ 40 by omega)] at hown4 ⊢
  rw [List.take_of_length_le (by omega)] at hown4
  obtain ⟨g4, rfl, hg4, hlt4⟩ := own_addr1 hown4 (by omega)
  have Q34 := Lib.hid hq4
  have O4 := Lib.hid hown4
  have G4 := Lib.hid hg4
  clear hown4 hq4 hl3 hg4
  go_wp2_with (fail)
  refine (around_any _ _ _ GA.out (by omega)).mono ?_
  rintro e w5 ⟨rfl, rfl⟩
  have k0 := aroundZ_lo at_ ((m : Int) + 1) (by omega)
  have k1 := aroundZ_hi at_ ((m : Int) + 1) (by omega)
  obtain ⟨k, hk⟩ := Int.eq_ofNat_of_zero_le k0
  rw [hk] at k1 ⊢
  clear hk k0
  have hkx : k < xs.length := by rw [HL3.out]; omega
  have hkm : k < m + 1 := by omega
  obtain ⟨hc4, hf4⟩ := own_cell O4.out k (.int .u8 xs[k]) (by simp [hkx])
  have HX := Lib.hid (R3.out _ (List.getElem_mem hkx))
  generalize xs[k] = x at *
  have O5 := Lib.hid (show (w4.setCell ⟨g4, k, none⟩ (.int .u8 (xorB x one))).ownsRow w3.heap.size 5 1 (.slice (some ⟨g4, 0, none⟩) (m + 1) cap4) (m + 1) ((xs.set k (xorB x one)).map (Value.int .u8)) by rw [List.map_set]; exact own_set O4.out k _)
  have Q5 := Lib.hid (Q34.out.setCell (p := ⟨g4, k, none⟩) G4.out (.int .u8 (xorB x one)))
  have SB := Lib.hid (show SameBut (k / 8) xs (xs.set k (xorB x one)) from SameBut.set ⟨rfl, rfl, rfl⟩ k (by omega) (by omega) _)
  have R5 := Lib.hid (R3.out.set k (xorB x one) (xorB_range _ _ HX.out GO.out))
  have hl5 : (xs.set k (xorB x one)).length = m + 1 := by rw [List.length_set, HL3.out]
  have HL5 := Lib.hid hl5
  have EX : bits BinOp.xor IntKind.u8 x one = xorB x one := rfl
  by_cases h1 : k + 1 < m + 1
  · have h1' : (k : Int) + 1 < (m : Int) + 1 := by omega
    by_cases h2 : (k + 1) % 8 = 0
    · have h2' : (((k : Int) + 1) % 8 != 0) = false := by simp; omega
      have QW := Q5
      have OW := O5
      have RW := R5
      have SW := SB
      have HW := HL5
      clear Q5 O5 R5 SB HL5
      go_wp2_with (fail)
      have S6a := Lib.hid (S3.out.q QW.out)
      have S6b := Lib.hid (Sl.of_own OW.out)
      have LAW := oneGroup_law (strZ sh) xs (xs.set k (xorB x one)) (k / 8) R3.out RW.out (by have := HL3.out; omega) (by have := HL3.out; omega) SW.out
      have QA := Lib.hid (Q3.out.trans QW.out)
      generalize (xs.set k (xorB x one)) = ys at *
      generalize (w4.setCell ⟨g4, k, none⟩ (.int .u8 (xorB x one))) = W at *
      clear S3 QW OW
      refine (hbytes_any sh _ _ _ xs _ (by have := HSZ.out; omega) (by omega) S6a.out R3.out).mono ?_
      rintro e w7 ⟨rfl, hq7⟩
      have Q7 := Lib.hid (QA.out.trans hq7)
      have S7a := Lib.hid (S6a.out.q hq7)
      have S7b := Lib.hid (S6b.out.q hq7)
      clear hq7 QA S6a S6b
      go_wp2_with (fail)
      refine (hbytes_any sh _ _ _ ys _ (by have := HSZ.out; omega) (by omega) S7b.out RW.out).mono ?_
      rintro e w8 ⟨rfl, hq8⟩
      have Q8 := Lib.hid (Q7.out.trans hq8)
      have S8a := Lib.hid (S7a.out.q hq8)
      have S8b := Lib.hid (S7b.out.q hq8)
      clear hq8 Q7 S7a S7b
      go_wp2_with (fail)
      refine (sameBytes_any _ _ _ _ _ _ xs ys _ S8a.out S8b.out).mono ?_
      rintro e w9 ⟨rfl, hq9⟩
      have Q9 := Lib.hid (Q8.out.trans hq9)
      clear hq9 Q8 S8a S8b
      go_wp2_with (fail)
      refine (lives10_any _).mono ?_
      rintro e w10 ⟨rfl, hq10⟩
      have Q10 := Lib.hid (Q9.out.trans hq10)
      clear hq10 Q9
      go_wp2
      go_ret
      exact ⟨rfl, Q10.out⟩
    · have h2' : (((k : Int) + 1) % 8 != 0) = true := by simp; omega
      have hkx5 : k + 1 < (xs.set k (xorB x one)).length := by omega
      obtain ⟨hc5, hf5⟩ := own_cell O5.out (k + 1) (.int .u8 (xs.set k (xorB x one))[k + 1]) (by rw [List.getElem?_map, List.getElem?_eq_getElem hkx5]; rfl)
      have HY := Lib.hid (R5.out _ (List.getElem_mem hkx5))
      generalize (xs.set k (xorB x one))[k + 1] = y at *
      have OW := Lib.hid (show ((w4.setCell ⟨g4, k, none⟩ (.int .u8 (xorB x one))).setCell ⟨g4, k + 1, none⟩ (.int .u8 (xorB y two))).ownsRow w3.heap.size 5 1 (.slice (some ⟨g4, 0, none⟩) (m + 1) cap4) (m + 1) (((xs.set k (xorB x one)).set (k + 1) (xorB y two)).map (Value.int .u8)) by rw [List.map_set]; exact own_set O5.out (k + 1) _)
      have QW := Lib.hid (Q5.out.setCell (p := ⟨g4, k + 1, none⟩) G4.out (.int .u8 (xorB y two)))
      have RW := Lib.hid (R5.out.set (k + 1) (xorB y two) (xorB_range _ _ HY.out GT.out))
      have SW := Lib.hid (SB.out.set (k + 1) (by omega) (by omega) (xorB y two))
      have EY : bits BinOp.xor IntKind.u8 y two = xorB y two := rfl
      clear Q5 O5 R5 SB HL5
      go_wp2_with (fail)
      have S6a := Lib.hid (S3.out.q QW.out)
      have S6b := Lib.hid (Sl.of_own OW.out)
      have LAW := oneGroup_law (strZ sh) xs ((xs.set k (xorB x one)).set (k + 1) (xorB y two)) (k / 8) R3.out RW.out (by have := HL3.out; omega) (by have := HL3.out; omega) SW.out
      have QA := Lib.hid (Q3.out.trans QW.out)
      generalize ((xs.set k (xorB x one)).set (k + 1) (xorB y two)) = ys at *
      generalize ((w4.setCell ⟨g4, k, none⟩ (.int .u8 (xorB x one))).setCell ⟨g4, k + 1, none⟩ (.int .u8 (xorB y two))) = W at *
      clear S3 QW OW
      refine (hbytes_any sh _ _ _ xs _ (by have := HSZ.out; omega) (by omega) S6a.out R3.out).mono ?_
      rintro e w7 ⟨rfl, hq7⟩
      have Q7 := Lib.hid (QA.out.trans hq7)
      have S7a := Lib.hid (S6a.out.q hq7)
      have S7b := Lib.hid (S6b.out.q hq7)
      clear hq7 QA S6a S6b
      go_wp2_with (fail)
      refine (hbytes_any sh _ _ _ ys _ (by have := HSZ.out; omega) (by omega) S7b.out RW.out).mono ?_
      rintro e w8 ⟨rfl, hq8⟩
      have Q8 := Lib.hid (Q7.out.trans hq8)
      have S8a := Lib.hid (S7a.out.q hq8)
      have S8b := Lib.hid (S7b.out.q hq8)
      clear hq8 Q7 S7a S7b
      go_wp2_with (fail)
      refine (sameBytes_any _ _ _ _ _ _ xs ys _ S8a.out S8b.out).mono ?_
      rintro e w9 ⟨rfl, hq9⟩
      have Q9 := Lib.hid (Q8.out.trans hq9)
      clear hq9 Q8 S8a S8b
      go_wp2_with (fail)
      refine (lives10_any _).mono ?_
      rintro e w10 ⟨rfl, hq10⟩
      have Q10 := Lib.hid (Q9.out.trans hq10)
      clear hq10 Q9
      go_wp2
      go_ret
      exact ⟨rfl, Q10.out⟩
  · have h1' : ¬ ((k : Int) + 1 < (m : Int) + 1) := by omega
    have QW := Q5
    have OW := O5
    have RW := R5
    have SW := SB
    have HW := HL5
    clear Q5 O5 R5 SB HL5
    go_wp2_with (fail)
    have S6a := Lib.hid (S3.out.q QW.out)
    have S6b := Lib.hid (Sl.of_own OW.out)
    have LAW := oneGroup_law (strZ sh) xs (xs.set k (xorB x one)) (k / 8) R3.out RW.out (by have := HL3.out; omega) (by have := HL3.out; omega) SW.out
    have QA := Lib.hid (Q3.out.trans QW.out)
    generalize (xs.set k (xorB x one)) = ys at *
    generalize (w4.setCell ⟨g4, k, none⟩ (.int .u8 (xorB x one))) = W at *
    clear S3 QW OW
    refine (hbytes_any sh _ _ _ xs _ (by have := HSZ.out; omega) (by omega) S6a.out R3.out).mono ?_
    rintro e w7 ⟨rfl, hq7⟩
    have Q7 := Lib.hid (QA.out.trans hq7)
    have S7a := Lib.hid (S6a.out.q hq7)
    have S7b := Lib.hid (S6b.out.q hq7)
    clear hq7 QA S6a S6b
    go_wp2_with (fail)
    refine (hbytes_any sh _ _ _ ys _ (by have := HSZ.out; omega) (by omega) S7b.out RW.out).mono ?_
    rintro e w8 ⟨rfl, hq8⟩
    have Q8 := Lib.hid (Q7.out.trans hq8)
    have S8a := Lib.hid (S7a.out.q hq8)
    have S8b := Lib.hid (S7b.out.q hq8)
    clear hq8 Q7 S7a S7b
    go_wp2_with (fail)
    refine (sameBytes_any _ _ _ _ _ _ xs ys _ S8a.out S8b.out).mono ?_
    rintro e w9 ⟨rfl, hq9⟩
    have Q9 := Lib.hid (Q8.out.trans hq9)
    clear hq9 Q8 S8a S8b
    go_wp2_with (fail)
    refine (lives10_any _).mono ?_
    rintro e w10 ⟨rfl, hq10⟩
    have Q10 := Lib.hid (Q9.out.trans hq10)
    clear hq10 Q9
    go_wp2
    go_ret
    exact ⟨rfl, Q10.out⟩
end Go.Proofs.Ytcccffohpmpmeaa
