/- The walk of Hash64OneWord. -/
import Derived.Test.YtcccffohpmpmeaaHWalkB
import Derived.Test.YtcccffohpmpmeaaOwnSet
import Derived.Test.YtcccffohpmpmeaaMix
namespace Go.Proofs.Ytcccffohpmpmeaa
open Go Go.RowKit Go.BigFrame

theorem oneWord_law (label xs : List Int) (k : Nat) (v : Int) (hk : k < xs.length) (hx : ∀ z ∈ xs, -9223372036854775808 ≤ z ∧ z ≤ 9223372036854775807) (hv : -9223372036854775808 ≤ v ∧ v ≤ 9223372036854775807) :
    ((sumZ label xs == sumZ label (xs.set k v)) == (xs[k] == v)) = true := by
  by_cases e : xs[k] = v
  · have : xs.set k v = xs := by rw [← e]; exact List.set_getElem_self hk
    rw [this, e]; simp
  · have : sumZ label xs ≠ sumZ label (xs.set k v) := fun h => by
      have h2 := sumZ_near label (near_set k xs v) hk hx (fun z hz => by
        rcases List.mem_or_eq_of_mem_set hz with h | h
        · exact hx z h
        · rw [h]; exact hv) h
      have h3 := congrArg (fun l => l[k]?) h2
      simp [hk] at h3
      exact e h3
    rw [beq_eq_false_iff_ne.2 this, beq_eq_false_iff_ne.2 e]; rfl

theorem hash64OneWord_walk (s : ByteArray) (a1 : Option Addr) (len1 cap1 : Nat) (z1 : List Int) (at_ v : Int) (w : World) (_hs : s.size ≤ maxLen) (w1 : IsRow .i64 w a1 len1 cap1 z1) (wa : (Lit.int .i64 at_).wf = true) (wv : (Lit.int .i64 v).wf = true) :
    Calls Try.prog 5 #[.string s, .slice a1 len1 cap1, .int .i64 at_, .int .i64 v] w fun e w' => e = .returned (.bool true) ∧ Q w w' := by
  obtain ⟨i0, hi, hz0, hz1, hz2⟩ := info_parts infoInt
  have s0 := Lib.hid (Sl.of_row w1)
  have r0 := Lib.hid (rowI64 w1)
  have GA := Lib.hid (wf_i64 wa)
  have GV := Lib.hid (wf_i64 wv)
  have HI := Lib.hid hi
  clear w1 _hs wa wv hi
  generalize z1.take len1 = zl at *
  go_enter Try.func5, Try.ntmps5
  go_wp2_with (fail)
  refine (short_any s 20 _ (by omega)).mono ?_
  rintro e w1 ⟨rfl, rfl⟩
  have hsz := shortB_size s 20
  generalize shortB s 20 = sh at *
  have HSZ := Lib.hid hsz
  clear hsz
  go_wp2_with (fail)
  refine (ints_any a1 len1 cap1 9 zl _ s0.out (by omega)).mono ?_
  rintro e w2 ⟨a2, cap2, rfl, hown2, hq2⟩
  have HM := Lib.hid (show min len1 9 ≤ 9 from Nat.min_le_right _ _)
  have R1 := Lib.hid (show ∀ z ∈ zl.take 9, -9223372036854775808 ≤ z ∧ z ≤ 9223372036854775807 from fun z hz => r0.out z (List.mem_of_mem_take hz))
  have HL := Lib.hid (show (zl.take 9).length = min len1 9 by have := s0.out.1; simp at this; rw [List.length_take, this, Nat.min_comm])
  have Q2 := Lib.hid hq2
  have O2 := Lib.hid hown2
  have B2 := Lib.hid hq2.size
  have hm := HM.out
  clear hown2 hq2
  generalize zl.take 9 = zs at *
  generalize min len1 9 = m at *
  go_wp2_with (at_builtin; refine append_one rfl _ _ 22 rfl w1.heap.size 3 i0 _ 1 8 Try.underlying22 HI.out hz0 hz1 hz2 rfl (by decide) _ m _ rfl O2.out 1 _ rfl [.int .i64 7] rfl rfl (by simp [Value.oneCell']) (by omega) (by decide) B2.out ?_; intro g3 cap3 w3 hown3 hq3)
  have Q3 := Lib.hid (hq3 _ Q2.out (Nat.le_refl _))
  have hl3 : (zs ++ [7]).length = m + 1 := by rw [List.length_append, HL.out]; rfl
  have S3 := Lib.hid (show Sl w3 1 (some ⟨g3, 0, none⟩) (m + 1) cap3 ((zs ++ [7]).map (Value.int .i64)) by rw [List.map_append]; exact Sl.of_own hown3)
  have R3 := Lib.hid (show ∀ z ∈ zs ++ [7], -9223372036854775808 ≤ z ∧ z ≤ 9223372036854775807 from fun z hz => by
    rcases List.mem_append.1 hz with h | h
    · exact R1.out z h
    · rw [List.mem_singleton.1 h]; omega)
  clear hown3 hq3 Q2 O2 B2
  generalize zs ++ [7] = xs at *
  have HL3 := Lib.hid hl3
  go_wp2_with (fail)
  refine (ints_any _ _ _ 10 xs _ S3.out (by omega)).mono ?_
  rintro e w4 ⟨a4, cap4, rfl, hown4, hq4⟩
  rw [Nat.min_eq_left (show m + 1 ≤ 10 by omega)] at hown4 ⊢
  rw [List.take_of_length_le (by omega)] at hown4
  obtain ⟨g4, rfl, hg4, hlt4⟩ := own_addr1 hown4 (by omega)
  have S4 := Lib.hid (S3.out.q hq4)
  have Q34 := Lib.hid hq4
  have O4 := Lib.hid hown4
  have G4 := Lib.hid hg4
  clear hown4 hq4 hl3 hg4
  go_wp2_with (fail)
  refine (around_any _ _ _ GA.out (by omega)).mono ?_
  rintro e w5 ⟨rfl, rfl⟩
  have k0 := aroundZ_lo at_ ((m : Int) + 1) (by omega)
  have k1 := aroundZ_hi at_ ((m : Int) + 1) (by omega)
  obtain ⟨k, hk⟩ := Int.eq_ofNat_of_zero_le k0
  rw [hk] at k1 ⊢
  clear hk k0
  have hkx : k < xs.length := by rw [HL3.out]; omega
  have hkm : k < m + 1 := by omega
  obtain ⟨hc4, hf4⟩ := own_cell O4.out k (.int .i64 xs[k]) (by simp [hkx])
  have LAW := oneWord_law (strZ sh) xs k v hkx R3.out GV.out
  have R5 := Lib.hid (show ∀ z ∈ xs.set k v, -9223372036854775808 ≤ z ∧ z ≤ 9223372036854775807 from fun z hz => by
    rcases List.mem_or_eq_of_mem_set hz with h | h
    · exact R3.out z h
    · rw [h]; exact GV.out)
  go_wp2_with (fail)
  have Q5 := Lib.hid ((Q34.out.setCell (p := ⟨g4, k, none⟩) G4.out (.int .i64 v)).drew)
  have S5b := Lib.hid (show Sl (w4.setCell ⟨g4, k, none⟩ (.int .i64 v)).drew 1 (some ⟨g4, 0, none⟩) (m + 1) cap4 ((xs.set k v).map (Value.int .i64)) by rw [List.map_set]; exact (Sl.of_own (own_set O4.out k (.int .i64 v))).q (Q.refl _).drew)
  refine wp_region_mix [(0, true), (1, true), (3, true), (4, true), (7, true), (8, true), (9, true), (10, true), (11, true), (12, true), (2, false), (5, false), (6, true), (13, true), (14, true), (15, false), (16, true), (17, true)] (by kernel_rfl) (by kernel_rfl) (fun _ _ _ _ _ h => h) ?_
  generalize (w4.setCell ⟨g4, k, none⟩ (.int .i64 v)).drew = W at *
  have S5a := Lib.hid (S3.out.q Q5.out)
  have ha : ∀ x : After W, x.w.cell? ⟨g3, k, none⟩ = some (.int .i64 xs[k]) := fun x => (S5a.out.q x.q).at0 (by omega) k _ (by simp [hkx])
  have Q6 := Lib.hid (Q3.out.trans Q5.out)
  generalize xs[k] = y at *
  generalize xs.set k v = ys at *
  clear hc4 hf4 O4 S4 Q34 G4 S3 Q5
  repeat (refine mix_val rfl rfl ?_; go_big_quiet_step (fail); refine wpQuiet_nil ?_)
  refine mix_run rfl rfl ?_
  intro K hK
  go_wp2_with (fail)
  refine (sum_any sh _ _ _ xs _ (by have := HSZ.out; omega) (by omega) S5a.out R3.out).mono ?_
  rintro e w7 ⟨rfl, hq7⟩
  refine hK _ _ hq7 ?_
  clear hK K
  have Q7 := Lib.hid (Q6.out.trans hq7)
  have S7 := Lib.hid (S5b.out.q hq7)
  clear hq7 S5a S5b Q6 ha
  refine mix_run rfl rfl ?_
  intro K hK
  go_wp2_with (fail)
  refine (sum_any sh _ _ _ ys _ (by have := HSZ.out; omega) (by omega) S7.out R5.out).mono ?_
  rintro e w8 ⟨rfl, hq8⟩
  refine hK _ _ hq8 ?_
  clear hK K
  have Q8 := Lib.hid (Q7.out.trans hq8)
  clear hq8 S7 Q7
  repeat (refine mix_val rfl rfl ?_; go_big_quiet_step (fail); refine wpQuiet_nil ?_)
  refine mix_run rfl rfl ?_
  intro K hK
  go_wp2_with (fail)
  refine (lives10_any _).mono ?_
  rintro e w9 ⟨rfl, hq9⟩
  refine hK _ _ hq9 ?_
  clear hK K
  have Q9 := Lib.hid (Q8.out.trans hq9)
  clear hq9 Q8
  repeat (refine mix_val rfl rfl ?_; go_big_quiet_step (fail); refine wpQuiet_nil ?_)
  refine mix_end ?_
  go_wp2
  go_ret
  exact ⟨rfl, Q9.out⟩
end Go.Proofs.Ytcccffohpmpmeaa
