/- The walks of Hash64Groups, Hash64OneLabel. -/
import Derived.Test.YtcccffohpmpmeaaHWalkD
import Derived.Test.YtcccffohpmpmeaaBytes
namespace Go.Proofs.Ytcccffohpmpmeaa
open Go Go.RowKit Go.BigFrame

theorem hash64Groups_walk (s : ByteArray) (a1 : Option Addr) (len1 cap1 : Nat) (z1 : List Int) (w : World) (_hs : s.size ≤ maxLen) (w1 : IsRow .u8 w a1 len1 cap1 z1) :
    Calls Try.prog 8 #[.string s, .slice a1 len1 cap1] w fun e w' => e = .returned (.bool true) ∧ Q w w' := by
  obtain ⟨i0, hi, hz0, hz1, hz2⟩ := info_parts infoInt
  obtain ⟨i1, hj, hy0, hy1, hy2⟩ := info_parts infoU8
  have s0 := Lib.hid (Sl.of_row w1)
  have r0 := Lib.hid (rowU8 w1)
  have HI := Lib.hid hi
  have HJ := Lib.hid hj
  clear w1 _hs hi hj
  generalize z1.take len1 = zl at *
  go_enter Try.func8, Try.ntmps8
  go_wp2_with (fail)
  refine (short_any s 20 _ (by omega)).mono ?_
  rintro e w0 ⟨rfl, rfl⟩
  have hsz := shortB_size s 20
  generalize shortB s 20 = sh at *
  have HSZ := Lib.hid hsz
  clear hsz
  go_wp2_with (fail)
  refine (few_any a1 len1 cap1 60 zl _ s0.out (by omega)).mono ?_
  rintro e w2 ⟨a2, cap2, rfl, hown2, hq2⟩
  have hm : min len1 60 ≤ 60 := Nat.min_le_right _ _
  have HM := Lib.hid hm
  have R1 := Lib.hid (show Bys (zl.take 60) from fun z hz => r0.out z (List.mem_of_mem_take hz))
  have HL := Lib.hid (show (zl.take 60).length = min len1 60 by have := s0.out.1; simp at this; rw [List.length_take, this, Nat.min_comm])
  have Q2 := Lib.hid hq2
  have S2 := Lib.hid (Sl.of_own hown2)
  clear hown2 hq2
  generalize zl.take 60 = zs at *
  generalize min len1 60 = m at *
  go_wp2_with (fail)
  refine (rWords_any _ _ _ zs _ S2.out R1.out (by omega)).mono ?_
  rintro e w3 ⟨a3, cap3, rfl, hown3, hq3⟩
  have Q3 := Lib.hid (Q2.out.trans hq3)
  have S3 := Lib.hid (S2.out.q hq3)
  have T3 := Lib.hid (Sl.of_own hown3)
  have hwl : (wordsZ zs).length = (m + 7) / 8 := by rw [wordsZ_len, HL.out]
  have HWL := Lib.hid hwl
  have hnw : (m + 7) / 8 ≤ 100000 := by omega
  have HD := Lib.hid (show bytesZ (strZ sh) zs = sumZ (strZ sh) ((wordsZ zs).map i64Z ++ [(m : Int)]) by unfold bytesZ; rw [HL.out])
  generalize wordsZ zs = ws at *
  generalize (m + 7) / 8 = nw at *
  clear hown3 hq3 hwl Q2 S2
  go_wp2_with (fail)
  go_loopw [8, 9] (fun v i wr => ∃ (k cp : Nat) (b : Option Addr), k ≤ nw ∧ i = .int .i64 k ∧ v = .slice b k cp ∧ wr.ownsRow w3.heap.size 3 1 (.slice b k cp) k (((ws.take k).map i64Z).map (Value.int .i64)) ∧ Q w3 wr) (fun _ i _ => nw - (intOf i).toNat)
  case atStart => exact ⟨0, 0, none, by omega, rfl, rfl, World.ownsRow_nil _ _ _ _, Q.refl _⟩
  case round =>
    obtain ⟨k, cp, b, hkn, rfl, rfl, hown, hq⟩ := hrel
    have HO := Lib.hid hown
    have HQ := Lib.hid hq
    by_cases h1 : k < nw
    · obtain ⟨g, o, rfl, hg, hcs⟩ := (T3.out.q hq).pos (by omega)
      have hzl : k < ws.length := by rw [HWL.out]; exact h1
      have hce : wr.cell? ⟨g, o + k, none⟩ = some (.int .u64 ws[k]) := hcs k _ (by simp [hzl])
      have HN := Lib.hid (show ((ws.take (k + 1)).map i64Z).map (Value.int .i64) = ((ws.take k).map i64Z).map (Value.int .i64) ++ [.int .i64 (i64Z ws[k])] by rw [take_snoc_get _ _ hzl, List.map_append, List.map_append]; rfl)
      generalize ws[k] = x at *
      have HB := Lib.hid HQ.out.size
      clear hcs hzl hown hq
      go_wp2_with (at_builtin; refine append_one rfl _ _ 22 rfl w3.heap.size 3 i0 _ 1 8 Try.underlying22 HI.out hz0 hz1 hz2 rfl (by decide) _ k _ rfl HO.out 1 _ rfl [.int .i64 (wrap64 x)] rfl rfl (by simp [Value.oneCell']) (by omega) (by decide) HB.out ?_; intro g4 cap4 w4 hown4 hq4)
      go_roundw
      case rel => exact ⟨k + 1, cap4, _, by omega, by go_num, rfl, by rw [HN.out, ← wrap64Z]; exact hown4, hq4 _ HQ.out (Nat.le_refl _)⟩
      case measure => simp [intOf]; omega
    · have e1 : nw = k := by omega
      subst e1
      have HT := hid_eq' (show (ws.take nw).map i64Z = ws.map i64Z by rw [List.take_of_length_le (by rw [HWL.out]; omega)])
      have S4 := Lib.hid (S3.out.q HQ.out)
      clear hown hq
      go_wp2_with (fail)
      refine (hbytes_any sh _ _ _ zs _ (by have := HSZ.out; omega) (by omega) S4.out R1.out).mono ?_
      rintro e w5 ⟨rfl, hq5⟩
      have HQ5 := Lib.hid (HQ.out.trans hq5)
      have O5 := Lib.hid (own_q HO.out hq5)
      have B5 := Lib.hid HQ5.out.size
      clear hq5 HQ HO S4
      go_wp2_with (at_builtin; refine append_one rfl _ _ 22 rfl w3.heap.size 3 i0 _ 1 8 Try.underlying22 HI.out hz0 hz1 hz2 rfl (by decide) _ nw _ rfl O5.out 1 _ rfl [.int .i64 m] rfl rfl (by simp [Value.oneCell']) (by omega) (by decide) B5.out ?_; intro g6 cap6 w6 hown6 hq6)
      have S6 := Lib.hid (show Sl w6 1 (some ⟨g6, 0, none⟩) (nw + 1) cap6 ((ws.map i64Z ++ [(m : Int)]).map (Value.int .i64)) by rw [List.map_append, ← HT.out]; exact Sl.of_own hown6)
      have Q6 := Lib.hid (hq6 _ HQ5.out (Nat.le_refl _))
      clear hown6 hq6 HQ5 O5 B5
      refine (sum_any sh _ _ _ _ _ (by have := HSZ.out; omega) (by omega) S6.out ?_).mono ?_
      · intro z hz
        rcases List.mem_append.1 hz with hz | hz
        · obtain ⟨x, _, rfl⟩ := List.mem_map.1 hz
          exact i64Z_range _
        · simp at hz
          subst hz
          omega
      rintro e w7 ⟨rfl, hq7⟩
      rw [← HD.out]
      have Q7 := Lib.hid (Q6.out.trans hq7)
      have S7 := Lib.hid (S3.out.q Q7.out)
      clear hq7 S6 Q6
      go_wp2_with (fail)
      refine (few_any _ _ _ 60 zs _ S7.out (by omega)).mono ?_
      rintro e w8 ⟨a8, cap8, rfl, hown8, hq8⟩
      rw [Nat.min_eq_left (show m ≤ 60 by omega)] at hown8 ⊢
      rw [List.take_of_length_le (by rw [HL.out]; omega)] at hown8
      have O8 := Lib.hid hown8
      have Q8 := Lib.hid hq8
      have B8 := Lib.hid hq8.size
      clear hown8 hq8
      by_cases h8 : m % 8 = 0
      · have h8' : ((m : Int) % 8 == 0) = true := by simp; omega
        go_wp2_with (at_builtin; refine append_one rfl _ _ 30 rfl w7.heap.size 5 i1 _ 1 1 Try.underlying30 HJ.out hy0 hy1 hy2 rfl (by decide) _ m _ rfl O8.out 1 _ rfl [.int .u8 0] rfl rfl (by simp [Value.oneCell']) (by omega) (by decide) B8.out ?_; intro g9 cap9 w9 hown9 hq9)
        have S9 := Lib.hid (show Sl w9 1 (some ⟨g9, 0, none⟩) (m + 1) cap9 ((zs ++ [0]).map (Value.int .u8)) by rw [List.map_append]; exact Sl.of_own hown9)
        have Q9 := Lib.hid (hq9 _ Q8.out (Nat.le_refl _))
        have R9 := Lib.hid (show Bys (zs ++ [0]) from fun z hz => by
          rcases List.mem_append.1 hz with h | h
          · exact R1.out z h
          · rw [List.mem_singleton.1 h]; omega)
        clear hown9 hq9 O8 Q8 B8
        refine (lives10_any _).mono ?_
        rintro e w10 ⟨rfl, hq10⟩
        have Q10 := Lib.hid (Q3.out.trans (Q7.out.trans (Q9.out.trans hq10)))
        clear hq10
        go_wp2
        go_ret
        exact ⟨rfl, Q10.out⟩
      · have h8' : ((m : Int) % 8 == 0) = false := by simp; omega
        go_wp2_with (at_builtin; refine append_one rfl _ _ 30 rfl w7.heap.size 5 i1 _ 1 1 Try.underlying30 HJ.out hy0 hy1 hy2 rfl (by decide) _ m _ rfl O8.out 1 _ rfl [.int .u8 0] rfl rfl (by simp [Value.oneCell']) (by omega) (by decide) B8.out ?_; intro g9 cap9 w9 hown9 hq9)
        have S9 := Lib.hid (show Sl w9 1 (some ⟨g9, 0, none⟩) (m + 1) cap9 ((zs ++ [0]).map (Value.int .u8)) by rw [List.map_append]; exact Sl.of_own hown9)
        have Q9 := Lib.hid (hq9 _ Q8.out (Nat.le_refl _))
        have R9 := Lib.hid (show Bys (zs ++ [0]) from fun z hz => by
          rcases List.mem_append.1 hz with h | h
          · exact R1.out z h
          · rw [List.mem_singleton.1 h]; omega)
        clear hown9 hq9 O8 Q8 B8
        have HZ : (bytesZ (strZ sh) (zs ++ [0]) != bytesZ (strZ sh) zs) = true := by
          have := bytesZ_zero (strZ sh) zs (by rw [HL.out]; omega) (by rw [HL.out]; omega)
          simpa using this
        generalize zs ++ [0] = ys at *
        refine (hbytes_any sh _ _ _ ys _ (by have := HSZ.out; omega) (by omega) S9.out R9.out).mono ?_
        rintro e w10 ⟨rfl, hq10⟩
        have Q10 := Lib.hid (Q9.out.trans hq10)
        have S10 := Lib.hid (S7.out.q Q10.out)
        clear hq10 S9 Q9 S7
        go_wp2_with (fail)
        refine (hbytes_any sh _ _ _ zs _ (by have := HSZ.out; omega) (by omega) S10.out R1.out).mono ?_
        rintro e w11 ⟨rfl, hq11⟩
        have Q11 := Lib.hid (Q10.out.trans hq11)
        clear hq11 S10 Q10
        go_wp2_with (fail)
        refine (lives10_any _).mono ?_
        rintro e w12 ⟨rfl, hq12⟩
        have Q12 := Lib.hid (Q3.out.trans (Q7.out.trans (Q11.out.trans hq12)))
        clear hq12
        go_wp2
        go_ret
        exact ⟨rfl, Q12.out⟩
end Go.Proofs.Ytcccffohpmpmeaa
