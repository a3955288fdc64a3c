/- Contracts: the reference's sums; pairs. -/
import Derived.Test.YtcgnihgebifcjaaRWords
namespace Go.Proofs.Ytcgnihgebifcjaa
open Go Go.RowKit Go.BigFrame

theorem strZ_val (s : ByteArray) : (strZ s).map (Value.int .u8) = s.data.toList.map (fun b => Value.int .u8 b.toNat) := by simp [strZ]
/-- what '[]byte(s)' makes reads as the string's bytes -/
theorem sl_str (w : World) (s : ByteArray) (hs : s.size ≤ 1000000) :
    Sl (w.drew.alloc (.cells (bytesRow s (grownCap w s.size 0 5)) 5 ((bytesRow s (grownCap w s.size 0 5)).size, (bytesRow s (grownCap w s.size 0 5)).size + 1))) 1 (some ⟨w.heap.size, 0, none⟩) s.size (grownCap w s.size 0 5) ((strZ s).map (Value.int .u8)) := by
  refine ⟨by simp [strZ_len], grownCap_ge _ _ _ _, grownCap_le_maxLen _ _ _ _ (by unfold maxLen; omega), (fun e => by cases e), .inr ⟨_, _, rfl, by simp, fun j u hu => ?_⟩⟩
  have h := World.cell?_alloc_mark w.drew (bytesRow s (grownCap w s.size 0 5)) 5 ((bytesRow s (grownCap w s.size 0 5)).size, (bytesRow s (grownCap w s.size 0 5)).size + 1) j
  rw [Nat.zero_add]
  refine Eq.trans h ?_
  rw [strZ_val] at hu
  have hj := (List.getElem?_eq_some_iff.1 hu).1
  simp at hj hu
  unfold bytesRow
  rw [Array.getElem?_append_left (by simpa using hj)]
  simpa using hu

theorem rSum_any (s : ByteArray) (a : Option Addr) (len cap : Nat) (zs : List Int) (w : World) (hs : s.size ≤ 100000) (hl : len ≤ 1000000) (hsl : Sl w 1 a len cap (zs.map (Value.int .i64)))
    (hz : ∀ z ∈ zs, -9223372036854775808 ≤ z ∧ z ≤ 9223372036854775807) :
    Calls Try.prog 39 #[.string s, .slice a len cap] w fun e w' => e = .returned (.int .u64 (sumZ (strZ s) zs)) ∧ Q w w' := by
  have hlen : zs.length = len := by have := hsl.1; simpa using this
  have HSL := Lib.hid hsl
  have HL := Lib.hid hlen
  have hsz := strZ_len s
  have HSZ := Lib.hid hsz
  have HZ := Lib.hid hz
  clear hsl hz hlen hsz
  have hconv := run_bytes_of_string (P := Try.prog) w 9 79 5 s Try.underlying9 Try.underlying79 Try.underlying5
  have hsb := Lib.hid (sl_str w s (by omega))
  have hq0 : Q w (w.drew.alloc (.cells (bytesRow s (grownCap w s.size 0 5)) 5 ((bytesRow s (grownCap w s.size 0 5)).size, (bytesRow s (grownCap w s.size 0 5)).size + 1))) := by
    exact (Q.refl w).drew.alloc _
  generalize hcc : grownCap w s.size 0 5 = cc at *
  generalize hrr : bytesRow s cc = rr at *
  have HQ0 := Lib.hid hq0
  clear hq0 hcc hrr
  go_enter Try.func39, Try.ntmps39
  go_wp2_with (fail)
  refine (rWords_any _ _ _ _ _ hsb.out (strZ_bys s) (by omega)).mono ?_
  rintro e w1 ⟨a1, cap1, rfl, hown1, hq1⟩
  have HQ1 := Lib.hid (HQ0.out.trans hq1)
  have HO1 := Lib.hid (Sl.of_own hown1)
  have hwl : (wordsZ (strZ s)).length = (s.size + 7) / 8 := by rw [wordsZ_len, strZ_len]
  have HWL := Lib.hid hwl
  have HWU := Lib.hid (wordsZ_u64 (strZ_bys s))
  have HD := Lib.hid (show sumZ (strZ s) zs = mixZ (foldZ (mixZ (mixZ (foldZ 0 (wordsZ (strZ s))) s.size) len) (zs.map u64Z)) 0 by unfold sumZ; rw [strZ_len, HL.out])
  have hnw : (s.size + 7) / 8 ≤ 100000 := by omega
  generalize wordsZ (strZ s) = ws at *
  generalize (s.size + 7) / 8 = nw at *
  clear hconv hown1 hq1 hwl hsb
  go_wp2_with (fail)
  go_loop [5, 7] (fun v i => ∃ k : Nat, k ≤ nw ∧ i = .int .i64 k ∧ v = .int .u64 (foldZ 0 (ws.take k))) (fun _ i => nw - (intOf i).toNat)
  case atStart => exact ⟨0, by omega, rfl, rfl⟩
  case round =>
    obtain ⟨k, hk, rfl, rfl⟩ := hrel
    by_cases hlt : k < nw
    · obtain ⟨g, o, rfl, hg, hcs⟩ := HO1.out.pos (by omega)
      have hzl : k < ws.length := by rw [HWL.out]; exact hlt
      have hce : w1.cell? ⟨g, o + k, none⟩ = some (.int .u64 ws[k]) := hcs k _ (by simp [hzl])
      have hwu := HWU.out _ (List.getElem_mem hzl)
      have HN := Lib.hid (show foldZ 0 (ws.take (k + 1)) = mixZ (foldZ 0 (ws.take k)) ws[k] by rw [List.take_succ_eq_append_getElem hzl]; exact foldZ_snoc _ _ _)
      have HU := Lib.hid hwu
      generalize ws[k] = x at *
      have hf := foldZ_u64 zero_u64 (ws.take k)
      have HF := Lib.hid hf
      generalize foldZ 0 (ws.take k) = acc at *
      clear hcs hzl hwu hf
      go_wp2_with (fail)
      refine (rmix_any _ _ _ HF.out HU.out).mono ?_
      rintro e w2 ⟨rfl, rfl⟩
      go_wp2_with (fail)
      go_round
      case rel => exact ⟨k + 1, by omega, by go_num, congrArg (Value.int .u64) HN.out.symm⟩
      case measure => simp [intOf]; omega
    · have hkl : k = nw := by omega
      have HT := Lib.hid (show foldZ 0 (ws.take k) = foldZ 0 ws by rw [List.take_of_length_le (by rw [HWL.out]; omega)])
      rw [← HT.out] at HD
      have HF := Lib.hid (foldZ_u64 zero_u64 (ws.take k))
      generalize foldZ 0 (ws.take k) = acc at *
      clear HT HWU HO1
      go_wp2_with (fail)
      have us : U64 (s.size : Int) := by unfold U64 MM; omega
      have ul : U64 (len : Int) := by unfold U64 MM; omega
      refine (rmix_any _ _ _ HF.out us).mono ?_
      rintro e w2 ⟨rfl, rfl⟩
      go_wp2_with (fail)
      refine (rmix_any _ _ _ (mixZ_u64 _ _) ul).mono ?_
      rintro e w2 ⟨rfl, rfl⟩
      generalize hv0 : mixZ (mixZ acc s.size) len = v0 at *
      have HV := Lib.hid (show U64 v0 by rw [← hv0]; exact mixZ_u64 _ _)
      clear hv0 us ul
      go_wp2_with (fail)
      go_loop [5, 8] (fun v i => ∃ k : Nat, k ≤ len ∧ i = .int .i64 k ∧ v = .int .u64 (foldZ v0 ((zs.map u64Z).take k))) (fun _ i => len - (intOf i).toNat)
      case atStart => exact ⟨0, by omega, rfl, rfl⟩
      case round =>
        obtain ⟨k, hk, rfl, rfl⟩ := hrel
        have HF := Lib.hid (foldZ_u64 HV.out ((zs.map u64Z).take k))
        by_cases hlt : k < len
        · obtain ⟨g, o, rfl, hg, hcs⟩ := (HSL.out.q HQ1.out).pos (by omega)
          have hzl : k < zs.length := by rw [HL.out]; exact hlt
          have hce : w1.cell? ⟨g, o + k, none⟩ = some (.int .i64 zs[k]) := hcs k _ (by simp [hzl])
          have hzr := HZ.out _ (List.getElem_mem hzl)
          have HN := Lib.hid (show foldZ v0 ((zs.map u64Z).take (k + 1)) = mixZ (foldZ v0 ((zs.map u64Z).take k)) (u64Z zs[k]) by rw [List.take_succ_eq_append_getElem (by simpa using hzl), List.getElem_map]; exact foldZ_snoc _ _ _)
          generalize zs[k] = x at *
          generalize foldZ v0 ((zs.map u64Z).take k) = acc2 at *
          clear hcs hzl
          go_wp2_with (fail)
          rw [show IntKind.u64.wrap x = u64Z x from IntKind.wrap_u64 x]
          refine (rmix_any _ _ _ HF.out (u64Z_u64 x)).mono ?_
          rintro e w2 ⟨rfl, rfl⟩
          go_wp2_with (fail)
          go_round
          case rel => exact ⟨k + 1, by omega, by go_num, congrArg (Value.int .u64) HN.out.symm⟩
          case measure => simp [intOf]; omega
        · have HT := Lib.hid (show foldZ v0 ((zs.map u64Z).take k) = foldZ v0 (zs.map u64Z) by rw [List.take_of_length_le (by rw [List.length_map, HL.out]; omega)])
          rw [← HT.out] at HD
          generalize foldZ v0 ((zs.map u64Z).take k) = acc2 at *
          go_wp2_with (fail)
          refine (rmix_any _ _ _ HF.out zero_u64).mono ?_
          rintro e w2 ⟨rfl, rfl⟩
          go_wp2
          go_ret
          exact ⟨congrArg (fun z => Ending.returned (.int .u64 z)) HD.out.symm, HQ1.out⟩

theorem wrap64Z (x : Int) : wrap64 x = i64Z x := by unfold wrap64 i64Z; rfl
/-- 'pair' -/
def pairS : ByteArray := ⟨#[112, 97, 105, 114]⟩
def pairZ (x y : Int) : Int := sumZ (strZ pairS) [i64Z x, i64Z y]
theorem sl_two (w : World) (x y : Int) (t : TypeId) : Sl (w.alloc (.cells #[.int .i64 x, .int .i64 y] t)) 1 (some ⟨w.heap.size, 0, none⟩) 2 2 ([x, y].map (Value.int .i64)) := by
  refine ⟨rfl, by omega, by decide, (fun e => by cases e), .inr ⟨_, _, rfl, by simp, fun j u hu => ?_⟩⟩
  have h := World.cell?_alloc_mark w #[.int .i64 x, .int .i64 y] t (0, 0) j
  rw [Nat.zero_add]
  refine Eq.trans h ?_
  rw [← hu]
  simp
theorem sl_one (w : World) (k : IntKind) (x : Int) (t : TypeId) : Sl (w.alloc (.cells #[.int k x] t)) 1 (some ⟨w.heap.size, 0, none⟩) 1 1 ([x].map (Value.int k)) := by
  refine ⟨rfl, by omega, by decide, (fun e => by cases e), .inr ⟨_, _, rfl, by simp, fun j u hu => ?_⟩⟩
  have h := World.cell?_alloc_mark w #[.int k x] t (0, 0) j
  rw [Nat.zero_add]
  refine Eq.trans h ?_
  rw [← hu]
  simp
theorem two_range (x y : Int) : ∀ z ∈ [i64Z x, i64Z y], -9223372036854775808 ≤ z ∧ z ≤ 9223372036854775807 := by
  intro z hz
  simp at hz
  rcases hz with rfl | rfl <;> exact i64Z_range _
theorem hPair_any (x y : Int) (w : World) : Calls Try.prog 43 #[.int .u64 x, .int .u64 y] w fun e w' => e = .returned (.int .u64 (pairZ x y)) ∧ Q w w' := by
  go_enter Try.func43, Try.ntmps43
  go_wp2_with (fail)
  rw [wrap64Z, wrap64Z]
  refine (sum_any pairS _ _ _ [i64Z x, i64Z y] _ (by decide) (by omega) (sl_two w _ _ _) (two_range x y)).mono ?_
  rintro e w1 ⟨rfl, hq⟩
  have HQ := Lib.hid (Q.trans ((Q.refl w).alloc _) hq)
  clear hq
  go_wp2
  go_ret
  exact ⟨rfl, HQ.out⟩
theorem rPair_any (x y : Int) (w : World) : Calls Try.prog 40 #[.int .u64 x, .int .u64 y] w fun e w' => e = .returned (.int .u64 (pairZ x y)) ∧ Q w w' := by
  go_enter Try.func40, Try.ntmps40
  go_wp2_with (fail)
  rw [wrap64Z, wrap64Z]
  refine (rSum_any pairS _ _ _ [i64Z x, i64Z y] _ (by decide) (by omega) (sl_two w _ _ _) (two_range x y)).mono ?_
  rintro e w1 ⟨rfl, hq⟩
  have HQ := Lib.hid (Q.trans ((Q.refl w).alloc _) hq)
  clear hq
  go_wp2
  go_ret
  exact ⟨rfl, HQ.out⟩
end Go.Proofs.Ytcgnihgebifcjaa
