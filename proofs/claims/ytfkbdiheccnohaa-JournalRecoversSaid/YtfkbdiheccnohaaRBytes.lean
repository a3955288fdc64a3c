/- Contract: the reference's Bytes. -/
import Derived.Test.YtfkbdiheccnohaaRSum
namespace Go.Proofs.Ytfkbdiheccnohaa
open Go Go.RowKit Go.BigFrame

theorem rBytes_any (s : ByteArray) (a : Option Addr) (len cap : Nat) (bs : List Int) (w : World) (hs : s.size ≤ 100000) (hl : len ≤ 100000) (hsl : Sl w 1 a len cap (bs.map (Value.int .u8))) (hbb : Bys bs) :
    Calls Try.prog 31 #[.string s, .slice a len cap] w fun e w' => e = .returned (.int .u64 (bytesZ (strZ s) bs)) ∧ Q w w' := by
  obtain ⟨i0, hi, hz0, hz1, hz2⟩ := info_parts infoInt
  have hlen : bs.length = len := by have := hsl.1; simpa using this
  have HS := Lib.hid hsl
  have HL := Lib.hid hlen
  have HI := Lib.hid hi
  clear hsl hi
  go_enter Try.func31, Try.ntmps31
  go_wp2_with (fail)
  refine (rWords_any _ _ _ _ _ HS.out hbb hl).mono ?_
  rintro e w1 ⟨a1, cap1, rfl, hown1, hq1⟩
  have HQ1 := Lib.hid hq1
  have HO1 := Lib.hid (Sl.of_own hown1)
  have hwl : (wordsZ bs).length = (len + 7) / 8 := by rw [wordsZ_len, hlen]
  have HWL := Lib.hid hwl
  have hnw : (len + 7) / 8 ≤ 100000 := by omega
  have HD := Lib.hid (show bytesZ (strZ s) bs = sumZ (strZ s) ((wordsZ bs).map i64Z ++ [(len : Int)]) by unfold bytesZ; rw [hlen])
  generalize wordsZ bs = ws at *
  generalize (len + 7) / 8 = nw at *
  clear hown1 hq1 hwl hbb hlen
  go_wp2_with (fail)
  go_loopw [6, 7] (fun v i wr => ∃ (k cp : Nat) (b : Option Addr), k ≤ nw ∧ i = .int .i64 k ∧ v = .slice b k cp ∧ wr.ownsRow w1.heap.size 3 1 (.slice b k cp) k (((ws.take k).map i64Z).map (Value.int .i64)) ∧ Q w1 wr) (fun _ i _ => nw - (intOf i).toNat)
  case atStart => exact ⟨0, 0, none, by omega, rfl, rfl, World.ownsRow_nil _ _ _ _, Q.refl _⟩
  case round =>
    obtain ⟨k, cp, b, hkn, rfl, rfl, hown, hq⟩ := hrel
    have HO := Lib.hid hown
    have HQ := Lib.hid hq
    by_cases h1 : k < nw
    · obtain ⟨g, o, rfl, hg, hcs⟩ := (HO1.out.q hq).pos (by omega)
      have hzl : k < ws.length := by rw [HWL.out]; exact h1
      have hce : wr.cell? ⟨g, o + k, none⟩ = some (.int .u64 ws[k]) := hcs k _ (by simp [hzl])
      have HN := Lib.hid (show ((ws.take (k + 1)).map i64Z).map (Value.int .i64) = ((ws.take k).map i64Z).map (Value.int .i64) ++ [.int .i64 (i64Z ws[k])] by rw [take_snoc_get _ _ hzl, List.map_append, List.map_append]; rfl)
      generalize ws[k] = x at *
      have HB := Lib.hid HQ.out.size
      clear hcs hzl hown hq
      go_wp2_with (at_builtin; refine append_one rfl _ _ 22 rfl w1.heap.size 3 i0 _ 1 8 Try.underlying22 HI.out hz0 hz1 hz2 rfl (by decide) _ k _ rfl HO.out 1 _ rfl [.int .i64 (wrap64 x)] rfl rfl (by simp [Value.oneCell']) (by omega) (by decide) HB.out ?_; intro g2 cap2 w2 hown2 hq2)
      go_roundw
      case rel => exact ⟨k + 1, cap2, _, by omega, by go_num, rfl, by rw [HN.out, ← wrap64Z]; exact hown2, hq2 _ HQ.out (Nat.le_refl _)⟩
      case measure => simp [intOf]; omega
    · have e1 : nw = k := by omega
      subst e1
      have HT := hid_eq' (show (ws.take nw).map i64Z = ws.map i64Z by rw [List.take_of_length_le (by rw [HWL.out]; omega)])
      have HB := Lib.hid HQ.out.size
      clear hown hq
      go_wp2_with (at_builtin; refine append_one rfl _ _ 22 rfl w1.heap.size 3 i0 _ 1 8 Try.underlying22 HI.out hz0 hz1 hz2 rfl (by decide) _ nw _ rfl HO.out 1 _ rfl [.int .i64 len] rfl rfl (by simp [Value.oneCell']) (by omega) (by decide) HB.out ?_; intro g2 cap2 w2 hown2 hq2)
      have hsl2 : Sl w2 1 (some ⟨g2, 0, none⟩) (nw + 1) cap2 ((ws.map i64Z ++ [(len : Int)]).map (Value.int .i64)) := by
        rw [List.map_append, ← HT.out]
        exact Sl.of_own hown2
      have HQ2 := Lib.hid (HQ1.out.trans (hq2 _ HQ.out (Nat.le_refl _)))
      clear hown2 hq2
      refine (rSum_any s _ _ _ _ _ hs (by omega) hsl2 ?_).mono ?_
      · intro z hz
        rcases List.mem_append.1 hz with hz | hz
        · obtain ⟨x, _, rfl⟩ := List.mem_map.1 hz
          exact i64Z_range _
        · simp at hz
          subst hz
          omega
      rintro e w3 ⟨rfl, hq3⟩
      have HQ3 := Lib.hid (HQ2.out.trans hq3)
      clear hq3 hsl2
      go_wp2
      go_ret
      exact ⟨congrArg (fun z => Ending.returned (.int .u64 z)) HD.out.symm, HQ3.out⟩
end Go.Proofs.Ytfkbdiheccnohaa
