/- Contracts: the reference's words; pairs. -/
import Derived.Test.YtcgnihgebifcjaaHBytes
import Derived.Test.YtcgnihgebifcjaaRowsC
import Derived.Laws.IdiomStrings
namespace Go.Proofs.Ytcgnihgebifcjaa
open Go Go.RowKit Go.BigFrame

theorem infoU64 : (Try.prog.info? 22).map (fun i => (i.zero, i.size, i.bytes)) = some (some (.int .u64 0), 1, 8) := by kernel_rfl

/-- one byte more, below the others -/
theorem hor_step {l : List Int} (hb : Bys l) (hl : l.length ≤ 8) (d : Nat) (hd : d < l.length) : IntKind.u64.wrap (IntKind.u64.wrap (256 * leZ (l.drop (d + 1))) + IntKind.u64.wrap l[d]) = leZ (l.drop d) := by
  have h1 := leZ_u64 (hb.drop d) (by rw [List.length_drop]; omega)
  have h2 := leZ_bound (hb.drop (d + 1))
  rw [List.drop_eq_getElem_cons hd, leZ_cons] at h1 ⊢
  have h3 := hb l[d] (List.getElem_mem hd)
  unfold U64 MM at h1
  rw [IntKind.wrap_u64, IntKind.wrap_u64, IntKind.wrap_u64]
  omega
/-- the bytes of word i -/
def blk (bs : List Int) (i : Nat) : List Int := (bs.drop i).take 8
theorem blk_len (bs : List Int) (i : Nat) : (blk bs i).length = min 8 (bs.length - i) := by simp [blk]
theorem blk_get (bs : List Int) (i d : Nat) (h : d < (blk bs i).length) (h2 : i + d < bs.length) : (blk bs i)[d] = bs[i + d] := by simp [blk]
theorem blk_bys {bs : List Int} (h : Bys bs) (i : Nat) : Bys (blk bs i) := (h.drop _).take _
theorem blk_word (bs : List Int) (k : Nat) : leZ (blk bs (8 * k)) = wordZ bs k := rfl

set_option maxRecDepth 100000 in
theorem rWords_any (a : Option Addr) (len cap : Nat) (bs : List Int) (w : World) (hsl : Sl w 1 a len cap (bs.map (Value.int .u8))) (hbb : Bys bs) (hl : len ≤ 100000) :
    Calls Try.prog 47 #[.slice a len cap] w (RetOwn w 22 1 ((len + 7) / 8) ((wordsZ bs).map (Value.int .u64))) := by
  obtain ⟨i0, hi, hz0, hz1, hz2⟩ := info_parts infoU64
  have hlen : bs.length = len := by have := hsl.1; simpa using this
  have HS := Lib.hid hsl
  have HL := Lib.hid hlen
  have HI := Lib.hid hi
  have HB := Lib.hid hbb
  clear hsl hlen hi
  go_enter Try.func47, Try.ntmps47
  go_wp2_with (fail)
  go_loopw [3, 4] (fun v i wr => ∃ (k cp : Nat) (b : Option Addr), k ≤ (len + 7) / 8 ∧ i = .int .i64 (8 * k : Nat) ∧ v = .slice b k cp ∧ wr.ownsRow w.heap.size 22 1 (.slice b k cp) k ((uptoW bs k).map (Value.int .u64)) ∧ Q w wr) (fun _ i _ => len + 8 - (intOf i).toNat)
  case atStart => exact ⟨0, 0, none, by omega, rfl, rfl, World.ownsRow_nil _ _ _ _, Q.refl _⟩
  case round =>
    obtain ⟨k, cp, b, hkn, rfl, rfl, hown, hq⟩ := hrel
    have HO := Lib.hid hown
    have HQ := Lib.hid hq
    clear hown
    generalize hii : 8 * k = i at *
    have HII := Lib.hid hii
    by_cases h1 : i < len
    · obtain ⟨g, o, rfl, hg, hc⟩ := (HS.out.q hq).pos (by omega)
      have HC := Lib.hid hc
      have HN := Lib.hid (show (uptoW bs (k + 1)).map (Value.int .u64) = (uptoW bs k).map (Value.int .u64) ++ [.int .u64 (leZ (blk bs i))] by rw [uptoW_succ, List.map_append, ← hii]; rfl)
      clear hc hq hii
      have hbl := blk_len bs i
      rw [HL.out] at hbl
      have HBL := Lib.hid hbl
      clear hbl
      rcases Nat.lt_or_ge len (i + 8) with hm | hm
      all_goals
        go_wp2_with (fail)
        go_loop [5, 6] (fun v j => ∃ d : Nat, d ≤ (blk bs i).length ∧ j = .int .i64 ((i : Int) + (d : Int) - 1) ∧ v = .int .u64 (leZ ((blk bs i).drop d))) (fun _ j => (intOf j + 1 - i).toNat)
        case atStart => exact ⟨(blk bs i).length, Nat.le_refl _, by have := HBL.out; go_num, by rw [List.drop_length]; rfl⟩
        case round =>
          obtain ⟨d, hd, rfl, rfl⟩ := hrel
          cases d with
          | zero =>
            have HO2 := HO
            have HBs := Lib.hid HQ.out.size
            go_wp2_with (at_builtin; refine append_one rfl _ _ 23 rfl w.heap.size 22 i0 _ 1 8 Try.underlying23 HI.out hz0 hz1 hz2 rfl (by decide) _ k _ rfl HO.out 1 _ rfl [.int .u64 (leZ (blk bs i))] rfl rfl (by simp [Value.oneCell']) (by omega) (by decide) HBs.out ?_; intro g2 cap2 w2 hown2 hq2)
            go_roundw
            case rel => exact ⟨k + 1, cap2, _, by have := HII.out; omega, by have := HII.out; go_num, rfl, by rw [HN.out]; exact hown2, hq2 _ HQ.out (Nat.le_refl _)⟩
            case measure => simp [intOf]; omega
          | succ d =>
            have hdl := hd
            rw [HBL.out] at hdl
            have hst := hor_step (blk_bys HB.out i) (by rw [HBL.out]; omega) d hd
            have hidx : i + d < bs.length := by rw [HL.out]; omega
            rw [blk_get bs i d hd hidx] at hst
            have HST := Lib.hid hst
            have hcell : wr.cell? ⟨g, o + (i + d), none⟩ = some (.int .u8 bs[i + d]) := HC.out _ _ (by simp [hidx])
            generalize bs[i + d] = x at *
            clear hst hidx
            generalize leZ ((blk bs i).drop (d + 1)) = v at *
            go_wp2_with (fail)
            go_round
            case rel => exact ⟨d, by omega, by go_num, congrArg (Value.int .u64) HST.out⟩
            case measure => simp [intOf]; omega
    · have e1 : (len + 7) / 8 = k := by omega
      have HE := Lib.hid e1
      clear e1 hii
      go_wp2
      go_ret
      rw [HE.out]
      refine ⟨_, _, rfl, ?_, hq⟩
      have := HO.out
      rw [← HE.out, ← HL.out, uptoW_all, HL.out, HE.out] at this
      exact this
end Go.Proofs.Ytcgnihgebifcjaa
