/- Contract: Sum. -/
import Derived.Test.YtcgnihgebifcjaaWordsB
namespace Go.Proofs.Ytcgnihgebifcjaa
open Go Go.RowKit Go.Shelf
attribute [local go_sem] Oper.semAt_some

theorem hid_eq' {α : Type} {a b : α} (h : a = b) : Hid (a = b) := h

set_option maxRecDepth 100000 in
set_option maxHeartbeats 2000000 in
theorem sum_any (s : ByteArray) (a : Option Addr) (len cap : Nat) (zs : List Int) (w : World) (hs : s.size ≤ 1000000) (hl : len ≤ 1000000) (hsl : Sl w 1 a len cap (zs.map (Value.int .i64)))
    (hz : ∀ z ∈ zs, -9223372036854775808 ≤ z ∧ z ≤ 9223372036854775807) :
    Calls Try.prog 41 #[.string s, .slice a len cap] w fun e w' => e = .returned (.int .u64 (sumZ (strZ s) zs)) ∧ Q w w' := by
  have HSL := Lib.hid hsl
  have HZ := Lib.hid hz
  clear hsl hz
  refine (callsIn_wide (n := 5)).1 ?_
  refine callsIn_of_wp_marks Try.func41 rfl trivial ?_ rfl
  simp only [Try.ntmps41, List.size_toArray, List.length_cons, List.length_nil, Nat.reduceAdd, Nat.reduceSub, Array.replicate_succ, Array.replicate_zero, List.push_toArray, List.append_toArray, List.nil_append, List.cons_append]
  gi_wp2_with (refine ⟨trivial, ?_⟩; gi_at_call 49; refine (wordsS_in _ s _).mono ?_; rintro e w' ⟨rfl, rfl⟩)
  have bS := Boxed.new w 22 (.int .u64 0)
  have bW := Boxed.new (w.alloc (.cells #[.int .u64 0] 22)) 9 (.string s)
  rw [World.size_alloc] at bW
  have hB0 : Below w.heap.size w ((w.alloc (.cells #[.int .u64 0] 22)).alloc (.cells #[.string s] 9)) := ((Below.refl _ w).alloc (Nat.le_refl _) _).alloc (by simp) _
  have h0 : foldZ 0 [] = 0 := rfl
  refine wpIn_rangeFunc_ownF rfl (by omega) (gf := 51) (lb := #[.pointer (some ⟨w.heap.size + 1, 0, none⟩)]) rfl trivial (enters_of Try.func51 (by kernel_rfl) rfl)
    (wordsS_stops (5 - 1) (by omega) (w.heap.size + 1) w.heap.size s hs _ bW) (fun h k => h.trans k) (keepB_b (by simp; omega) (by simp)) (Below.refl _ _) (fun _ => rfl)
    (fun pre W => Boxed W w.heap.size 22 (.int .u64 (foldZ 0 (pre.map (·.1)))) ∧ Below w.heap.size w W)
    (fun _ _ _ => False)
    (OwnFrom.and (Own.from (fun s A B row hs hg hr => hs.kept hg (fun e => by obtain ⟨o, ho, hc⟩ := hr _ e.symm; have := hs.symm.trans ho; cases this; cases hc)) _) (ownFrom_below (Nat.le_refl _) (by simp; omega)))
    (fun _ _ _ _ _ hs _ _ => hs)
    ⟨bS.alloc _, hB0⟩
    (fun x => { tmps := #[.string s, .slice a len cap, undef, undef, .int .u64 0, .pointer (some ⟨w.heap.size, 0, none⟩), .int .u64 x.1, undef, undef, .string s, .func (.func 51) #[] #[.pointer (some ⟨w.heap.size + 1, 0, none⟩)], .int .u64 x.1, undef, undef, undef, undef, undef, undef, undef, undef, undef, undef, undef, undef, undef, undef, undef, undef, undef, undef, undef, undef, undef, undef, undef, undef, undef], defers := [] }) ?assign ?body ?done ?stop
  case assign =>
    intro l x W K hK
    gi_wp2
    exact hK
  case body =>
    rintro l pre x W ⟨hbx, hB⟩ _
    have hc := hbx.cell
    have hf := hbx.frozen
    have HX := Lib.hid hbx
    clear hbx
    gi_wp2_with (refine ⟨trivial, ?_⟩; gi_at_call 50; refine (CallsIn.inRound l (callsIn_wide.2 (mix_any _ _ _ (foldZ_u64 zero_u64 _) x.2))).mono ?_; rintro e w' ⟨rfl, rfl⟩)
    have hne : w.heap.size + 1 ≠ w.heap.size := by omega
    have e : foldZ 0 ((pre ++ [x]).map (·.1)) = mixZ (foldZ 0 (pre.map (·.1))) x.1 := by rw [List.map_append]; exact foldZ_snoc _ _ _
    refine ⟨KeepsOthers.setCell _ _ _, ⟨(Below.refl _ _).setCell (p := ⟨w.heap.size, 0, none⟩) (Nat.le_refl _) _, Below.heap_setCell _ _ _ _ hne⟩, ?_, hB.setCell (p := ⟨w.heap.size, 0, none⟩) (Nat.le_refl _) _⟩
    rw [e]
    exact HX.out.set _
  case done =>
    rintro D ys W hD rfl ⟨hbx, hB⟩ hK
    rw [uptoWW_val] at hbx
    have hc := hbx.cell
    have hf := hbx.frozen
    have HX := Lib.hid hbx
    have HK := Lib.hid hK
    have HD := Lib.hid hD
    have HB := Lib.hid hB
    clear hbx hK hD hB bS bW hB0 h0
    gi_wp2_with (fail)
    have us : U64 (s.size : Int) := by unfold U64 MM; omega
    have ul : U64 (len : Int) := by unfold U64 MM; omega
    refine ⟨trivial, (callsIn_wide.2 (mix_any _ _ _ (foldZ_u64 zero_u64 _) us)).mono ?_⟩
    rintro e w' ⟨rfl, rfl⟩
    gi_wp2_with (fail)
    refine ⟨trivial, (callsIn_wide.2 (mix_any _ _ _ (mixZ_u64 _ _) ul)).mono ?_⟩
    rintro e w' ⟨rfl, rfl⟩
    gi_wp2_with (fail)
    generalize hv : mixZ (mixZ (foldZ 0 (uptoW (strZ s) ((s.size + 7) / 8))) (s.size : Int)) (len : Int) = v0
    have HV := Lib.hid hv
    have hv64 : U64 v0 := by rw [← hv]; exact mixZ_u64 _ _
    have HV64 := Lib.hid hv64
    have hlen : zs.length = len := by have := HSL.out.1; simpa using this
    have HL := Lib.hid hlen
    have hq0 : w.heap.size < D := by have := HD.out; simp at this; omega
    clear hv hv64 hlen us ul hc
    gi_loopw [26] (fun i wr => ∃ k : Nat, k ≤ len ∧ i = .int .i64 k ∧ Boxed wr w.heap.size 22 (.int .u64 (foldZ v0 ((zs.map u64Z).take k))) ∧ Below w.heap.size w wr ∧ wr.heap[D]? = some (.deferred (some []))) (fun i _ => len - (intOf i).toNat)
    case atStart => exact ⟨0, by omega, rfl, HX.out.set _, HB.out.setCell (p := ⟨w.heap.size, 0, none⟩) (Nat.le_refl _) _, (Below.heap_setCell _ _ _ _ (by simp; omega)).trans HK.out⟩
    case round =>
      obtain ⟨k, hk, rfl, hbx, hB, hKD⟩ := hrel
      have hcb := hbx.cell
      have hfb := hbx.frozen
      have HX2 := Lib.hid hbx
      have HB2 := Lib.hid hB
      have HK2 := Lib.hid hKD
      clear hbx hB hKD
      by_cases hlt : k < len
      · obtain ⟨g, o, rfl, hg, hcs⟩ := (HSL.out.q HB2.out).pos (by omega)
        have hzl : k < zs.length := by rw [HL.out]; exact hlt
        have hce : wr.cell? ⟨g, o + k, none⟩ = some (.int .i64 zs[k]) := hcs k _ (by simp [hzl])
        have hzr := HZ.out _ (List.getElem_mem hzl)
        have HN := Lib.hid (show foldZ v0 ((zs.map u64Z).take (k + 1)) = mixZ (foldZ v0 ((zs.map u64Z).take k)) (u64Z zs[k]) by rw [List.take_succ_eq_append_getElem (by simpa using hzl), List.getElem_map]; exact foldZ_snoc _ _ _)
        generalize zs[k] = x at *
        clear hcs hzl
        gi_wp2_with (fail)
        rw [show IntKind.u64.wrap x = u64Z x from IntKind.wrap_u64 x]
        refine ⟨trivial, (callsIn_wide.2 (mix_any _ _ _ (foldZ_u64 HV64.out _) (u64Z_u64 x))).mono ?_⟩
        rintro e w' ⟨rfl, rfl⟩
        gi_wp2_with (fail)
        go_roundw
        case rel => exact ⟨k + 1, by omega, by go_num, by rw [HN.out]; exact HX2.out.set _, HB2.out.setCell (p := ⟨w.heap.size, 0, none⟩) (Nat.le_refl _) _, (Below.heap_setCell _ _ _ _ (by simp; omega)).trans HK2.out⟩
        case measure => simp [intOf]; omega
      · have hkl : k = len := by omega
        subst hkl
        have HT := hid_eq' (show (zs.map u64Z).take k = zs.map u64Z from List.take_of_length_le (by rw [List.length_map, HL.out]; omega))
        gi_wp2_with (fail)
        refine ⟨trivial, (callsIn_wide.2 (mix_any _ _ _ (foldZ_u64 HV64.out _) zero_u64)).mono ?_⟩
        rintro e w' ⟨rfl, rfl⟩
        gi_wp2
        refine ⟨by simp, .inl ⟨_, _, rfl, run_takeDeferred HK2.out, ?_⟩⟩
        refine ⟨_, results_tmp rfl _ _ _, ?_, ?_⟩
        · have e : sumZ (strZ s) zs = mixZ (foldZ v0 (zs.map u64Z)) 0 := by
            unfold sumZ
            rw [← uptoW_all, strZ_len, HL.out, HV.out]
          refine congrArg (fun z => Ending.returned (.int .u64 z)) ?_
          rw [e, HT.out]
        · exact Below.trans HB2.out (belowK_b (w := w) (Nat.le_refl _) _ D _ _ (by omega) HK2.out rfl rfl)
  case stop =>
    rintro D c pre W _ _ h _
    exact h.elim
end Go.Proofs.Ytcgnihgebifcjaa
