/- The iterator over the words of a string. -/
import Derived.Test.YtcgnihgebifcjaaHashA
namespace Go.Proofs.Ytcgnihgebifcjaa
open Go Go.RowKit Go.Shelf
attribute [local go_sem] Oper.semAt_some

/-- a word -/
abbrev W64 := { x : Int // U64 x }
def wordW (bs : List Int) (hb : Bys bs) (i : Nat) : W64 := ⟨wordZ bs i, wordZ_u64 hb i⟩
def uptoWW (bs : List Int) (hb : Bys bs) (k : Nat) : List W64 := (List.range k).map (wordW bs hb)
theorem uptoWW_succ (bs : List Int) (hb : Bys bs) (k : Nat) : uptoWW bs hb (k + 1) = uptoWW bs hb k ++ [wordW bs hb k] := by simp [uptoWW, List.range_succ]
theorem uptoWW_val (bs : List Int) (hb : Bys bs) (k : Nat) : (uptoWW bs hb k).map (·.1) = uptoW bs k := by simp [uptoWW, uptoW, wordW]
theorem uptoWW_len (bs : List Int) (hb : Bys bs) (k : Nat) : (uptoWW bs hb k).length = k := by simp [uptoWW]

/-- what a round keeps: block B, and all that lay below n₁ -/
def KeepB (B n₁ : Nat) (W W' : World) : Prop := Below n₁ W W' ∧ W'.heap[B]? = W.heap[B]?
theorem KeepB.refl (B n₁ : Nat) (W : World) : KeepB B n₁ W W := ⟨Below.refl _ _, rfl⟩
theorem KeepB.trans {B n₁ : Nat} {X Y Z : World} (h : KeepB B n₁ X Y) (k : KeepB B n₁ Y Z) : KeepB B n₁ X Z := ⟨h.1.trans k.1, k.2.trans h.2⟩
theorem keepB_b {B n₁ : Nat} {w : World} (hn : n₁ ≤ w.heap.size) (hB : B < w.heap.size) (W : World) (l : Nat) (o o' : Obj) (hl : w.heap.size ≤ l) (h : W.heap[l]? = some o) (hc : o.isCells = false) (hw : o.isWalk = false) : KeepB B n₁ W (W.putObj l o') :=
  ⟨belowK_b (w := w) hn W l o o' hl h hc hw, World.putObj_heap_other (by omega)⟩

set_option maxRecDepth 100000 in
set_option maxHeartbeats 2000000 in
theorem wordsS1_in (F : Fence) (n : Nat) (hF : F.fn 51) (hro : F.round = none) (hn : 1 ≤ n) (l Bs n₁ : Nat) (s : ByteArray) (hs : s.size ≤ 1000000) (J Jx : List W64 → World → Prop)
    (hY : ∀ pre x W, J pre W → pre.length < (s.size + 7) / 8 → YieldAt F (n - 1) Try.prog l #[.int .u64 x.1] W fun e W' =>
      (e = .returned (.bool true) ∧ J (pre ++ [x]) W' ∧ KeepB Bs n₁ W W') ∨ (e = .returned (.bool false) ∧ Jx (pre ++ [x]) W'))
    (W : World) (hc : Boxed W Bs 9 (.string s)) (h0 : J [] W) :
    CallsIn F n Try.prog 51 #[.func (.yield l) #[] #[], .pointer (some ⟨Bs, 0, none⟩)] W fun e W' => (∃ v, e = .returned v) ∧
      ((∃ ys, ys = uptoWW (strZ s) (strZ_bys s) ((s.size + 7) / 8) ∧ J ys W') ∨ (∃ pre, (∃ k, pre = uptoWW (strZ s) (strZ_bys s) k) ∧ Jx pre W')) := by
  have HY := Lib.hid hY
  clear hY
  refine callsIn_of_wp Try.func51 rfl hF ?_ hro
  simp only [Try.ntmps51, List.size_toArray, List.length_cons, List.length_nil, Nat.reduceAdd, Nat.reduceSub, Array.replicate_succ, Array.replicate_zero, List.push_toArray, List.append_toArray, List.nil_append, List.cons_append]
  gi_wp2
  gi_loopw [3] (fun i wr => ∃ j : Nat, 8 * j ≤ s.size + 7 ∧ i = .int .i64 (8 * j : Nat) ∧ J (uptoWW (strZ s) (strZ_bys s) j) wr ∧ KeepB Bs n₁ W wr)
    (fun i _ => s.size + 8 - (intOf i).toNat)
  case atStart => exact ⟨0, by omega, rfl, h0, KeepB.refl _ _ _⟩
  case round =>
    obtain ⟨j, hj, rfl, hJ, hk⟩ := hrel
    have hbx : Boxed wr Bs 9 (.string s) := hk.2.trans hc
    have hcell := hbx.cell
    have HK := Lib.hid hk
    have HJ := Lib.hid hJ
    have HB := Lib.hid hbx
    clear hk hJ hbx
    generalize hi : 8 * j = i at *
    have HI := Lib.hid hi
    clear hi
    by_cases hlt : i < s.size
    · by_cases hm : s.size < i + 8
      · gi_wp2
        gi_loop [4, 5] (fun v k => ∃ d : Nat, d ≤ 8 ∧ i + d ≤ s.size ∧ k = .int .i64 (i + d : Nat) ∧ v = .int .u64 (leZ (((strZ s).drop i).take d))) (fun _ k => s.size - (intOf k).toNat)
        case atStart => exact ⟨0, by omega, by omega, rfl, rfl⟩
        case round =>
          obtain ⟨d, hd, hid, rfl, rfl⟩ := hrel
          by_cases hl2 : i + d < s.size ∧ d < 8
          · obtain ⟨hl2, hd8⟩ := hl2
            have hlen : (((strZ s).drop i).take d).length = d := by rw [List.length_take, List.length_drop, strZ_len]; omega
            have hor := or_step (((strZ s).drop i).take d) (((strZ_bys s).drop i).take d) (by omega) (s[i + d].toNat : Int) (by omega) (by have := s[i + d].toNat_lt; omega)
            rw [← drop_take_snoc _ _ _ _ (strZ_get s (i + d) hl2), hlen] at hor
            have HV := Lib.hid (congrArg (Value.int .u64) hor)
            clear hor hlen
            generalize leZ (((strZ s).drop i).take d) = acc at *
            gi_wp2
            go_round
            case rel => exact ⟨d + 1, by omega, by omega, by go_num, HV.out⟩
            case measure => simp [intOf]; omega
          · have hex : i + d = s.size := by omega
            have hw : wordZ (strZ s) j = leZ (((strZ s).drop i).take d) := by
              unfold wordZ
              rw [HI.out]
              congr 1
              rw [List.take_of_length_le (by rw [List.length_drop, strZ_len]; omega), List.take_of_length_le (by rw [List.length_drop, strZ_len]; omega)]
            obtain ⟨fn, tmps, assign, body, hy, hR⟩ := HY.out _ (wordW (strZ s) (strZ_bys s) j) wr HJ.out (by rw [uptoWW_len]; have := HI.out; omega)
            rw [show (wordW (strZ s) (strZ_bys s) j).1 = leZ (((strZ s).drop i).take d) from hw] at hy
            generalize leZ (((strZ s).drop i).take d) = acc at *
            clear hw
            have HR := Lib.hid hR
            clear hR
            gi_wp2
            refine HR.out.mono ?_
            rintro e W3 (⟨rfl, hJ3, hk3⟩ | ⟨rfl, hJx3⟩)
            · have HK3 := Lib.hid (HK.out.trans hk3)
              have hcell3 := (show Boxed W3 Bs 9 (.string s) from hk3.2.trans HB.out).cell
              rw [← uptoWW_succ] at hJ3
              have HJ3 := Lib.hid hJ3
              clear hk3 hJ3
              gi_wp2
              go_roundw
              case rel => exact ⟨j + 1, by have := HI.out; omega, by rw [show 8 * (j + 1) = i + 8 by have := HI.out; omega]; go_num, HJ3.out, HK3.out⟩
              case measure => simp [intOf]; omega
            · rw [← uptoWW_succ] at hJx3
              have HJ3 := Lib.hid hJx3
              clear hJx3
              gi_wp2
              refine bodyPost_ret (results_none rfl _ _ _) rfl ?_
              exact ⟨⟨_, rfl⟩, .inr ⟨_, ⟨j + 1, rfl⟩, HJ3.out⟩⟩
      · gi_wp2
        gi_loop [4, 5] (fun v k => ∃ d : Nat, d ≤ 8 ∧ i + d ≤ s.size ∧ k = .int .i64 (i + d : Nat) ∧ v = .int .u64 (leZ (((strZ s).drop i).take d))) (fun _ k => s.size - (intOf k).toNat)
        case atStart => exact ⟨0, by omega, by omega, rfl, rfl⟩
        case round =>
          obtain ⟨d, hd, hid, rfl, rfl⟩ := hrel
          by_cases hl2 : i + d < s.size ∧ d < 8
          · obtain ⟨hl2, hd8⟩ := hl2
            have hlen : (((strZ s).drop i).take d).length = d := by rw [List.length_take, List.length_drop, strZ_len]; omega
            have hor := or_step (((strZ s).drop i).take d) (((strZ_bys s).drop i).take d) (by omega) (s[i + d].toNat : Int) (by omega) (by have := s[i + d].toNat_lt; omega)
            rw [← drop_take_snoc _ _ _ _ (strZ_get s (i + d) hl2), hlen] at hor
            have HV := Lib.hid (congrArg (Value.int .u64) hor)
            clear hor hlen
            generalize leZ (((strZ s).drop i).take d) = acc at *
            gi_wp2
            go_round
            case rel => exact ⟨d + 1, by omega, by omega, by go_num, HV.out⟩
            case measure => simp [intOf]; omega
          · have hex : d = 8 := by omega
            have hw : wordZ (strZ s) j = leZ (((strZ s).drop i).take d) := by
              unfold wordZ
              rw [HI.out]
              congr 1
              rw [hex]
            obtain ⟨fn, tmps, assign, body, hy, hR⟩ := HY.out _ (wordW (strZ s) (strZ_bys s) j) wr HJ.out (by rw [uptoWW_len]; have := HI.out; omega)
            rw [show (wordW (strZ s) (strZ_bys s) j).1 = leZ (((strZ s).drop i).take d) from hw] at hy
            generalize leZ (((strZ s).drop i).take d) = acc at *
            clear hw
            have HR := Lib.hid hR
            clear hR
            gi_wp2
            refine HR.out.mono ?_
            rintro e W3 (⟨rfl, hJ3, hk3⟩ | ⟨rfl, hJx3⟩)
            · have HK3 := Lib.hid (HK.out.trans hk3)
              have hcell3 := (show Boxed W3 Bs 9 (.string s) from hk3.2.trans HB.out).cell
              rw [← uptoWW_succ] at hJ3
              have HJ3 := Lib.hid hJ3
              clear hk3 hJ3
              gi_wp2
              go_roundw
              case rel => exact ⟨j + 1, by have := HI.out; omega, by rw [show 8 * (j + 1) = i + 8 by have := HI.out; omega]; go_num, HJ3.out, HK3.out⟩
              case measure => simp [intOf]; omega
            · rw [← uptoWW_succ] at hJx3
              have HJ3 := Lib.hid hJx3
              clear hJx3
              gi_wp2
              refine bodyPost_ret (results_none rfl _ _ _) rfl ?_
              exact ⟨⟨_, rfl⟩, .inr ⟨_, ⟨j + 1, rfl⟩, HJ3.out⟩⟩
    · have hj2 : j = (s.size + 7) / 8 := by have := HI.out; omega
      gi_wp2
      go_end0
      exact ⟨⟨_, rfl⟩, .inl ⟨_, by rw [hj2], HJ.out⟩⟩

theorem wordsS_stops (n : Nat) (hn : 1 ≤ n) (Bs n₁ : Nat) (s : ByteArray) (hs : s.size ≤ 1000000) (w : World) (hB : Boxed w Bs 9 (.string s)) :
    SeqStopsK Fence.wide n Try.prog 51 #[.pointer (some ⟨Bs, 0, none⟩)] (fun x : W64 => #[Value.int .u64 x.1]) (KeepB Bs n₁) (fun ys => ys = uptoWW (strZ s) (strZ_bys s) ((s.size + 7) / 8)) (fun _ => True) ((s.size + 7) / 8) w := by
  intro l J Jx W hW _ _ hY h0
  refine (wordsS1_in Fence.wide n trivial rfl hn l Bs n₁ s hs J Jx hY W ((hW.block Bs hB.lt).trans hB) h0).mono ?_
  rintro e W' ⟨he, ⟨ys, rfl, hj⟩ | ⟨pre, _, hj⟩⟩
  · exact ⟨he, .inl ⟨_, rfl, hj⟩⟩
  · exact ⟨he, .inr ⟨_, trivial, hj⟩⟩
theorem wordsS_in (n : Nat) (s : ByteArray) (w : World) :
    CallsIn Fence.wide n Try.prog 49 #[.string s] w fun e w' => e = .returned (.func (.func 51) #[] #[.pointer (some ⟨w.heap.size, 0, none⟩)]) ∧ w' = w.alloc (.cells #[.string s] 9) := by
  refine callsIn_of_wp Try.func49 rfl trivial ?_ rfl
  simp only [Try.ntmps49, List.size_toArray, List.length_cons, List.length_nil, Nat.reduceAdd, Nat.reduceSub, Array.replicate_succ, Array.replicate_zero, List.push_toArray, List.append_toArray, List.nil_append, List.cons_append]
  gi_wp2
  go_ret
  exact ⟨rfl, rfl⟩
end Go.Proofs.Ytcgnihgebifcjaa
