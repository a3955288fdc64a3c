/- The iterator over the words of a slice of bytes. -/
import Derived.Test.YtfkbdiheccnohaaWordsS
import Derived.Test.YtfkbdiheccnohaaSlices
namespace Go.Proofs.Ytfkbdiheccnohaa
open Go Go.RowKit Go.Shelf
attribute [local go_sem] Oper.semAt_some

set_option maxRecDepth 100000 in
set_option maxHeartbeats 2000000 in
theorem wordsB1_some (F : Fence) (n : Nat) (hF : F.fn 38) (hro : F.round = none) (hn : 1 ≤ n) (l Bs n₁ : Nat) (g o len cap : Nat) (bs : List Int) (hbb : Bys bs) (hlen0 : bs.length = len) (hs : len ≤ 1000000) (hgn : g < n₁) (J Jx : List W64 → World → Prop)
    (hY : ∀ pre x W, J pre W → pre.length < (len + 7) / 8 → YieldAt F (n - 1) Try.prog l #[.int .u64 x.1] W fun e W' =>
      (e = .returned (.bool true) ∧ J (pre ++ [x]) W' ∧ KeepB Bs n₁ W W') ∨ (e = .returned (.bool false) ∧ Jx (pre ++ [x]) W'))
    (W : World) (hc : Boxed W Bs 27 (.slice (some ⟨g, o, none⟩) len cap)) (hcs : ∀ (j : Nat) b, bs[j]? = some b → W.cell? ⟨g, o + j, none⟩ = some (.int .u8 b)) (h0 : J [] W) :
    CallsIn F n Try.prog 38 #[.func (.yield l) #[] #[], .pointer (some ⟨Bs, 0, none⟩)] W fun e W' => (∃ v, e = .returned v) ∧
      ((∃ ys, ys = uptoWW bs hbb ((len + 7) / 8) ∧ J ys W') ∨ (∃ pre, (∃ k, pre = uptoWW bs hbb k) ∧ Jx pre W')) := by
  have HY := Lib.hid hY
  have HCS := Lib.hid hcs
  clear hcs
  clear hY
  refine callsIn_of_wp Try.func38 rfl hF ?_ hro
  simp only [Try.ntmps38, List.size_toArray, List.length_cons, List.length_nil, Nat.reduceAdd, Nat.reduceSub, Array.replicate_succ, Array.replicate_zero, List.push_toArray, List.append_toArray, List.nil_append, List.cons_append]
  gi_wp2
  gi_loopw [3] (fun i wr => ∃ j : Nat, 8 * j ≤ len + 7 ∧ i = .int .i64 (8 * j : Nat) ∧ J (uptoWW bs hbb j) wr ∧ KeepB Bs n₁ W wr)
    (fun i _ => len + 8 - (intOf i).toNat)
  case atStart => exact ⟨0, by omega, rfl, h0, KeepB.refl _ _ _⟩
  case round =>
    obtain ⟨j, hj, rfl, hJ, hk⟩ := hrel
    have hbx : Boxed wr Bs 27 (.slice (some ⟨g, o, none⟩) len cap) := hk.2.trans hc
    have hcell := hbx.cell
    have HK := Lib.hid hk
    have HJ := Lib.hid hJ
    have HB := Lib.hid hbx
    clear hk hJ hbx
    generalize hi : 8 * j = i at *
    have HI := Lib.hid hi
    clear hi
    by_cases hlt : i < len
    · by_cases hm : len < i + 8
      · gi_wp2
        gi_loop [4, 5] (fun v k => ∃ d : Nat, d ≤ 8 ∧ i + d ≤ len ∧ k = .int .i64 (i + d : Nat) ∧ v = .int .u64 (leZ ((bs.drop i).take d))) (fun _ k => len - (intOf k).toNat)
        case atStart => exact ⟨0, by omega, by omega, rfl, rfl⟩
        case round =>
          obtain ⟨d, hd, hid, rfl, rfl⟩ := hrel
          by_cases hl2 : i + d < len ∧ d < 8
          · obtain ⟨hl2, hd8⟩ := hl2
            obtain ⟨x, hgx⟩ : ∃ x, bs[i + d]? = some x := ⟨_, List.getElem?_eq_getElem (by rw [hlen0]; exact hl2)⟩
            obtain ⟨hx0, hx1⟩ := hbb x (List.mem_of_getElem? hgx)
            have hcx : wr.cell? ⟨g, o + (i + d), none⟩ = some (.int .u8 x) := (Below.cell (p := ⟨g, o + (i + d), none⟩) HK.out.1 hgn).trans (HCS.out _ _ hgx)
            have hlen : ((bs.drop i).take d).length = d := by rw [List.length_take, List.length_drop, hlen0]; omega
            have hor := or_step' ((bs.drop i).take d) ((hbb.drop i).take d) (by omega) x hx0 hx1
            rw [← drop_take_snoc _ _ _ _ hgx, hlen] at hor
            have HV := Lib.hid (congrArg (Value.int .u64) hor)
            clear hor hlen hgx
            generalize leZ ((bs.drop i).take d) = acc at *
            gi_wp2
            go_round
            case rel => exact ⟨d + 1, by omega, by omega, by go_num, HV.out⟩
            case measure => simp [intOf]; omega
          · have hex : i + d = len := by omega
            have hw : wordZ bs j = leZ ((bs.drop i).take d) := by
              unfold wordZ
              rw [HI.out]
              congr 1
              rw [List.take_of_length_le (by rw [List.length_drop, hlen0]; omega), List.take_of_length_le (by rw [List.length_drop, hlen0]; omega)]
            obtain ⟨fn, tmps, assign, body, hy, hR⟩ := HY.out _ (wordW bs hbb j) wr HJ.out (by rw [uptoWW_len]; have := HI.out; omega)
            rw [show (wordW bs hbb j).1 = leZ ((bs.drop i).take d) from hw] at hy
            generalize leZ ((bs.drop i).take d) = acc at *
            clear hw
            have HR := Lib.hid hR
            clear hR
            gi_wp2
            refine HR.out.mono ?_
            rintro e W3 (⟨rfl, hJ3, hk3⟩ | ⟨rfl, hJx3⟩)
            · have HK3 := Lib.hid (HK.out.trans hk3)
              have hcell3 := (show Boxed W3 Bs 27 (.slice (some ⟨g, o, none⟩) len cap) from hk3.2.trans HB.out).cell
              rw [← uptoWW_succ] at hJ3
              have HJ3 := Lib.hid hJ3
              clear hk3 hJ3
              gi_wp2
              go_roundw
              case rel => exact ⟨j + 1, by have := HI.out; omega, by rw [show 8 * (j + 1) = i + 8 by have := HI.out; omega]; go_num, HJ3.out, HK3.out⟩
              case measure => simp [intOf]; omega
            · rw [← uptoWW_succ] at hJx3
              have HJ3 := Lib.hid hJx3
              clear hJx3
              gi_wp2
              refine bodyPost_ret (results_none rfl _ _ _) rfl ?_
              exact ⟨⟨_, rfl⟩, .inr ⟨_, ⟨j + 1, rfl⟩, HJ3.out⟩⟩
      · gi_wp2
        gi_loop [4, 5] (fun v k => ∃ d : Nat, d ≤ 8 ∧ i + d ≤ len ∧ k = .int .i64 (i + d : Nat) ∧ v = .int .u64 (leZ ((bs.drop i).take d))) (fun _ k => len - (intOf k).toNat)
        case atStart => exact ⟨0, by omega, by omega, rfl, rfl⟩
        case round =>
          obtain ⟨d, hd, hid, rfl, rfl⟩ := hrel
          by_cases hl2 : i + d < len ∧ d < 8
          · obtain ⟨hl2, hd8⟩ := hl2
            obtain ⟨x, hgx⟩ : ∃ x, bs[i + d]? = some x := ⟨_, List.getElem?_eq_getElem (by rw [hlen0]; exact hl2)⟩
            obtain ⟨hx0, hx1⟩ := hbb x (List.mem_of_getElem? hgx)
            have hcx : wr.cell? ⟨g, o + (i + d), none⟩ = some (.int .u8 x) := (Below.cell (p := ⟨g, o + (i + d), none⟩) HK.out.1 hgn).trans (HCS.out _ _ hgx)
            have hlen : ((bs.drop i).take d).length = d := by rw [List.length_take, List.length_drop, hlen0]; omega
            have hor := or_step' ((bs.drop i).take d) ((hbb.drop i).take d) (by omega) x hx0 hx1
            rw [← drop_take_snoc _ _ _ _ hgx, hlen] at hor
            have HV := Lib.hid (congrArg (Value.int .u64) hor)
            clear hor hlen hgx
            generalize leZ ((bs.drop i).take d) = acc at *
            gi_wp2
            go_round
            case rel => exact ⟨d + 1, by omega, by omega, by go_num, HV.out⟩
            case measure => simp [intOf]; omega
          · have hex : d = 8 := by omega
            have hw : wordZ bs j = leZ ((bs.drop i).take d) := by
              unfold wordZ
              rw [HI.out]
              congr 1
              rw [hex]
            obtain ⟨fn, tmps, assign, body, hy, hR⟩ := HY.out _ (wordW bs hbb j) wr HJ.out (by rw [uptoWW_len]; have := HI.out; omega)
            rw [show (wordW bs hbb j).1 = leZ ((bs.drop i).take d) from hw] at hy
            generalize leZ ((bs.drop i).take d) = acc at *
            clear hw
            have HR := Lib.hid hR
            clear hR
            gi_wp2
            refine HR.out.mono ?_
            rintro e W3 (⟨rfl, hJ3, hk3⟩ | ⟨rfl, hJx3⟩)
            · have HK3 := Lib.hid (HK.out.trans hk3)
              have hcell3 := (show Boxed W3 Bs 27 (.slice (some ⟨g, o, none⟩) len cap) from hk3.2.trans HB.out).cell
              rw [← uptoWW_succ] at hJ3
              have HJ3 := Lib.hid hJ3
              clear hk3 hJ3
              gi_wp2
              go_roundw
              case rel => exact ⟨j + 1, by have := HI.out; omega, by rw [show 8 * (j + 1) = i + 8 by have := HI.out; omega]; go_num, HJ3.out, HK3.out⟩
              case measure => simp [intOf]; omega
            · rw [← uptoWW_succ] at hJx3
              have HJ3 := Lib.hid hJx3
              clear hJx3
              gi_wp2
              refine bodyPost_ret (results_none rfl _ _ _) rfl ?_
              exact ⟨⟨_, rfl⟩, .inr ⟨_, ⟨j + 1, rfl⟩, HJ3.out⟩⟩
    · have hj2 : j = (len + 7) / 8 := by have := HI.out; omega
      gi_wp2
      go_end0
      exact ⟨⟨_, rfl⟩, .inl ⟨_, by rw [hj2], HJ.out⟩⟩

set_option maxRecDepth 100000 in
set_option maxHeartbeats 1000000 in
theorem wordsB1_nil (F : Fence) (n : Nat) (hF : F.fn 38) (hro : F.round = none) (l Bs : Nat) (a : Option Addr) (cap : Nat) (J : List W64 → World → Prop)
    (W : World) (hc : Boxed W Bs 27 (.slice a 0 cap)) (h0 : J [] W) :
    CallsIn F n Try.prog 38 #[.func (.yield l) #[] #[], .pointer (some ⟨Bs, 0, none⟩)] W fun e W' => (∃ v, e = .returned v) ∧ J [] W' := by
  refine callsIn_of_wp Try.func38 rfl hF ?_ hro
  simp only [Try.ntmps38, List.size_toArray, List.length_cons, List.length_nil, Nat.reduceAdd, Nat.reduceSub, Array.replicate_succ, Array.replicate_zero, List.push_toArray, List.append_toArray, List.nil_append, List.cons_append]
  have hcell := hc.cell
  gi_wp2
  gi_loopw [3] (fun i wr => i = .int .i64 0 ∧ wr = W) (fun _ _ => 0)
  case atStart => exact ⟨rfl, rfl⟩
  case round =>
    obtain ⟨rfl, rfl⟩ := hrel
    gi_wp2
    go_end0
    exact ⟨⟨_, rfl⟩, h0⟩

/-- an iterator's value: the words of a slice of bytes -/
theorem wordsB_stops (n : Nat) (hn : 1 ≤ n) (Bs n₁ : Nat) (a : Option Addr) (len cap : Nat) (bs : List Int) (hbb : Bys bs) (hs : len ≤ 1000000) (w0 w : World) (hB : Boxed w Bs 27 (.slice a len cap)) (hsl : Sl w0 1 a len cap (bs.map (Value.int .u8))) (hn₁ : n₁ = w0.heap.size) (hq : Q w0 w) :
    SeqStopsK Fence.wide n Try.prog 38 #[.pointer (some ⟨Bs, 0, none⟩)] (fun x : W64 => #[Value.int .u64 x.1]) (KeepB Bs n₁) (fun ys => ys = uptoWW bs hbb ((len + 7) / 8)) (fun _ => True) ((len + 7) / 8) w := by
  intro l J Jx W hW _ _ hY h0
  have hlen : bs.length = len := by have := hsl.1; simpa using this
  have hc' : Boxed W Bs 27 (.slice a len cap) := (hW.block Bs hB.lt).trans hB
  by_cases h : len = 0
  · subst h
    refine (wordsB1_nil Fence.wide n trivial rfl l Bs a cap J W hc' h0).mono ?_
    rintro e W' ⟨he, hj⟩
    exact ⟨he, .inl ⟨_, rfl, hj⟩⟩
  · obtain ⟨g, o, rfl, hg, hcs⟩ := hsl.pos (by omega)
    refine (wordsB1_some Fence.wide n trivial rfl hn l Bs n₁ g o len cap bs hbb hlen hs (by omega) J Jx hY W hc' (fun j b hj => ?_) h0).mono ?_
    · have h1 := hcs j (.int .u8 b) (by simp [hj])
      have h2 := (hq.cells.1 g (o + j) hg).trans h1
      exact (hW.cell (p := ⟨g, o + j, none⟩) (Nat.lt_of_lt_of_le hg hq.size)).trans h2
    · rintro e W' ⟨he, ⟨ys, rfl, hj⟩ | ⟨pre, _, hj⟩⟩
      · exact ⟨he, .inl ⟨_, rfl, hj⟩⟩
      · exact ⟨he, .inr ⟨_, trivial, hj⟩⟩
theorem wordsB_in (n : Nat) (a : Option Addr) (len cap : Nat) (w : World) :
    CallsIn Fence.wide n Try.prog 32 #[.slice a len cap] w fun e w' => e = .returned (.func (.func 38) #[] #[.pointer (some ⟨w.heap.size, 0, none⟩)]) ∧ w' = w.alloc (.cells #[.slice a len cap] 27) := by
  refine callsIn_of_wp Try.func32 rfl trivial ?_ rfl
  simp only [Try.ntmps32, List.size_toArray, List.length_cons, List.length_nil, Nat.reduceAdd, Nat.reduceSub, Array.replicate_succ, Array.replicate_zero, List.push_toArray, List.append_toArray, List.nil_append, List.cons_append]
  gi_wp2
  go_ret
  exact ⟨rfl, rfl⟩
end Go.Proofs.Ytfkbdiheccnohaa
