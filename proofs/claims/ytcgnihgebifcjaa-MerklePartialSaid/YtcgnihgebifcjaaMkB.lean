/- Nodes of a tree; contracts: the reference's Size, Height, leaf, Node, Root. -/
import Derived.Test.YtcgnihgebifcjaaMkA
namespace Go.Proofs.Ytcgnihgebifcjaa
open Go Go.RowKit Go.BigFrame

def leafC (cells : List Int) (i : Nat) : Int := leafZ cells.length i (cells.getD i 0)
/-- the hash of node k on level l -/
def nodeZ (cells : List Int) : Nat → Nat → Int
  | 0, k => leafC cells k
  | l + 1, k => pairZ (nodeZ cells l (2 * k)) (nodeZ cells l (2 * k + 1))
theorem nodeZ_u64 (cells : List Int) (l k : Nat) : U64 (nodeZ cells l k) := by
  cases l with
  | zero => exact leafZ_u64 _ _ _
  | succ l => exact pairZ_u64 _ _
/-- integers of a machine -/
def I64s (l : List Int) : Prop := ∀ z ∈ l, -9223372036854775808 ≤ z ∧ z ≤ 9223372036854775807
def P2 (h : Nat) : Nat := 2 ^ h
theorem P2_succ (h : Nat) : P2 (h + 1) = 2 * P2 h := by unfold P2; rw [Nat.pow_succ, Nat.mul_comm]
theorem P2_pos (h : Nat) : 0 < P2 h := Nat.pow_pos (by decide)
theorem P2_le {h k : Nat} (hk : h ≤ k) : P2 h ≤ P2 k := two_pow_le hk
theorem P2_17 {h : Nat} (hh : h ≤ 17) : P2 h ≤ 131072 := Nat.le_trans (P2_le hh) (by decide)
theorem P2_lt17 {h n : Nat} (h1 : P2 h < n) (hn : n ≤ 100000) : h ≤ 16 := by
  rcases Nat.lt_or_ge 16 h with h2 | h2
  · have h3 := P2_le (show 17 ≤ h by omega)
    have e : P2 17 = 131072 := by decide
    omega
  · exact h2
theorem hgt_P2 (n : Nat) (hn : n ≤ 100000) : n ≤ P2 (hgt n) := hgt_le n hn
set_option maxRecDepth 100000 in
set_option maxHeartbeats 1000000 in
theorem rSize_any (n : Nat) (w : World) (hn : n ≤ 100000) : Calls Try.prog 33 #[.int .i64 n] w fun e w' => e = .returned (.int .i64 (P2 (hgt n))) ∧ w' = w := by
  go_enter Try.func33, Try.ntmps33
  go_wp2_with (fail)
  go_loopw [3] (fun v wr => ∃ h f : Nat, v = .int .i64 (P2 h) ∧ h ≤ 17 ∧ hUp n f h = hgt n ∧ 40 ≤ f + h ∧ wr = w) (fun v _ => 131073 - (intOf v).toNat)
  case atStart => exact ⟨0, 40, rfl, by omega, rfl, by omega, rfl⟩
  case round =>
    obtain ⟨h, f, rfl, h17, hu, hf, rfl⟩ := hrel
    have HU := Lib.hid hu
    clear hu
    have hp := P2_17 h17
    have hp0 := P2_pos h
    by_cases h1 : P2 h < n
    · have h16 := P2_lt17 h1 hn
      have HS := Lib.hid (show hUp n (f - 1) (h + 1) = hgt n by rw [← hUp_step h1, show f - 1 + 1 = f by omega]; exact HU.out)
      have HP := Lib.hid (P2_succ h)
      generalize P2 h = p at *
      have h1i : (p : Int) < n := by omega
      go_wp2
      go_roundw
      case rel => exact ⟨h + 1, f - 1, by rw [HP.out]; go_num, by omega, HS.out, by omega, by trivial⟩
      case measure => simp [intOf]; omega
    · have HE := Lib.hid (hUp_end h1 (f := f))
      have HEE := Lib.hid (show hgt n = h from HU.out.symm.trans HE.out)
      generalize hpp : P2 h = p at *
      have HPP := Lib.hid hpp
      clear hpp
      have h1i : ¬ (p : Int) < n := by omega
      go_wp2
      go_ret
      exact ⟨by rw [HEE.out, HPP.out]; rfl, rfl⟩
set_option maxRecDepth 100000 in
set_option maxHeartbeats 1000000 in
theorem rHeight_any (n : Nat) (w : World) (hn : n ≤ 100000) : Calls Try.prog 24 #[.int .i64 n] w fun e w' => e = .returned (.int .i64 (hgt n : Nat)) ∧ w' = w := by
  have h17 := hgt_17 n hn
  go_enter Try.func24, Try.ntmps24
  go_wp2_with (fail)
  refine (rSize_any n w hn).mono ?_
  rintro e w1 ⟨rfl, rfl⟩
  generalize hH : hgt n = H at *
  have HH := Lib.hid hH
  clear hH
  go_wp2_with (fail)
  go_loopw [3, 4] (fun c v wr => ∃ j : Nat, j ≤ H ∧ c = .int .i64 j ∧ v = .int .i64 (P2 (H - j)) ∧ wr = w1) (fun c _ _ => H - (intOf c).toNat)
  case atStart => exact ⟨0, by omega, rfl, rfl, rfl⟩
  case round =>
    obtain ⟨j, hj, rfl, rfl, rfl⟩ := hrel
    by_cases h1 : j < H
    · have hs := P2_succ (H - (j + 1))
      rw [show H - (j + 1) + 1 = H - j by omega] at hs
      have hp := P2_17 (show H - j ≤ 17 by omega)
      have hp0 := P2_pos (H - (j + 1))
      have HP := Lib.hid (show ∃ p, p = P2 (H - (j + 1)) from ⟨_, rfl⟩)
      obtain ⟨p, hpe⟩ := HP.out
      rw [← hpe] at hs hp0
      rw [hs] at hp ⊢
      have HPE := Lib.hid hpe
      clear hs hpe
      have h1i : (1 : Int) < ((2 * p : Nat) : Int) := by omega
      have hq0 : (0 : Int) ≤ ((2 * p : Nat) : Int) := by omega
      have hq1 : ((2 * p : Nat) : Int) / 2 = p := by omega
      generalize 2 * p = q at *
      go_wp2
      go_roundw
      case rel => exact ⟨j + 1, by omega, by go_num, by rw [← HPE.out], by trivial⟩
      case measure => simp [intOf]; omega
    · have e1 : j = H := by omega
      subst e1
      rw [show P2 (j - j) = 1 by rw [Nat.sub_self]; rfl]
      go_wp2
      go_ret
      exact ⟨by rw [HH.out]; rfl, rfl⟩
set_option maxRecDepth 100000 in
set_option maxHeartbeats 1000000 in
theorem rLeaf_any (a : Option Addr) (n cap : Nat) (cells : List Int) (i : Nat) (w : World) (hs : Sl w 1 a n cap (cells.map (Value.int .i64))) (hc : I64s cells) (hi : i ≤ 1000000) :
    Calls Try.prog 45 #[.slice a n cap, .int .i64 i] w fun e w' => e = .returned (.int .u64 (leafC cells i)) ∧ Q w w' := by
  have hlen : cells.length = n := by have := hs.1; simpa using this
  have hcap := hs.2.1
  have hmax := hs.2.2.1
  unfold maxLen at hmax
  by_cases h : n ≤ i
  · have HE := Lib.hid (show leafC cells i = sumZ (strZ emptyS) [] from if_pos (by rw [hlen]; exact h))
    have hle : (n : Int) ≤ (i : Int) := by omega
    clear hs hlen
    go_enter Try.func45, Try.ntmps45
    go_wp2_with (fail)
    refine (rSum_any emptyS none 0 0 [] w (by decide) (by omega) (by unfold Sl maxLen; simp) (fun z hz => by cases hz)).mono ?_
    rintro e w' ⟨rfl, hq⟩
    have HQ := Lib.hid hq
    clear hq
    go_wp2
    go_ret
    exact ⟨by rw [HE.out]; rfl, HQ.out⟩
  · obtain ⟨g, o, rfl, hg, hcs⟩ := hs.pos (by omega)
    obtain ⟨v, hv⟩ : ∃ v, cells[i]? = some v := ⟨cells[i]'(by omega), by simp⟩
    have hvr := hc v (List.mem_of_getElem? hv)
    have c0 := hcs i (.int .i64 v) (by rw [List.getElem?_map, hv]; rfl)
    have HE := Lib.hid (show leafC cells i = sumZ (strZ leafS) [(i : Int), v] by
      unfold leafC leafZ
      rw [if_neg (by rw [hlen]; exact h), List.getD_eq_getElem?_getD, hv]
      rfl)
    have hle : ¬ (n : Int) ≤ (i : Int) := by omega
    have HR := Lib.hid (show ∀ z ∈ [(i : Int), v], -9223372036854775808 ≤ z ∧ z ≤ 9223372036854775807 from fun z hz => by
      rcases List.mem_cons.1 hz with rfl | hz
      · omega
      · rw [List.mem_singleton.1 hz]; exact hvr)
    clear hs hlen hcs hv hvr
    go_enter Try.func45, Try.ntmps45
    go_wp2_with (fail)
    refine (rSum_any leafS (some ⟨w.heap.size, 0, none⟩) 2 2 [(i : Int), v] _ (by decide) (by omega) (sl_two w i v 3) HR.out).mono ?_
    rintro e w' ⟨rfl, hq⟩
    have HQ := Lib.hid (((Q.refl w).alloc (.cells #[.int .i64 i, .int .i64 v] 3)).trans hq)
    clear hq
    go_wp2
    go_ret
    exact ⟨by rw [HE.out]; rfl, HQ.out⟩
set_option maxRecDepth 100000 in
set_option maxHeartbeats 1000000 in
theorem rNode_any (a : Option Addr) (n cap : Nat) (cells : List Int) (hc : I64s cells) : ∀ (l k fr to : Nat) (w : World) (_ : Sl w 1 a n cap (cells.map (Value.int .i64))) (_ : fr = k * P2 l) (_ : to = fr + P2 l) (_ : to ≤ 500000),
    Calls Try.prog 34 #[.slice a n cap, .int .i64 fr, .int .i64 to] w fun e w' => e = .returned (.int .u64 (nodeZ cells l k)) ∧ Q w w' := by
  intro l
  induction l with
  | zero =>
    intro k fr to w hs hf ht hb
    have h1 : P2 0 = 1 := rfl
    rw [h1] at hf ht
    have hfk : fr = k := by omega
    have hfb : fr ≤ 500000 := by omega
    obtain ⟨N0, hN0⟩ : ∃ x, x = nodeZ cells 0 k := ⟨_, rfl⟩
    rw [← hN0]
    have HN0 := Lib.hid hN0
    clear hN0
    have HS := Lib.hid hs
    have HK := Lib.hid hfk
    have hb1 : ((to : Int) - (fr : Int) == 1) = true := by simp; omega
    clear hs hf ht hfk
    go_enter Try.func34, Try.ntmps34
    go_wp2_with (fail)
    refine (rLeaf_any a n cap cells fr w HS.out hc (by omega)).mono ?_
    rintro e w' ⟨rfl, hq⟩
    have HQ := Lib.hid hq
    clear hq
    go_wp2
    go_ret
    exact ⟨by rw [HN0.out, show nodeZ cells 0 k = leafC cells k from rfl, HK.out]; rfl, HQ.out⟩
  | succ l ih =>
    intro k fr to w hs hf ht hb
    have hp := P2_succ l
    have hp0 := P2_pos l
    have IH := Lib.hid ih
    obtain ⟨N0, hN0⟩ : ∃ x, x = nodeZ cells (l + 1) k := ⟨_, rfl⟩
    rw [← hN0]
    have HN0 := Lib.hid hN0
    clear hN0
    have HS := Lib.hid hs
    have HF1 := Lib.hid (show fr = 2 * k * P2 l by rw [hf, hp, ← Nat.mul_assoc, Nat.mul_comm k 2])
    have HF2 := Lib.hid (show fr + P2 l = (2 * k + 1) * P2 l by rw [HF1.out, Nat.add_mul, Nat.one_mul])
    rw [hp] at ht
    clear hs hf hp ih
    have HPE := Lib.hid (show ∃ p, p = P2 l from ⟨_, rfl⟩)
    obtain ⟨p, hpe⟩ := HPE.out
    rw [← hpe] at ht hp0
    have HE := Lib.hid hpe
    clear hpe
    have hb1 : ((to : Int) - (fr : Int) == 1) = false := by simp; omega
    have hm0 : (0 : Int) ≤ (fr : Int) + (to : Int) := by omega
    obtain ⟨m, hmm⟩ : ∃ m, m = fr + p := ⟨_, rfl⟩
    have hm : ((fr : Int) + (to : Int)) / 2 = (m : Int) := by omega
    have hmt : m ≤ to := by omega
    have hfm : fr ≤ m := by omega
    have HM := Lib.hid hmm
    clear hmm
    have HT := Lib.hid ht
    clear ht
    go_enter Try.func34, Try.ntmps34
    go_wp2_with (fail)
    refine (IH.out (2 * k) fr m w HS.out HF1.out (by rw [HM.out, HE.out]) (by omega)).mono ?_
    rintro e w1 ⟨rfl, hq1⟩
    have HQ1 := Lib.hid hq1
    clear hq1
    go_wp2_with (fail)
    refine (IH.out (2 * k + 1) m to w1 (HS.out.q HQ1.out) (by rw [HM.out, HE.out]; exact HF2.out) (by have h1 := HT.out; have h2 := HM.out; rw [HE.out] at h1 h2; omega) (by omega)).mono ?_
    rintro e w2 ⟨rfl, hq2⟩
    have HQ2 := Lib.hid (HQ1.out.trans hq2)
    clear hq2
    have HNE := Lib.hid (show nodeZ cells (l + 1) k = pairZ (nodeZ cells l (2 * k)) (nodeZ cells l (2 * k + 1)) from rfl)
    generalize nodeZ cells l (2 * k) = x at *
    generalize nodeZ cells l (2 * k + 1) = y at *
    go_wp2_with (fail)
    refine (rPair_any x y w2).mono ?_
    rintro e w3 ⟨rfl, hq3⟩
    have HQ3 := Lib.hid (HQ2.out.trans hq3)
    clear hq3
    go_wp2
    go_ret
    exact ⟨by rw [HN0.out, HNE.out]; rfl, HQ3.out⟩
def rootZ (cells : List Int) : Int := nodeZ cells (hgt cells.length) 0
theorem rootZ_u64 (cells : List Int) : U64 (rootZ cells) := nodeZ_u64 _ _ _
set_option maxRecDepth 100000 in
set_option maxHeartbeats 1000000 in
theorem rRoot_any (a : Option Addr) (n cap : Nat) (cells : List Int) (w : World) (hs : Sl w 1 a n cap (cells.map (Value.int .i64))) (hc : I64s cells) (hn : n ≤ 100000) :
    Calls Try.prog 15 #[.slice a n cap] w fun e w' => e = .returned (.int .u64 (rootZ cells)) ∧ Q w w' := by
  have hlen : cells.length = n := by have := hs.1; simpa using this
  have HS := Lib.hid hs
  have HR := Lib.hid (show rootZ cells = nodeZ cells (hgt n) 0 by unfold rootZ; rw [hlen])
  have hp := P2_17 (hgt_17 n hn)
  clear hs hlen
  go_enter Try.func15, Try.ntmps15
  go_wp2_with (fail)
  refine (rSize_any n w hn).mono ?_
  rintro e w1 ⟨rfl, rfl⟩
  go_wp2_with (fail)
  refine (rNode_any a n cap cells hc (hgt n) 0 0 (P2 (hgt n)) w1 HS.out (by omega) (by omega) (by omega)).mono ?_
  rintro e w2 ⟨rfl, hq2⟩
  have HQ2 := Lib.hid hq2
  clear hq2
  rw [← HR.out]
  go_wp2
  go_ret
  exact ⟨rfl, HQ2.out⟩
end Go.Proofs.Ytcgnihgebifcjaa
