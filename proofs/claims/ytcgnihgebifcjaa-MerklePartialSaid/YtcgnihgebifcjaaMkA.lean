/- Hashes of leaves and nodes; contracts: leafHash, height, join; the reference's Size, Height, leaf. -/
import Derived.Test.YtcgnihgebifcjaaLift
import Derived.Test.YtcgnihgebifcjaaRSum
namespace Go.Proofs.Ytcgnihgebifcjaa
open Go Go.RowKit Go.BigFrame

def leafS : ByteArray := ⟨#[108, 101, 97, 102]⟩
def emptyS : ByteArray := ⟨#[101, 109, 112, 116, 121]⟩
/-- the hash of leaf i of a tree over n cells -/
def leafZ (n i : Nat) (v : Int) : Int := if n ≤ i then sumZ (strZ emptyS) [] else sumZ (strZ leafS) [(i : Int), v]
theorem leafZ_u64 (n i : Nat) (v : Int) : U64 (leafZ n i v) := by unfold leafZ; split <;> exact sumZ_u64 _ _
def joinZ (i : Nat) (h s : Int) : Int := if i % 2 = 1 then pairZ s h else pairZ h s
theorem pairZ_u64 (x y : Int) : U64 (pairZ x y) := sumZ_u64 _ _
theorem joinZ_u64 (i : Nat) (h s : Int) : U64 (joinZ i h s) := by unfold joinZ; split <;> exact pairZ_u64 _ _
/-- the least h with n ≤ 2 ^ h -/
def hUp (n : Nat) : Nat → Nat → Nat
  | 0, h => h
  | f + 1, h => if 2 ^ h < n then hUp n f (h + 1) else h
def hgt (n : Nat) : Nat := hUp n 40 0
theorem hUp_spec (n : Nat) : ∀ f h, n ≤ 2 ^ (f + h) → (∀ j, j < h → 2 ^ j < n) → n ≤ 2 ^ hUp n f h ∧ ∀ j, j < hUp n f h → 2 ^ j < n
  | 0, h, hn, hj => by rw [Nat.zero_add] at hn; exact ⟨hn, hj⟩
  | f + 1, h, hn, hj => by
    unfold hUp
    by_cases h1 : 2 ^ h < n
    · rw [if_pos h1]
      refine hUp_spec n f (h + 1) (by rw [show f + (h + 1) = f + 1 + h by omega]; exact hn) (fun j hlt => ?_)
      rcases Nat.lt_or_ge j h with h2 | h2
      · exact hj j h2
      · rw [show j = h by omega]; exact h1
    · rw [if_neg h1]
      exact ⟨by omega, hj⟩
theorem hgt_le (n : Nat) (hn : n ≤ 100000) : n ≤ 2 ^ hgt n := (hUp_spec n 40 0 (Nat.le_trans hn (by decide)) (fun j h => by omega)).1
theorem hgt_lt (n : Nat) (hn : n ≤ 100000) (j : Nat) (hj : j < hgt n) : 2 ^ j < n := (hUp_spec n 40 0 (Nat.le_trans hn (by decide)) (fun j h => by omega)).2 j hj
theorem hgt_17 (n : Nat) (hn : n ≤ 100000) : hgt n ≤ 17 := by
  rcases Nat.lt_or_ge 17 (hgt n) with h | h
  · have := hgt_lt n hn 17 h
    have e : 2 ^ 17 = 131072 := by decide
    omega
  · exact h
theorem hUp_step {n f h : Nat} (h1 : 2 ^ h < n) : hUp n (f + 1) h = hUp n f (h + 1) := by rw [hUp, if_pos h1]
theorem hUp_end {n f h : Nat} (h1 : ¬ 2 ^ h < n) : hUp n f h = h := by cases f with | zero => rfl | succ f => rw [hUp, if_neg h1]
theorem two_pow_le {h k : Nat} (hk : h ≤ k) : 2 ^ h ≤ 2 ^ k := Nat.pow_le_pow_right (by decide) hk
set_option maxRecDepth 100000 in
set_option maxHeartbeats 1000000 in
theorem mHeight_any (n : Nat) (w : World) (hn : n ≤ 100000) : Calls Try.prog 35 #[.int .i64 n] w fun e w' => e = .returned (.int .i64 (hgt n : Nat)) ∧ w' = w := by
  have HN := Lib.hid hn
  go_enter Try.func35, Try.ntmps35
  go_wp2_with (fail)
  go_loopw [3] (fun v wr => ∃ h f : Nat, v = .int .i64 h ∧ h ≤ 17 ∧ hUp n f h = hgt n ∧ 40 ≤ f + h ∧ wr = w) (fun v _ => 18 - (intOf v).toNat)
  case atStart => exact ⟨0, 40, rfl, by omega, rfl, by omega, rfl⟩
  case round =>
    obtain ⟨h, f, rfl, h17, hu, hf, rfl⟩ := hrel
    have HU := Lib.hid hu
    clear hu
    have hp17 : (2 : Int) ^ h ≤ 131072 := by
      have h1 := two_pow_le h17
      have e : 2 ^ 17 = 131072 := by decide
      have : ((2 ^ h : Nat) : Int) ≤ 131072 := by omega
      rwa [Int.natCast_pow] at this
    have hp0 : (0 : Int) < 2 ^ h := Int.pow_pos (by decide)
    have hpn : ((2 ^ h : Nat) : Int) = 2 ^ h := Int.natCast_pow 2 h
    by_cases h1 : 2 ^ h < n
    · have h1i : (2 : Int) ^ h < n := by omega
      have h16 : h ≤ 16 := by
        rcases Nat.lt_or_ge 16 h with h2 | h2
        · have h3 := two_pow_le (show 17 ≤ h by omega)
          have e : 2 ^ 17 = 131072 := by decide
          omega
        · exact h2
      have HS := Lib.hid h1
      go_wp2
      go_roundw
      case rel => exact ⟨h + 1, f - 1, by go_num, by omega, by rw [← hUp_step HS.out, show f - 1 + 1 = f by omega]; exact HU.out, by omega, by trivial⟩
      case measure => simp [intOf]; omega
    · have HE := Lib.hid (hUp_end h1 (f := f))
      have h1i : ¬ (2 : Int) ^ h < n := by omega
      go_wp2
      go_ret
      exact ⟨by rw [← HU.out, HE.out]; rfl, rfl⟩
set_option maxRecDepth 100000 in
set_option maxHeartbeats 1000000 in
theorem mLeaf_any (n i : Nat) (v : Int) (w : World) (hn : n ≤ 100000) (hi : i ≤ 1000000) (hv : -9223372036854775808 ≤ v ∧ v ≤ 9223372036854775807) : Calls Try.prog 36 #[.int .i64 i, .int .i64 n, .int .i64 v] w fun e w' => e = .returned (.int .u64 (leafZ n i v)) ∧ Q w w' := by
  by_cases h : n ≤ i
  · have HE := Lib.hid (show leafZ n i v = sumZ (strZ emptyS) [] from if_pos h)
    have hc : ¬ (i : Int) < (n : Int) := by omega
    have hle : (n : Int) ≤ (i : Int) := by omega
    go_enter Try.func36, Try.ntmps36
    go_wp2_with (fail)
    refine (sum_any emptyS none 0 0 [] w (by decide) (by omega) (by unfold Sl maxLen; simp) (fun z hz => by cases hz)).mono ?_
    rintro e w' ⟨rfl, hq⟩
    have HQ := Lib.hid hq
    clear hq
    go_wp2
    go_ret
    exact ⟨by rw [HE.out]; rfl, HQ.out⟩
  · have HE := Lib.hid (show leafZ n i v = sumZ (strZ leafS) [(i : Int), v] from if_neg h)
    have hle : ¬ (n : Int) ≤ (i : Int) := by omega
    have HR := Lib.hid (show ∀ z ∈ [(i : Int), v], -9223372036854775808 ≤ z ∧ z ≤ 9223372036854775807 from fun z hz => by
      rcases List.mem_cons.1 hz with rfl | hz
      · omega
      · rw [List.mem_singleton.1 hz]; exact hv)
    go_enter Try.func36, Try.ntmps36
    go_wp2_with (fail)
    refine (sum_any leafS (some ⟨w.heap.size, 0, none⟩) 2 2 [(i : Int), v] _ (by decide) (by omega) (sl_two w i v 3) HR.out).mono ?_
    rintro e w' ⟨rfl, hq⟩
    have HQ := Lib.hid (((Q.refl w).alloc (.cells #[.int .i64 i, .int .i64 v] 3)).trans hq)
    clear hq
    go_wp2
    go_ret
    exact ⟨by rw [HE.out]; rfl, HQ.out⟩
set_option maxRecDepth 100000 in
set_option maxHeartbeats 1000000 in
theorem mJoin_any (i : Nat) (h s : Int) (w : World) (hi : i ≤ 1000000) : Calls Try.prog 38 #[.int .i64 i, .int .u64 h, .int .u64 s] w fun e w' => e = .returned (.int .u64 (joinZ i h s)) ∧ Q w w' := by
  have hi0 : (0 : Int) ≤ i := by omega
  by_cases hp : i % 2 = 1
  · have HE := Lib.hid (show joinZ i h s = pairZ s h from if_pos hp)
    have hb : ((i : Int) % 2 == 1) = true := by simp; omega
    clear hp
    go_enter Try.func38, Try.ntmps38
    go_wp2_with (fail)
    refine (hPair_any s h w).mono ?_
    rintro e w' ⟨rfl, hq⟩
    have HQ := Lib.hid hq
    clear hq
    go_wp2
    go_ret
    exact ⟨by rw [HE.out]; rfl, HQ.out⟩
  · have HE := Lib.hid (show joinZ i h s = pairZ h s from if_neg hp)
    have hb : ((i : Int) % 2 == 1) = false := by simp; omega
    clear hp
    go_enter Try.func38, Try.ntmps38
    go_wp2_with (fail)
    refine (hPair_any h s w).mono ?_
    rintro e w' ⟨rfl, hq⟩
    have HQ := Lib.hid hq
    clear hq
    go_wp2
    go_ret
    exact ⟨by rw [HE.out]; rfl, HQ.out⟩
end Go.Proofs.Ytcgnihgebifcjaa
