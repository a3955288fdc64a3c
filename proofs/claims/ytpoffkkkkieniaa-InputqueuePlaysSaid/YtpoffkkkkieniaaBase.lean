/- Small contracts of the input layer and of the references' helpers. -/
import Derived.Test.YtpoffkkkkieniaaChecked
import Derived.WalkKit
import Derived.WalkLawsBesides
import Derived.WalkSpells
import Derived.WalkSmall
import Derived.Handy
import Derived.Lib.Hide
import Derived.BigQuiet
import Derived.Deep.QuietTactic
import Derived.StillTailTactics
namespace Go.Proofs.Ytpoffkkkkieniaa
open Go Go.RowKit

/-- nothing that lay in w has turned in w' -/
def Q (w w' : World) : Prop := Below w.heap.size w w'
theorem Q.refl (w : World) : Q w w := Below.refl _ _
theorem Q.size {w w' : World} (h : Q w w') : w.heap.size ≤ w'.heap.size := Below.size h
theorem Q.trans {a b c : World} (h : Q a b) (k : Q b c) : Q a c := Below.trans h (Below.mono k h.size)
theorem Q.alloc {a b : World} (h : Q a b) (o : Obj) : Q a (b.alloc o) := Below.alloc h h.size o
theorem Q.drew {a b : World} (h : Q a b) : Q a b.drew := Below.drew h
theorem Q.drewN {a b : World} (h : Q a b) (n : Nat) : Q a (b.drewN n) := Below.trans h ⟨rfl, rfl, rfl, Nat.le_refl _, fun _ _ => rfl⟩
theorem Q.setCell {a b : World} (h : Q a b) {p : Addr} (hp : a.heap.size ≤ p.block) (u : Value) : Q a (b.setCell p u) := Below.setCell h hp u
theorem Q.cells {w w' : World} (h : Q w w') : (∀ b o, b < w.heap.size → w'.cell? ⟨b, o, none⟩ = w.cell? ⟨b, o, none⟩) ∧ (∀ b o, b < w.heap.size → w'.frozen? ⟨b, o, none⟩ = w.frozen? ⟨b, o, none⟩) :=
  ⟨fun b o hb => Below.cell (p := ⟨b, o, none⟩) h hb, fun b o hb => Below.frozen (p := ⟨b, o, none⟩) h hb⟩

/-- n modulo most, never negative -/
def aroundZ (n most : Int) : Int := if n < 0 then (-(n + 1)) % most else n % most
theorem aroundZ_lo (n most : Int) (h : 1 ≤ most) : 0 ≤ aroundZ n most := by unfold aroundZ; split <;> exact Int.emod_nonneg _ (by omega)
theorem aroundZ_hi (n most : Int) (h : 1 ≤ most) : aroundZ n most < most := by unfold aroundZ; split <;> exact Int.emod_lt_of_pos _ (by omega)

theorem around_any (n m : Int) (w : World) (hn : -9223372036854775808 ≤ n ∧ n ≤ 9223372036854775807) (hm : 1 ≤ m ∧ m ≤ 9223372036854775807) :
    Calls Try.prog 10 #[.int .i64 n, .int .i64 m] w fun e w' => e = .returned (.int .i64 (aroundZ n m)) ∧ w = w' := by
  obtain ⟨h1, h2⟩ := hn
  obtain ⟨h3, h4⟩ := hm
  by_cases h : n < 0
  · go_enter Try.func10, Try.ntmps10
    go_wp2
    go_ret
    refine ⟨?_, rfl⟩
    have e1 : -(n + 1).tmod m = -(n + 1) % m := by rw [← Int.neg_tmod, Int.tmod_eq_emod_of_nonneg (by omega)]
    simp [aroundZ, h, e1]
  · go_enter Try.func10, Try.ntmps10
    go_wp2
    go_ret
    exact ⟨by simp only [aroundZ, if_neg (show ¬ n < 0 by omega)]; rfl, rfl⟩

theorem rDecode_yes (b : Int) (w : World) (h0 : 0 ≤ b) (h1 : b ≤ 35) :
    Calls Try.prog 31 #[.int .u8 b] w fun e w' => e = .returned (.tuple #[.agg #[.int .i64 (b % 3 - 1), .int .i64 (b / 3 % 3 - 1), .int .i64 (b / 9)], .int .i64 0]) ∧ Q w w' := by
  go_enter Try.func31, Try.ntmps31
  go_wp2
  go_returns
  exact ⟨rfl, by repeat' (first | exact Q.refl _ | refine Q.drew ?_ | refine Q.alloc ?_ _ | refine Q.setCell ?_ (by simp) _)⟩
theorem rDecode_no (b : Int) (w : World) (h0 : 36 ≤ b) (h1 : b ≤ 255) :
    Calls Try.prog 31 #[.int .u8 b] w fun e w' => e = .returned (.tuple #[.agg #[.int .i64 0, .int .i64 0, .int .i64 0], .int .i64 8]) ∧ Q w w' := by
  go_enter Try.func31, Try.ntmps31
  go_wp2
  go_returns
  exact ⟨rfl, by repeat' (first | exact Q.refl _ | refine Q.drew ?_ | refine Q.alloc ?_ _ | refine Q.setCell ?_ (by simp) _)⟩



theorem of_any (n : Int) (w : World) (hn : -9223372036854775808 ≤ n ∧ n ≤ 9223372036854775807) :
    Calls Try.prog 20 #[.int .i64 n] w fun e w' => e = .returned (.agg #[.int .i64 (aroundZ n 36 % 3 - 1), .int .i64 (aroundZ n 36 / 3 % 3 - 1), .int .i64 (aroundZ n 36 / 9)]) ∧ Q w w' := by
  have a0 := aroundZ_lo n 36 (by omega)
  have a1 := aroundZ_hi n 36 (by omega)
  go_enter Try.func20, Try.ntmps20
  go_wp2_with (go_at_call 10; refine (around_any _ _ _ hn (by omega)).mono ?_; rintro e w' ⟨rfl, rfl⟩)
  refine (rDecode_yes _ _ (by omega) (by omega)).mono ?_
  rintro e w1 ⟨rfl, hq⟩
  obtain ⟨hc, hf⟩ := hq.cells
  have hz := hq.size
  simp only [World.size_alloc] at hz hc hf
  have hz : w.heap.size < w1.heap.size := hz
  go_wp2
  refine bodyPost_ret (v := .agg #[.int .i64 (aroundZ n 36 % 3 - 1), .int .i64 (aroundZ n 36 / 3 % 3 - 1), .int .i64 (aroundZ n 36 / 9)]) (by simp [results, Try.results20, go_sem, hc, hz]) rfl ⟨rfl, ?_⟩
  repeat' (first | exact ((Q.refl _).alloc _).trans hq | refine Q.drew ?_ | refine Q.alloc ?_ _ | refine Q.setCell ?_ (by simp) _)
theorem iPredict_any (a b k : Int) (w : World) :
    Calls Try.prog 22 #[.agg #[.int .i64 a, .int .i64 b, .int .i64 k]] w fun e w' => e = .returned (.agg #[.int .i64 a, .int .i64 b, .int .i64 0]) ∧ Q w w' := by
  go_enter Try.func22, Try.ntmps22
  go_wp2
  go_returns
  exact ⟨rfl, by repeat' (first | exact Q.refl _ | refine Q.drew ?_ | refine Q.alloc ?_ _ | refine Q.setCell ?_ (by simp) _)⟩
def inB (n lo hi : Int) : Bool := decide (lo ≤ n ∧ n ≤ hi)
theorem within_any (n lo hi : Int) (w : World) :
    Calls Try.prog 33 #[.int .i64 n, .int .i64 lo, .int .i64 hi] w fun e w' => e = .returned (.bool (inB n lo hi)) ∧ w = w' := by
  by_cases h1 : lo ≤ n
  · by_cases h2 : n ≤ hi
    · go_enter Try.func33, Try.ntmps33
      go_wp2
      go_ret
      exact ⟨by simp [inB, h1, h2], rfl⟩
    · go_enter Try.func33, Try.ntmps33
      go_wp2
      go_ret
      exact ⟨by simp [inB, h2], rfl⟩
  · go_enter Try.func33, Try.ntmps33
    go_wp2
    go_ret
    exact ⟨by simp [inB]; omega, rfl⟩
/-- what Validate returns -/
def errV (a b k : Int) : Int := if inB a (-1) 1 && inB b (-1) 1 && inB k 0 3 then 0 else 1
theorem iValidate_any (a b k : Int) (w : World) :
    Calls Try.prog 30 #[.agg #[.int .i64 a, .int .i64 b, .int .i64 k]] w fun e w' => e = .returned (.int .i64 (errV a b k)) ∧ Q w w' := by
  cases h1 : inB a (-1) 1
  · go_enter Try.func30, Try.ntmps30
    go_wp2_with (go_at_call 33; refine (within_any _ _ _ _).mono ?_; rintro e w' ⟨rfl, rfl⟩)
    go_ret
    exact ⟨by simp [errV, h1], by repeat' (first | exact Q.refl _ | refine Q.drew ?_ | refine Q.alloc ?_ _ | refine Q.setCell ?_ (by simp) _)⟩
  · cases h2 : inB b (-1) 1
    · go_enter Try.func30, Try.ntmps30
      go_wp2_with (go_at_call 33; refine (within_any _ _ _ _).mono ?_; rintro e w' ⟨rfl, rfl⟩)
      go_ret
      exact ⟨by simp [errV, h2], by repeat' (first | exact Q.refl _ | refine Q.drew ?_ | refine Q.alloc ?_ _ | refine Q.setCell ?_ (by simp) _)⟩
    · cases h3 : inB k 0 3
      · go_enter Try.func30, Try.ntmps30
        go_wp2_with (go_at_call 33; refine (within_any _ _ _ _).mono ?_; rintro e w' ⟨rfl, rfl⟩)
        go_ret
        exact ⟨by simp [errV, h3], by repeat' (first | exact Q.refl _ | refine Q.drew ?_ | refine Q.alloc ?_ _ | refine Q.setCell ?_ (by simp) _)⟩
      · go_enter Try.func30, Try.ntmps30
        go_wp2_with (go_at_call 33; refine (within_any _ _ _ _).mono ?_; rintro e w' ⟨rfl, rfl⟩)
        go_ret
        exact ⟨by simp [errV, h1, h2, h3], by repeat' (first | exact Q.refl _ | refine Q.drew ?_ | refine Q.alloc ?_ _ | refine Q.setCell ?_ (by simp) _)⟩
end Go.Proofs.Ytpoffkkkkieniaa
