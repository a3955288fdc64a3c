/- Small contracts of the input layer and of the references' helpers. -/
import Derived.Test.YtcgnihgebifcjaaChecked
import Derived.WalkKit
import Derived.WalkLawsBesides
import Derived.WalkSpells
import Derived.WalkSmall
import Derived.Handy
import Derived.Lib.Hide
import Derived.BigQuiet
import Derived.Deep.QuietTactic
import Derived.StillTailTactics
namespace Go.Proofs.Ytcgnihgebifcjaa
open Go Go.RowKit

/-- nothing that lay in w has turned in w' -/
def Q (w w' : World) : Prop := Below w.heap.size w w'
theorem Q.refl (w : World) : Q w w := Below.refl _ _
theorem Q.size {w w' : World} (h : Q w w') : w.heap.size ≤ w'.heap.size := Below.size h
theorem Q.trans {a b c : World} (h : Q a b) (k : Q b c) : Q a c := Below.trans h (Below.mono k h.size)
theorem Q.alloc {a b : World} (h : Q a b) (o : Obj) : Q a (b.alloc o) := Below.alloc h h.size o
theorem Q.drew {a b : World} (h : Q a b) : Q a b.drew := Below.drew h
theorem Q.drewN {a b : World} (h : Q a b) (n : Nat) : Q a (b.drewN n) := Below.trans h ⟨rfl, rfl, rfl, Nat.le_refl _, fun _ _ => rfl⟩
theorem Q.setCell {a b : World} (h : Q a b) {p : Addr} (hp : a.heap.size ≤ p.block) (u : Value) : Q a (b.setCell p u) := Below.setCell h hp u
theorem Q.cells {w w' : World} (h : Q w w') : (∀ b o, b < w.heap.size → w'.cell? ⟨b, o, none⟩ = w.cell? ⟨b, o, none⟩) ∧ (∀ b o, b < w.heap.size → w'.frozen? ⟨b, o, none⟩ = w.frozen? ⟨b, o, none⟩) :=
  ⟨fun b o hb => Below.cell (p := ⟨b, o, none⟩) h hb, fun b o hb => Below.frozen (p := ⟨b, o, none⟩) h hb⟩

/-- n modulo most, never negative -/
def aroundZ (n most : Int) : Int := if n < 0 then (-(n + 1)) % most else n % most
theorem aroundZ_lo (n most : Int) (h : 1 ≤ most) : 0 ≤ aroundZ n most := by unfold aroundZ; split <;> exact Int.emod_nonneg _ (by omega)
theorem aroundZ_hi (n most : Int) (h : 1 ≤ most) : aroundZ n most < most := by unfold aroundZ; split <;> exact Int.emod_lt_of_pos _ (by omega)

theorem around_any (n m : Int) (w : World) (hn : -9223372036854775808 ≤ n ∧ n ≤ 9223372036854775807) (hm : 1 ≤ m ∧ m ≤ 9223372036854775807) :
    Calls Try.prog 12 #[.int .i64 n, .int .i64 m] w fun e w' => e = .returned (.int .i64 (aroundZ n m)) ∧ w = w' := by
  obtain ⟨h1, h2⟩ := hn
  obtain ⟨h3, h4⟩ := hm
  by_cases h : n < 0
  · go_enter Try.func12, Try.ntmps12
    go_wp2
    go_ret
    refine ⟨?_, rfl⟩
    have e1 : -(n + 1).tmod m = -(n + 1) % m := by rw [← Int.neg_tmod, Int.tmod_eq_emod_of_nonneg (by omega)]
    simp [aroundZ, h, e1]
  · go_enter Try.func12, Try.ntmps12
    go_wp2
    go_ret
    exact ⟨by simp only [aroundZ, if_neg (show ¬ n < 0 by omega)]; rfl, rfl⟩




def inB (n lo hi : Int) : Bool := decide (lo ≤ n ∧ n ≤ hi)
/-- what Validate returns -/
def errV (a b k : Int) : Int := if inB a (-1) 1 && inB b (-1) 1 && inB k 0 3 then 0 else 1
end Go.Proofs.Ytcgnihgebifcjaa
