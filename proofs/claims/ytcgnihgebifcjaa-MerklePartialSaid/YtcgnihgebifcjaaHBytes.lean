/- Contract: Bytes. -/
import Derived.Test.YtcgnihgebifcjaaSum
import Derived.Deep.Heap
namespace Go.Proofs.Ytcgnihgebifcjaa
open Go Go.RowKit Go.Shelf
attribute [local go_sem] Oper.semAt_some

theorem i64wrap (x : Int) : IntKind.i64.wrap x = i64Z x := by rw [IntKind.wrap_i64]; unfold i64Z; omega

theorem i64Z_range (x : Int) : -9223372036854775808 ≤ i64Z x ∧ i64Z x ≤ 9223372036854775807 := by unfold i64Z; omega
theorem row_not {w : World} {base : Nat} {e : TypeId} {size : Nat} {v : Value} {n : Nat} {cs : List Value} (h : w.ownsRow base e size v n cs) {D : Nat} {l : Option (List Deferred)} (hD : w.heap[D]? = some (.deferred l)) : some D ≠ v.ownBlock := by
  rcases h.2 with ⟨rfl, _⟩ | ⟨g, c, cur, rfl, _, hg, _⟩
  · simp [Value.ownBlock]
  · intro e
    obtain rfl : D = g := by simpa [Value.ownBlock] using e
    rw [hD] at hg
    cases hg

end Go.Proofs.Ytcgnihgebifcjaa
