/- A slice of bytes read as a string. -/
import Derived.Test.YtfkbdiheccnohaaRowsC
import Derived.Test.YtfkbdiheccnohaaMix
namespace Go.Proofs.Ytfkbdiheccnohaa
open Go Go.RowKit

/-- the string of some bytes -/
def strOf (zs : List Int) : ByteArray := zs.foldl (fun r n => r.push (UInt8.ofNat n.toNat)) ByteArray.empty
theorem toStr_sl {w : World} {a : Option Addr} {n cap : Nat} {zs : List Int} (h : Sl w 1 a n cap (zs.map (Value.int .u8))) :
    (convert 27 9 (.slice a n cap)).run Try.prog w = .ok (.string (strOf zs)) w := by
  rw [run_convert_bytes_string (P := Try.prog) w 27 9 5 a n cap Try.underlying27 Try.underlying5 Try.underlying9]
  obtain ⟨h1, h2, h3, h4, h5⟩ := h
  have hl : zs.length = n := by simpa using h1
  cases a with
  | none =>
    have : n = 0 := by have := h4 rfl; omega
    subst this
    have : zs = [] := List.eq_nil_of_length_eq_zero hl
    subst this
    rfl
  | some x =>
    refine run_bytesToString w x n cap zs ?_
    have hc : ∀ j v, (zs.map (Value.int .u8))[j]? = some v → w.cell? (x.add j) = some v := by
      rcases h5 with h5 | ⟨g, o, he, hg, hc⟩
      · subst h5
        have : zs = [] := List.eq_nil_of_length_eq_zero hl
        subst this
        intro j v hv
        simp at hv
      · cases he
        intro j v hv
        rw [Addr.add_lit]
        exact hc j v hv
    have := run_loadCells_list (P := Try.prog) (w := w) x (zs.map (Value.int .u8)) hc
    simpa [hl] using this
theorem toStr_soft {W : World} {a : Option Addr} {n cap : Nat} {zs : List Int} (h : Sl W 1 a n cap (zs.map (Value.int .u8))) :
    ∀ x : After W, (convert 27 9 (.slice a n cap)).run Try.prog x.w = .ok (.string (strOf zs)) x.w := fun x => toStr_sl (h.q x.q)
end Go.Proofs.Ytfkbdiheccnohaa
