/- A store into an element of a slice that the call has made. -/
import Derived.Test.YtpoffkkkkieniaaRowsC
namespace Go.Proofs.Ytpoffkkkkieniaa
open Go Go.RowKit

theorem own_set {w : World} {base : Nat} {E : TypeId} {g n cap : Nat} {cs : List Value} (h : w.ownsRow base E 1 (.slice (some ⟨g, 0, none⟩) n cap) n cs) (k : Nat) (v : Value) :
    (w.setCell ⟨g, k, none⟩ v).ownsRow base E 1 (.slice (some ⟨g, 0, none⟩) n cap) n (cs.set k v) := by
  obtain ⟨h1, h2⟩ := h
  refine ⟨by simpa using h1, ?_⟩
  rcases h2 with ⟨he, _⟩ | ⟨g', c, cur, he, hb, hg, hn, hm, hs, ht⟩
  · cases he
  · cases he
    refine .inr ⟨g, cap, cur.setIfInBounds k v, rfl, hb, ?_, hn, hm, by simpa using hs, ?_⟩
    · obtain ⟨hlt, hk2⟩ := Array.getElem?_eq_some_iff.1 hg
      show (w.heap.modify g _)[g]? = _
      rw [Array.getElem?_eq_getElem (by rw [Array.size_modify]; exact hlt), Array.getElem_modify_self, hk2]
      rfl
    · rw [← ht]
      simp [List.take_set]
theorem own_addr1 {w : World} {base : Nat} {E : TypeId} {size n cap : Nat} {a : Option Addr} {cs : List Value} (h : w.ownsRow base E size (.slice a n cap) n cs) (hn : 0 < n) : ∃ g, a = some ⟨g, 0, none⟩ ∧ base ≤ g ∧ g < w.heap.size := by
  rcases h.2 with ⟨_, h0⟩ | ⟨g', c, cur, he, hb, hg, _⟩
  · omega
  · cases he; exact ⟨g', rfl, hb, (Array.getElem?_eq_some_iff.1 hg).1⟩
theorem own_cell {w : World} {base : Nat} {E : TypeId} {g n cap : Nat} {cs : List Value} (h : w.ownsRow base E 1 (.slice (some ⟨g, 0, none⟩) n cap) n cs) (k : Nat) (v : Value) (hv : cs[k]? = some v) : w.cell? ⟨g, k, none⟩ = some v ∧ w.frozen? ⟨g, k, none⟩ = false := by
  have hc := h.cells (show (Value.slice (some ⟨g, 0, none⟩) n cap).ownBlock = some g from rfl) k v hv
  refine ⟨by rw [Addr.add_lit, Nat.zero_add] at hc; exact hc, ?_⟩
  rcases h.2 with ⟨he, _⟩ | ⟨g', c, cur, he, hb, hg, _⟩
  · cases he
  · cases he; simp [World.frozen?, hg]
theorem Sl.at0 {w : World} {size g n cap : Nat} {cs : List Value} (h : Sl w size (some ⟨g, 0, none⟩) n cap cs) (hn : 0 < n) (j : Nat) (u : Value) (hu : cs[j]? = some u) : w.cell? ⟨g, j, none⟩ = some u := by
  obtain ⟨g', o, he, _, hc⟩ := h.pos hn
  cases he
  have := hc j u hu
  rwa [Nat.zero_add] at this
end Go.Proofs.Ytpoffkkkkieniaa
