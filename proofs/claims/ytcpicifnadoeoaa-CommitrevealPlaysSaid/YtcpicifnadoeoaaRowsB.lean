/- Contracts: copies of slices; rows encoded and decoded; rows compared. -/
import Derived.Test.YtcpicifnadoeoaaRowsA
namespace Go.Proofs.Ytcpicifnadoeoaa
open Go Go.RowKit

theorem news_take {w : World} {g o : Nat} {s : Option Nat} {n m : Nat} {zs : List Int} {f : Int → Value} (hm : m ≤ n)
    (h : n = 0 ∨ ∃ g' o', (some ⟨g, o, s⟩ : Option Addr) = some ⟨g', o', none⟩ ∧ g' < w.heap.size ∧ ∀ (j : Nat) u, (zs.map f)[j]? = some u → w.cell? ⟨g', o' + j, none⟩ = some u) :
    ∀ j u, ((zs.take m).map f)[j]? = some u → w.cell? ((⟨g, o, s⟩ : Addr).add j) = some u := by
  intro j u hu
  rcases h with h0 | ⟨g', o', he, hg, hc⟩
  · have : m = 0 := by omega
    subst this
    simp at hu
  · cases he
    rw [Addr.add_lit]
    refine hc j u ?_
    rw [List.map_take, List.getElem?_take] at hu
    split at hu
    · exact hu
    · cases hu
theorem oneCell_map (k : IntKind) (zs : List Int) : ∀ u ∈ zs.map (Value.int k), u.oneCell' = true := by
  intro u hu
  obtain ⟨z, _, rfl⟩ := List.mem_map.1 hu
  rfl
/-- an equation kept from the walk, though it be trivial -/
theorem hid_eq {α : Type} {a b : α} (h : a = b) : Hid (a = b) := h
theorem ret_shape {w : World} {base : Nat} {E : TypeId} {size : Nat} {v : Value} {n : Nat} {cs : List Value} (h : w.ownsRow base E size v n cs) : ∃ a cap, v = .slice a n cap := by
  rcases h.2 with ⟨rfl, rfl⟩ | ⟨g, c, cur, he, _⟩
  · exact ⟨_, _, rfl⟩
  · exact ⟨_, _, he⟩

theorem ret_own {w w2 : World} {E : TypeId} {size : Nat} {v : Value} {m n : Nat} {cs cs' : List Value} (h : w2.ownsRow w.heap.size E size v (0 + m) ([] ++ cs)) (hn : n = m) (hc : cs' = cs) (q : Q w w2) : RetOwn w E size n cs' (.returned v) w2 := by
  subst hn
  subst hc
  rw [Nat.zero_add, List.nil_append] at h
  obtain ⟨a, cap, rfl⟩ := ret_shape h
  exact ⟨a, cap, rfl, h, q⟩
end Go.Proofs.Ytcpicifnadoeoaa
