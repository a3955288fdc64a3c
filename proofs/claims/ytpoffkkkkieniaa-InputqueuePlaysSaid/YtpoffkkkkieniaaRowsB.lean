/- Contracts: copies of slices; rows encoded and decoded; rows compared. -/
import Derived.Test.YtpoffkkkkieniaaRowsA
namespace Go.Proofs.Ytpoffkkkkieniaa
open Go Go.RowKit

theorem news_take {w : World} {g o : Nat} {s : Option Nat} {n m : Nat} {zs : List Int} {f : Int → Value} (hm : m ≤ n)
    (h : n = 0 ∨ ∃ g' o', (some ⟨g, o, s⟩ : Option Addr) = some ⟨g', o', none⟩ ∧ g' < w.heap.size ∧ ∀ (j : Nat) u, (zs.map f)[j]? = some u → w.cell? ⟨g', o' + j, none⟩ = some u) :
    ∀ j u, ((zs.take m).map f)[j]? = some u → w.cell? ((⟨g, o, s⟩ : Addr).add j) = some u := by
  intro j u hu
  rcases h with h0 | ⟨g', o', he, hg, hc⟩
  · have : m = 0 := by omega
    subst this
    simp at hu
  · cases he
    rw [Addr.add_lit]
    refine hc j u ?_
    rw [List.map_take, List.getElem?_take] at hu
    split at hu
    · exact hu
    · cases hu
theorem oneCell_map (k : IntKind) (zs : List Int) : ∀ u ∈ zs.map (Value.int k), u.oneCell' = true := by
  intro u hu
  obtain ⟨z, _, rfl⟩ := List.mem_map.1 hu
  rfl
/-- an equation kept from the walk, though it be trivial -/
theorem hid_eq {α : Type} {a b : α} (h : a = b) : Hid (a = b) := h
theorem ret_shape {w : World} {base : Nat} {E : TypeId} {size : Nat} {v : Value} {n : Nat} {cs : List Value} (h : w.ownsRow base E size v n cs) : ∃ a cap, v = .slice a n cap := by
  rcases h.2 with ⟨rfl, rfl⟩ | ⟨g, c, cur, he, _⟩
  · exact ⟨_, _, rfl⟩
  · exact ⟨_, _, he⟩

theorem ret_own {w w2 : World} {E : TypeId} {size : Nat} {v : Value} {m n : Nat} {cs cs' : List Value} (h : w2.ownsRow w.heap.size E size v (0 + m) ([] ++ cs)) (hn : n = m) (hc : cs' = cs) (q : Q w w2) : RetOwn w E size n cs' (.returned v) w2 := by
  subst hn
  subst hc
  rw [Nat.zero_add, List.nil_append] at h
  obtain ⟨a, cap, rfl⟩ := ret_shape h
  exact ⟨a, cap, rfl, h, q⟩
theorem ints_any (a : Option Addr) (n cap most : Nat) (zs : List Int) (w : World) (hs : Sl w 1 a n cap (zs.map (Value.int .i64))) (hmost : most ≤ 100) :
    Calls Try.prog 24 #[.slice a n cap, .int .i64 most] w (RetOwn w 3 1 (min n most) ((zs.take most).map (Value.int .i64))) := by
  obtain ⟨i0, hi, hz0, hz1, hz2⟩ := info_parts infoInt
  have hlen : zs.length = n := by have := hs.1; simpa using this
  have hcapn := hs.2.1
  have hcap := hs.2.2.1
  unfold maxLen at hcap
  have hnil := hs.2.2.2.1
  have hat := hs.2.2.2.2
  have HL := Lib.hid hlen
  cases a with
  | none =>
    have h0 : n = 0 := by have := hnil rfl; omega
    subst h0
    have hzs : zs = [] := List.eq_nil_of_length_eq_zero hlen
    subst hzs
    clear hs hlen hnil hat
    go_enter Try.func24, Try.ntmps24
    go_wp2
    go_ret
    rw [Nat.zero_min]
    exact ⟨_, _, rfl, by rw [List.take_nil]; exact World.ownsRow_nil _ _ _ _, Q.refl _⟩
  | some x =>
    obtain ⟨g, o, s⟩ := x
    have HI := Lib.hid hi
    by_cases hm : most < n
    · have hm' : min n most = most := by omega
      have ht : (zs.take most).map (Value.int .i64) = (zs.take most).map (Value.int .i64) := by rfl
      have HW := Lib.hid (news_take (m := most) (f := Value.int .i64) (by omega) hat)
      have HLL := Lib.hid (show ((zs.take most).map (Value.int .i64)).length = most * 1 by rw [List.length_map, List.length_take, HL.out]; omega)
      have HM := Lib.hid hm'
      have _HT := hid_eq ht
      clear hs hlen hnil hat hi hm' ht
      have l1 : 0 + most ≤ maxLen := by unfold maxLen; omega
      have l2 : (0 + most) * 8 ≤ 140737488355328 := by omega
      go_enter Try.func24, Try.ntmps24
      go_wp2_with (at_builtin; refine wpList_append_own _ rfl _ _ 22 rfl w.heap.size 3 i0 _ 1 8 Try.underlying22 HI.out hz0 hz1 hz2 rfl (by decide) _ 0 _ rfl (World.ownsRow_nil _ _ _ _) ⟨g, o, s⟩ most cap _ rfl HLL.out HW.out (oneCell_map _ _) l1 l2 (Nat.le_refl _) ?_; intro v2 w2 hown2 hgrow2 hnil2)
      go_ret
      exact ret_own hown2 HM.out (by first | rfl | simp [List.map_take]) ((Q.refl w).grown hgrow2 (fun k hk => by cases hk))
    · have hm' : min n most = n := by omega
      have ht : (zs.take most).map (Value.int .i64) = (zs.take n).map (Value.int .i64) := congrArg _ ((List.take_of_length_le (by omega)).trans (List.take_of_length_le (by omega)).symm)
      have HW := Lib.hid (news_take (m := n) (f := Value.int .i64) (by omega) hat)
      have HLL := Lib.hid (show ((zs.take n).map (Value.int .i64)).length = n * 1 by rw [List.length_map, List.length_take, HL.out]; omega)
      have HM := Lib.hid hm'
      have HT := hid_eq ht
      clear hs hlen hnil hat hi hm' ht
      have l1 : 0 + n ≤ maxLen := by unfold maxLen; omega
      have l2 : (0 + n) * 8 ≤ 140737488355328 := by omega
      go_enter Try.func24, Try.ntmps24
      go_wp2_with (at_builtin; refine wpList_append_own _ rfl _ _ 22 rfl w.heap.size 3 i0 _ 1 8 Try.underlying22 HI.out hz0 hz1 hz2 rfl (by decide) _ 0 _ rfl (World.ownsRow_nil _ _ _ _) ⟨g, o, s⟩ n cap _ rfl HLL.out HW.out (oneCell_map _ _) l1 l2 (Nat.le_refl _) ?_; intro v2 w2 hown2 hgrow2 hnil2)
      go_ret
      exact ret_own hown2 HM.out (by first | exact HT.out | (rw [HT.out, List.map_take]) | (rw [← List.map_take]; exact HT.out)) ((Q.refl w).grown hgrow2 (fun k hk => by cases hk))
end Go.Proofs.Ytpoffkkkkieniaa
