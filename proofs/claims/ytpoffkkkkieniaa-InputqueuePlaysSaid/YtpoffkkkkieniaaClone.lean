/- slices.Clone. -/
import Derived.Test.YtpoffkkkkieniaaApp
import Derived.WalkSpells
namespace Go.Proofs.Ytpoffkkkkieniaa
open Go Go.RowKit

theorem inCells_one (cs : List Int) : ∀ u ∈ inCells cs, u.oneCell' = true := by
  intro u hu
  obtain ⟨c, _, hc⟩ := List.mem_flatMap.1 hu
  simp only [inC, List.mem_cons, List.not_mem_nil, or_false] at hc
  rcases hc with rfl | rfl | rfl <;> rfl
theorem cloneIn_any (a : Option Addr) (n cap : Nat) (cs : List Int) (w : World) (hs : Sl w 3 a n cap (inCells cs)) (hn : n ≤ 10000) :
    Calls Try.prog 29 #[.slice a n cap] w (RetOwn w 34 3 n (inCells cs)) := by
  obtain ⟨i0, hi, hz0, hz1, hz2⟩ := info_parts infoIn
  have HS := Lib.hid hs
  have HI := Lib.hid hi
  clear hi
  cases a with
  | none =>
    have hc := hs.2.2.2.1 rfl
    have hn0 : n = 0 := by have := hs.2.1; omega
    subst hc
    subst hn0
    have HN := Lib.hid (show inCells cs = [] from by have h1 := hs.1; rw [inCells_len] at h1; have : cs = [] := List.eq_nil_of_length_eq_zero (by omega); rw [this]; rfl)
    clear hs
    have qT : ∀ (w : World) (a : Option Addr) (n c : Nat), (binOp .eql 49 (.slice a n c) (.slice none 0 0)).run Try.prog w = .ok (.bool a.isNone) w := fun w a n c => Lib.run_eql_slice_nil w _ _ a n c 0 0 Try.underlying49
    go_enter Try.func29, Try.ntmps29
    go_wp2
    go_ret
    rw [HN.out]
    exact ⟨none, 0, rfl, World.ownsRow_nil _ _ _ _, Q.refl _⟩
  | some x =>
    clear hs
    have qT : ∀ (w : World) (a : Option Addr) (n c : Nat), (binOp .eql 49 (.slice a n c) (.slice none 0 0)).run Try.prog w = .ok (.bool a.isNone) w := fun w a n c => Lib.run_eql_slice_nil w _ _ a n c 0 0 Try.underlying49
    go_enter Try.func29, Try.ntmps29
    go_wp2_with (at_builtin; refine wpList_append_sl rfl _ _ 49 rfl w.heap.size 34 i0 _ 3 24 Try.underlying49 HI.out hz0 hz1 hz2 rfl (by decide) _ 0 [] rfl (World.ownsRow_made w #[] 0 (Nat.le_refl _) (by decide) rfl) (some x) n cap _ rfl (HS.out.q ((Q.refl w).alloc _)) (inCells_one cs) (by omega) (by decide) (by simp) ?_; intro a' cap' w' hown hgrow _)
    have HQ := Lib.hid (((Q.refl w).alloc _).grown hgrow (fun k hk => by cases hk; exact Nat.le_refl _))
    have HO := Lib.hid hown
    rw [Nat.zero_add] at HO
    clear hown hgrow
    go_wp2
    go_ret
    exact ⟨a', cap', rfl, HO.out, HQ.out⟩
theorem infoBool : (Try.prog.info? 4).map (fun i => (i.zero, i.size, i.bytes)) = some (some (.bool false), 1, 1) := by kernel_rfl
theorem cloneBool_any (a : Option Addr) (n cap : Nat) (bs : List Bool) (w : World) (hs : Sl w 1 a n cap (bs.map Value.bool)) (hn : n ≤ 10000) :
    Calls Try.prog 32 #[.slice a n cap] w (RetOwn w 4 1 n (bs.map Value.bool)) := by
  obtain ⟨i0, hi, hz0, hz1, hz2⟩ := info_parts infoBool
  have HS := Lib.hid hs
  have HI := Lib.hid hi
  clear hi
  cases a with
  | none =>
    have hc := hs.2.2.2.1 rfl
    have hn0 : n = 0 := by have := hs.2.1; omega
    subst hc
    subst hn0
    have HN := Lib.hid (show bs.map Value.bool = [] from List.eq_nil_of_length_eq_zero (by have h1 := hs.1; omega))
    clear hs
    have qT : ∀ (w : World) (a : Option Addr) (n c : Nat), (binOp .eql 50 (.slice a n c) (.slice none 0 0)).run Try.prog w = .ok (.bool a.isNone) w := fun w a n c => Lib.run_eql_slice_nil w _ _ a n c 0 0 Try.underlying50
    go_enter Try.func32, Try.ntmps32
    go_wp2
    go_ret
    rw [HN.out]
    exact ⟨none, 0, rfl, World.ownsRow_nil _ _ _ _, Q.refl _⟩
  | some x =>
    clear hs
    have qT : ∀ (w : World) (a : Option Addr) (n c : Nat), (binOp .eql 50 (.slice a n c) (.slice none 0 0)).run Try.prog w = .ok (.bool a.isNone) w := fun w a n c => Lib.run_eql_slice_nil w _ _ a n c 0 0 Try.underlying50
    go_enter Try.func32, Try.ntmps32
    go_wp2_with (at_builtin; refine wpList_append_sl rfl _ _ 50 rfl w.heap.size 4 i0 _ 1 1 Try.underlying50 HI.out hz0 hz1 hz2 rfl (by decide) _ 0 [] rfl (World.ownsRow_made w #[] 0 (Nat.le_refl _) (by decide) rfl) (some x) n cap _ rfl (HS.out.q ((Q.refl w).alloc _)) (fun u hu => by obtain ⟨b, _, rfl⟩ := List.mem_map.1 hu; rfl) (by omega) (by decide) (by simp) ?_; intro a' cap' w' hown hgrow _)
    have HQ := Lib.hid (((Q.refl w).alloc _).grown hgrow (fun k hk => by cases hk; exact Nat.le_refl _))
    have HO := Lib.hid hown
    rw [Nat.zero_add] at HO
    clear hown hgrow
    go_wp2
    go_ret
    exact ⟨a', cap', rfl, HO.out, HQ.out⟩
end Go.Proofs.Ytpoffkkkkieniaa
