/- slices.Clone. -/
import Derived.Test.YtcgnihgebifcjaaApp
import Derived.WalkSpells
namespace Go.Proofs.Ytcgnihgebifcjaa
open Go Go.RowKit

theorem cloneInt_any (a : Option Addr) (n cap : Nat) (zs : List Int) (w : World) (hs : Sl w 1 a n cap (zs.map (Value.int .i64))) (hn : n ≤ 10000) :
    Calls Try.prog 42 #[.slice a n cap] w (RetOwn w 3 1 n (zs.map (Value.int .i64))) := by
  obtain ⟨i0, hi, hz0, hz1, hz2⟩ := info_parts infoInt
  have HS := Lib.hid hs
  have HI := Lib.hid hi
  clear hi
  cases a with
  | none =>
    have hc := hs.2.2.2.1 rfl
    have hn0 : n = 0 := by have := hs.2.1; omega
    subst hc
    subst hn0
    have HN := Lib.hid (show zs.map (Value.int .i64) = [] from List.eq_nil_of_length_eq_zero (by have h1 := hs.1; omega))
    clear hs
    have qT : ∀ (w : World) (a : Option Addr) (n c : Nat), (binOp .eql 26 (.slice a n c) (.slice none 0 0)).run Try.prog w = .ok (.bool a.isNone) w := fun w a n c => Lib.run_eql_slice_nil w _ _ a n c 0 0 Try.underlying26
    go_enter Try.func42, Try.ntmps42
    go_wp2
    go_ret
    rw [HN.out]
    exact ⟨none, 0, rfl, World.ownsRow_nil _ _ _ _, Q.refl _⟩
  | some x =>
    clear hs
    have qT : ∀ (w : World) (a : Option Addr) (n c : Nat), (binOp .eql 26 (.slice a n c) (.slice none 0 0)).run Try.prog w = .ok (.bool a.isNone) w := fun w a n c => Lib.run_eql_slice_nil w _ _ a n c 0 0 Try.underlying26
    go_enter Try.func42, Try.ntmps42
    go_wp2_with (at_builtin; refine wpList_append_sl rfl _ _ 26 rfl w.heap.size 3 i0 _ 1 8 Try.underlying26 HI.out hz0 hz1 hz2 rfl (by decide) _ 0 [] rfl (World.ownsRow_made w #[] 0 (Nat.le_refl _) (by decide) rfl) (some x) n cap _ rfl (HS.out.q ((Q.refl w).alloc _)) (fun u hu => by obtain ⟨b, _, rfl⟩ := List.mem_map.1 hu; rfl) (by omega) (by decide) (by simp) ?_; intro a' cap' w' hown hgrow _)
    have HQ := Lib.hid (((Q.refl w).alloc _).grown hgrow (fun k hk => by cases hk; exact Nat.le_refl _))
    have HO := Lib.hid hown
    rw [Nat.zero_add] at HO
    clear hown hgrow
    go_wp2
    go_ret
    exact ⟨a', cap', rfl, HO.out, HQ.out⟩
end Go.Proofs.Ytcgnihgebifcjaa
