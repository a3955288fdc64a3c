/- Contracts: slices.Clone and slices.Equal on bytes. -/
import Derived.Test.YtfkbdiheccnohaaApp
import Derived.Test.YtfkbdiheccnohaaBytes
import Derived.Test.YtfkbdiheccnohaaRBytes
namespace Go.Proofs.Ytfkbdiheccnohaa
open Go Go.RowKit Go.BigFrame

theorem cloneBytes_any (a : Option Addr) (n cap : Nat) (zs : List Int) (w : World) (hs : Sl w 1 a n cap (zs.map (Value.int .u8))) (hn : n ≤ 10000) :
    Calls Try.prog 27 #[.slice a n cap] w (RetOwn w 5 1 n (zs.map (Value.int .u8))) := by
  obtain ⟨i0, hi, hz0, hz1, hz2⟩ := info_parts infoU8
  have HS := Lib.hid hs
  have HI := Lib.hid hi
  clear hi
  cases a with
  | none =>
    have hc := hs.2.2.2.1 rfl
    have hn0 : n = 0 := by have := hs.2.1; omega
    subst hc
    subst hn0
    have HN := Lib.hid (show zs.map (Value.int .u8) = [] from List.eq_nil_of_length_eq_zero (by have h1 := hs.1; omega))
    clear hs
    have qT : ∀ (w : World) (a : Option Addr) (n c : Nat), (binOp .eql 27 (.slice a n c) (.slice none 0 0)).run Try.prog w = .ok (.bool a.isNone) w := fun w a n c => Lib.run_eql_slice_nil w _ _ a n c 0 0 Try.underlying27
    go_enter Try.func27, Try.ntmps27
    go_wp2
    go_ret
    rw [HN.out]
    exact ⟨none, 0, rfl, World.ownsRow_nil _ _ _ _, Q.refl _⟩
  | some x =>
    clear hs
    have qT : ∀ (w : World) (a : Option Addr) (n c : Nat), (binOp .eql 27 (.slice a n c) (.slice none 0 0)).run Try.prog w = .ok (.bool a.isNone) w := fun w a n c => Lib.run_eql_slice_nil w _ _ a n c 0 0 Try.underlying27
    go_enter Try.func27, Try.ntmps27
    go_wp2_with (at_builtin; refine wpList_append_sl rfl _ _ 27 rfl w.heap.size 5 i0 _ 1 1 Try.underlying27 HI.out hz0 hz1 hz2 rfl (by decide) _ 0 [] rfl (World.ownsRow_made w #[] 0 (Nat.le_refl _) (by decide) rfl) (some x) n cap _ rfl (HS.out.q ((Q.refl w).alloc _)) (fun u hu => by obtain ⟨b, _, rfl⟩ := List.mem_map.1 hu; rfl) (by omega) (by decide) (by simp) ?_; intro a' cap' w' hown hgrow _)
    have HQ := Lib.hid (((Q.refl w).alloc _).grown hgrow (fun k hk => by cases hk; exact Nat.le_refl _))
    have HO := Lib.hid hown
    rw [Nat.zero_add] at HO
    clear hown hgrow
    go_wp2
    go_ret
    exact ⟨a', cap', rfl, HO.out, HQ.out⟩
theorem sl_u8_at {w : World} {a : Option Addr} {n cap : Nat} {zs : List Int} (h : Sl w 1 a n cap (zs.map (Value.int .u8))) (k : Nat) (hk : k < zs.length) : ∃ g o, a = some ⟨g, o, none⟩ ∧ w.cell? ⟨g, o + k, none⟩ = some (.int .u8 zs[k]) := by
  obtain ⟨g, o, he, hg, hc⟩ := h.pos (by have := h.1; simp at this; omega)
  exact ⟨g, o, he, hc k _ (by simp [hk])⟩
theorem equalBytes_any (a b : Option Addr) (n m ca cb : Nat) (xs ys : List Int) (w : World) (ha : Sl w 1 a n ca (xs.map (Value.int .u8))) (hb : Sl w 1 b m cb (ys.map (Value.int .u8))) (hn : n ≤ 100000) (hm : m ≤ 100000) :
    Calls Try.prog 28 #[.slice a n ca, .slice b m cb] w fun e w' => e = .returned (.bool (decide (xs = ys))) ∧ Q w w' := by
  have hx : xs.length = n := by have := ha.1; simpa using this
  have hy : ys.length = m := by have := hb.1; simpa using this
  have HA := Lib.hid ha
  have HB := Lib.hid hb
  have HX := Lib.hid hx
  have HY := Lib.hid hy
  clear ha hb hx hy
  by_cases hnm : n = m
  case neg =>
    have hE := Lib.hid (show decide (xs = ys) = false from decide_eq_false (fun e => by have h1 := HX.out; rw [e, HY.out] at h1; omega))
    have hne : ¬ (n : Int) = m := by omega
    have hb : ((n : Int) != (m : Int)) = true := by simp; omega
    go_enter Try.func28, Try.ntmps28
    go_wp2
    go_ret
    exact ⟨by rw [hE.out]; rfl, Q.refl _⟩
  case pos =>
    subst hnm
    go_enter Try.func28, Try.ntmps28
    go_wp2_with (fail)
    go_loopw [13] (fun v wr => ∃ k : Nat, k ≤ n ∧ v = .int .i64 k ∧ Q w wr ∧ xs.take k = ys.take k) (fun v _ => n - (intOf v).toNat)
    case atStart => exact ⟨0, by omega, rfl, Q.refl _, rfl⟩
    case round =>
      obtain ⟨k, hk, rfl, hq, hpre⟩ := hrel
      have HP := Lib.hid hpre
      clear hpre
      by_cases h1 : k < n
      · have kx : k < xs.length := by rw [HX.out]; exact h1
        have ky : k < ys.length := by rw [HY.out]; exact h1
        obtain ⟨g, o, rfl, c0⟩ := sl_u8_at (HA.out.q hq) k kx
        obtain ⟨g2, o2, rfl, c1⟩ := sl_u8_at (HB.out.q hq) k ky
        have HXK := Lib.hid (List.getElem?_eq_getElem kx)
        have HYK := Lib.hid (List.getElem?_eq_getElem ky)
        have HTX := Lib.hid (take_snoc_get xs k kx)
        have HTY := Lib.hid (take_snoc_get ys k ky)
        have HQ := Lib.hid hq
        have hi : (k : Int) < (n : Int) := by omega
        generalize xs[k] = x at *
        generalize ys[k] = y at *
        clear kx ky hq
        by_cases hxy : x = y
        · subst hxy
          have hxx : (x != x) = false := by simp
          go_wp2_with (fail)
          go_quiet (fail)
          go_wp2
          go_roundw
          case rel => exact ⟨k + 1, by omega, by go_num, HQ.out.drewN _, by rw [HTX.out, HTY.out, HP.out]⟩
          case measure => simp [intOf]; omega
        · have hxx : (x != y) = true := by simpa using hxy
          have hE := Lib.hid (show decide (xs = ys) = false from decide_eq_false (fun e => hxy (by have h1 := HXK.out; rw [e, HYK.out] at h1; injection h1 with h1; exact h1.symm)))
          go_wp2_with (fail)
          go_quiet (fail)
          go_wp2
          go_ret
          exact ⟨by rw [hE.out]; rfl, HQ.out.drewN _⟩
      · have e1 : k = n := by omega
        subst e1
        have hE := Lib.hid (show decide (xs = ys) = true from decide_eq_true (by have h := HP.out; rwa [List.take_of_length_le (by rw [HX.out]; omega), List.take_of_length_le (by rw [HY.out]; omega)] at h))
        go_wp2
        go_ret
        exact ⟨by rw [hE.out]; rfl, hq⟩
end Go.Proofs.Ytfkbdiheccnohaa
