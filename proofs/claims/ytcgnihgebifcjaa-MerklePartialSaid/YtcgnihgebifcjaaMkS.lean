/- Contract: the reference's Same, of equal leaves. -/
import Derived.Test.YtcgnihgebifcjaaMkR
namespace Go.Proofs.Ytcgnihgebifcjaa
open Go Go.RowKit Go.BigFrame

set_option maxRecDepth 100000 in
set_option maxHeartbeats 2000000 in
theorem rSame_eq (i v : Int) (a b : Option Addr) (m ca cb : Nat) (xs : List Int) (w : World) (ha : Sl w 1 a m ca (xs.map (Value.int .u64))) (hb : Sl w 1 b m cb (xs.map (Value.int .u64))) :
    Calls Try.prog 23 #[.agg #[.int .i64 i, .int .i64 v, .slice a m ca], .agg #[.int .i64 i, .int .i64 v, .slice b m cb]] w fun e w' => e = .returned (.bool true) ∧ Q w w' := by
  have hlen : xs.length = m := by have := ha.1; simpa using this
  have HL := Lib.hid hlen
  have HA1 := Lib.hid ((ha.q ((Q.refl w).alloc (.cells #[.int .i64 i, .int .i64 v, .slice a m ca] 25))).q ((Q.refl _).alloc (.cells #[.int .i64 i, .int .i64 v, .slice b m cb] 25)))
  have HB1 := Lib.hid ((hb.q ((Q.refl w).alloc (.cells #[.int .i64 i, .int .i64 v, .slice a m ca] 25))).q ((Q.refl _).alloc (.cells #[.int .i64 i, .int .i64 v, .slice b m cb] 25)))
  have hmx := ha.2.2.1
  have hmc := ha.2.1
  unfold maxLen at hmx
  have HX1 := Lib.hid ((Box.new w [.int .i64 i, .int .i64 v, .slice a m ca] 25).alloc (.cells #[.int .i64 i, .int .i64 v, .slice b m cb] 25))
  have HY1 := Lib.hid (Box.new (w.alloc (.cells #[.int .i64 i, .int .i64 v, .slice a m ca] 25)) [.int .i64 i, .int .i64 v, .slice b m cb] 25)
  rw [World.size_alloc] at HY1
  have HQ1 := Lib.hid (((Q.refl w).alloc (.cells #[.int .i64 i, .int .i64 v, .slice a m ca] 25)).alloc (.cells #[.int .i64 i, .int .i64 v, .slice b m cb] 25))
  clear ha hb hlen
  go_enter Try.func23, Try.ntmps23
  go_upto_region 1 with (fail)
  generalize (w.alloc (.cells #[.int .i64 i, .int .i64 v, .slice a m ca] 25)).alloc (.cells #[.int .i64 i, .int .i64 v, .slice b m cb] 25) = W at *
  generalize w.heap.size = LB at *
  obtain ⟨hx, x0, x1, x2⟩ := Box.here3 HX1.out
  obtain ⟨hy, y0, y1, y2⟩ := Box.here3 HY1.out
  have b0 : (i != i) = false := by simp
  have b1 : (v != v) = false := by simp
  have b2 : ((m : Int) != (m : Int)) = false := by simp
  go_wp2_with (fail)
  clear hx x0 x1 x2 hy y0 y1 y2 b0 b1 b2
  go_loopw [5] (fun is wr => ∃ j : Nat, j ≤ m ∧ is = .int .i64 j ∧ Q W wr) (fun is _ => m - (intOf is).toNat)
  case atStart => exact ⟨0, by omega, rfl, Q.refl _⟩
  case round =>
    obtain ⟨j, hj, rfl, hq⟩ := hrel
    have HQ2 := Lib.hid hq
    clear hq
    obtain ⟨hx, x0, x1, x2⟩ := Box.here3 (HX1.out.q HQ2.out)
    by_cases h1 : j < m
    · obtain ⟨g, o, rfl, hg, hcs⟩ := HA1.out.pos (by omega)
      obtain ⟨g2, o2, rfl, hg2, hcs2⟩ := HB1.out.pos (by omega)
      obtain ⟨y, hy⟩ : ∃ y, xs[j]? = some y := ⟨xs[j]'(by rw [HL.out]; exact h1), by rw [List.getElem?_eq_getElem]⟩
      have c0 := ((HQ2.out.cells.1 _ _ hg).trans (hcs j (.int .u64 y) (by rw [List.getElem?_map, hy]; rfl)))
      have c1 := ((HQ2.out.cells.1 _ _ hg2).trans (hcs2 j (.int .u64 y) (by rw [List.getElem?_map, hy]; rfl)))
      have hji : (j : Int) < (m : Int) := by omega
      have bn : (y != y) = false := by simp
      clear hcs hcs2 hy
      go_upto_region 6 with (fail)
      clear hx x0 x1 x2
      refine wp_region_mix [(0, true), (1, true), (2, true), (3, true), (4, true), (5, true), (6, true), (7, true), (8, true), (9, true), (10, true)] (by kernel_rfl) (by kernel_rfl) (fun _ _ _ _ _ h => h) ?_
      have HQD := Lib.hid (HQ2.out.drew)
      have z0 : ∀ x : After wr.drew, x.w.cell? ⟨g, o + j, none⟩ = some (.int .u64 y) := fun x => ((x.q.cells.1 _ _ (World.block_lt_of_cell? _ _ c0)).trans c0)
      have z1 : ∀ x : After wr.drew, x.w.cell? ⟨g2, o2 + j, none⟩ = some (.int .u64 y) := fun x => ((x.q.cells.1 _ _ (World.block_lt_of_cell? _ _ c1)).trans c1)
      obtain ⟨u0, u1, u2⟩ := Box.soft3 (HX1.out.q HQD.out)
      obtain ⟨v0, v1, v2⟩ := Box.soft3 (HY1.out.q HQD.out)
      clear c0 c1
      generalize wr.drew = W2 at *
      repeat (refine mix_val rfl rfl ?_; go_big_quiet_step (fail); refine wpQuiet_nil ?_)
      refine mix_end ?_
      clear z0 z1 u0 u1 u2 v0 v1 v2
      go_wp2
      go_roundw
      case rel => exact ⟨j + 1, by omega, by go_num, HQD.out⟩
      case measure => simp [intOf]; omega
    · have e1 : j = m := by omega
      subst e1
      have hge : ¬ (j : Int) < (j : Int) := by omega
      go_wp2
      go_ret
      exact ⟨rfl, HQ1.out.trans HQ2.out⟩
end Go.Proofs.Ytcgnihgebifcjaa
