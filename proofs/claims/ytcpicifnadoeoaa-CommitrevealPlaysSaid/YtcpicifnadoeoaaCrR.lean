/- Contracts: the reference's rounds. -/
import Derived.Test.YtcpicifnadoeoaaCrN
import Derived.Test.YtcpicifnadoeoaaOwnSet
import Derived.Deep.Cut
namespace Go.Proofs.Ytcpicifnadoeoaa
open Go Go.RowKit Go.BigFrame

/-- the cells of a state of the reference -/
def oneC (s : St) : List Value := [.bool s.com, .int .u64 s.c, .bool s.rev, .int .i64 (s.inn % 3 - 1), .int .i64 (s.inn / 3 % 3 - 1), .int .i64 (s.inn / 9)]
/-- its zero value: the input's fields are zero -/
theorem oneC_len (s : St) : (oneC s).length = 6 := rfl
theorem infoOne : (Try.prog.info? 83).map (fun i => (i.zero, i.size, i.bytes)) = some (some (.agg #[.bool false, .int .u64 0, .bool false, .int .i64 0, .int .i64 0, .int .i64 0]), 6, 48) := by kernel_rfl
theorem rNew31_any (p : Nat) (t : Int) (w : World) (hp : p ≤ 8) : Calls Try.prog 27 #[.int .i64 p, .int .i64 t] w fun e w' => ∃ a cap, e = .returned (.agg #[.int .i64 t, .slice a p cap, .bool false]) ∧ w'.ownsRow w.heap.size 83 6 (.slice a p cap) p ((List.replicate p st0).flatMap oneC) ∧ Q w w' := by
  obtain ⟨i0, hi, hz0, hz1, hz2⟩ := info_parts infoOne
  obtain ⟨w', hrun, r1, r2⟩ := run_make_full (P := Try.prog) (w.alloc (.cells #[.int .i64 0, .slice none 0 0, .bool false] 56)) w.heap.size 54 83 i0 _ 6 Try.underlying54 hi hz0 hz1 .i64 .i64 p (by rw [hz2]; omega) (by unfold maxLen; omega) (by simp)
  have hq : Q w w' := ((Q.refl w).alloc _).grown r2 (fun k hk => by cases hk)
  have hb : Box w' w.heap.size [.int .i64 0, .slice none 0 0, .bool false] := by
    have b := Box.new w [.int .i64 0, .slice none 0 0, .bool false] 56
    have hk := r2.block w.heap.size (by simp) (by simp)
    exact ⟨Nat.lt_of_lt_of_le b.1 r2.size, fun k v hv => ⟨(World.cell?_of_block (a := ⟨w.heap.size, k, none⟩) hk).trans (b.2 k v hv).1, (World.frozen?_of_block (a := ⟨w.heap.size, k, none⟩) hk).trans (b.2 k v hv).2⟩⟩
  have hty : TyAt w' w.heap.size 56 := by
    have hk := r2.block w.heap.size (by simp) (by simp)
    exact ⟨_, _, hk.trans (heap_alloc_new w _)⟩
  have hcs : (madeCells (Value.agg #[.bool false, .int .u64 0, .bool false, .int .i64 0, .int .i64 0, .int .i64 0]).cells (p * 6)).toList = (List.replicate p st0).flatMap oneC := by
    simp only [madeCells, Array.toList_map, Array.toList_range]
    rcases (show p = 0 ∨ p = 1 ∨ p = 2 ∨ p = 3 ∨ p = 4 ∨ p = 5 ∨ p = 6 ∨ p = 7 ∨ p = 8 by omega) with rfl | rfl | rfl | rfl | rfl | rfl | rfl | rfl | rfl <;> rfl
  rw [hcs] at r1
  have HO := Lib.hid r1
  have HQ := Lib.hid hq
  have HT := Lib.hid hty
  have HW := Lib.hid (Nat.le_refl w.heap.size)
  have HB := Lib.hid hb
  have hlt := hb.1
  obtain ⟨c0, f0⟩ := hb.2 0 _ rfl
  obtain ⟨c1, f1⟩ := hb.2 1 _ rfl
  obtain ⟨c2, f2⟩ := hb.2 2 _ rfl
  clear r1 r2 hq hty hb hcs hi
  go_enter Try.func27, Try.ntmps27
  go_wp2
  have o1 := HT.out.own (by decide) HO.out 0 (.int .i64 t)
  have t1 := HT.out.set ⟨w.heap.size, 0, none⟩ (.int .i64 t)
  have o2 := t1.own (by decide) o1 1 (.slice (some ⟨w.heap.size + 1, 0, none⟩) p p)
  have t2 := t1.set ⟨w.heap.size, 1, none⟩ (.slice (some ⟨w.heap.size + 1, 0, none⟩) p p)
  have o3 := t2.own (by decide) o2 2 (.bool false)
  rw [World.size_alloc] at o3
  have q3 := ((HQ.out.setCell (p := ⟨w.heap.size, 0, none⟩) HW.out (.int .i64 t)).setCell (p := ⟨w.heap.size, 1, none⟩) HW.out (.slice (some ⟨w.heap.size + 1, 0, none⟩) p p)).setCell (p := ⟨w.heap.size, 2, none⟩) HW.out (.bool false)
  have b3 := Box.set (Box.set (Box.set HB.out 0 (.int .i64 t) (by simp)) 1 (.slice (some ⟨w.heap.size + 1, 0, none⟩) p p) (by simp)) 2 (.bool false) (by simp)
  have O3 := Lib.hid o3
  have Q3 := Lib.hid q3
  clear o1 o2 o3 t1 t2 q3 c0 c1 c2 f0 f1 f2 HO HQ HT
  generalize (((w'.setCell ⟨w.heap.size, 0, none⟩ (.int .i64 t)).setCell ⟨w.heap.size, 1, none⟩ (.slice (some ⟨w.heap.size + 1, 0, none⟩) p p)).setCell ⟨w.heap.size, 2, none⟩ (.bool false)) = W at *
  obtain ⟨_, c0, c1, c2⟩ := Box.here3 b3
  clear b3
  refine bodyPost_ret (v := .agg #[.int .i64 t, .slice (some ⟨w.heap.size + 1, 0, none⟩) p p, .bool false]) (by simp [results, Try.results27, go_sem, c0, c1, c2]) rfl ?_
  exact ⟨_, _, rfl, O3.out, Q3.out⟩

/-- six cells of an element set at once -/
theorem own_setL {w : World} {base : Nat} {E : TypeId} {size g n cap : Nat} {cs : List Value} (h : w.ownsRow base E size (.slice (some ⟨g, 0, none⟩) n cap) n cs) (k : Nat) (v : Value) :
    (w.setCell ⟨g, k, none⟩ v).ownsRow base E size (.slice (some ⟨g, 0, none⟩) n cap) n (cs.set k v) := by
  obtain ⟨h1, h2⟩ := h
  refine ⟨by simpa using h1, ?_⟩
  rcases h2 with ⟨he, _⟩ | ⟨g', c, cur, he, hb, hg, hn, hm, hs, ht⟩
  · cases he
  · cases he
    refine .inr ⟨g, cap, cur.setIfInBounds k v, rfl, hb, ?_, hn, hm, by simpa using hs, ?_⟩
    · obtain ⟨hlt, hk2⟩ := Array.getElem?_eq_some_iff.1 hg
      show (w.heap.modify g _)[g]? = _
      rw [Array.getElem?_eq_getElem (by rw [Array.size_modify]; exact hlt), Array.getElem_modify_self, hk2]
      rfl
    · rw [← ht]
      simp [List.take_set]
theorem own_there {w : World} {base : Nat} {E : TypeId} {size g n cap : Nat} {cs : List Value} (h : w.ownsRow base E size (.slice (some ⟨g, 0, none⟩) n cap) n cs) (k : Nat) (v : Value) (hv : cs[k]? = some v) : w.cell? ⟨g, k, none⟩ = some v ∧ w.frozen? ⟨g, k, none⟩ = false := by
  have hc := h.cells (show (Value.slice (some ⟨g, 0, none⟩) n cap).ownBlock = some g from rfl) k v hv
  refine ⟨by rw [Addr.add_lit, Nat.zero_add] at hc; exact hc, ?_⟩
  rcases h.2 with ⟨he, _⟩ | ⟨g', c, cur, he, hb, hg, _⟩
  · cases he
  · cases he; simp [World.frozen?, hg]
theorem own_addr6 {w : World} {base : Nat} {E : TypeId} {size n cap : Nat} {a : Option Addr} {cs : List Value} (h : w.ownsRow base E size (.slice a n cap) n cs) (hn : 0 < n) : ∃ g, a = some ⟨g, 0, none⟩ ∧ base ≤ g ∧ g < w.heap.size := by
  rcases h.2 with ⟨_, h0⟩ | ⟨g', c, cur, he, hb, hg, _⟩
  · omega
  · cases he; exact ⟨g', rfl, hb, (Array.getElem?_eq_some_iff.1 hg).1⟩
theorem six_set (sts : List St) (i : Nat) (hi : i < sts.length) (y : St) : ((((((sts.flatMap oneC).set (i * 6 + 0) (.bool y.com)).set (i * 6 + 1) (.int .u64 y.c)).set (i * 6 + 2) (.bool y.rev)).set (i * 6 + 3) (.int .i64 (y.inn % 3 - 1))).set (i * 6 + 4) (.int .i64 (y.inn / 3 % 3 - 1))).set (i * 6 + 5) (.int .i64 (y.inn / 9)) = (sts.set i y).flatMap oneC := by
  have h6 : ∀ (l : List (List Value)), (∀ x ∈ l, x.length = 6) → ∀ (c : List Value), c.length = 6 → ∀ j, ∀ x ∈ l.set j c, x.length = 6 := by
    intro l hl c hc j x hx
    rcases List.mem_or_eq_of_mem_set hx with h | h
    · exact hl x h
    · rw [h]; exact hc
  have l0 : ∀ x ∈ sts.map oneC, x.length = 6 := by
    intro x hx
    obtain ⟨s, _, rfl⟩ := List.mem_map.1 hx
    rfl
  have g0 : (sts.map oneC)[i]? = some (oneC sts[i]) := by simp [hi]
  have hil : i < (sts.map oneC).length := by simpa using hi
  rw [List.flatMap_def, List.flatMap_def]
  have g : ∀ c : List Value, ((sts.map oneC).set i c)[i]? = some c := fun c => by rw [List.getElem?_set_self hil]
  have len : ∀ (c : List Value) j u, c.length = 6 → (c.set j u).length = 6 := fun c j u h => by simpa using h
  have n0 : (oneC sts[i]).length = 6 := rfl
  rw [flat_setL 6 _ i 0 _ _ l0 g0 (by omega)]
  rw [flat_setL 6 _ i 1 _ _ (h6 _ l0 _ (len _ _ _ n0) i) (g _) (by omega), List.set_set]
  rw [flat_setL 6 _ i 2 _ _ (h6 _ l0 _ (len _ _ _ (len _ _ _ n0)) i) (g _) (by omega), List.set_set]
  rw [flat_setL 6 _ i 3 _ _ (h6 _ l0 _ (len _ _ _ (len _ _ _ (len _ _ _ n0))) i) (g _) (by omega), List.set_set]
  rw [flat_setL 6 _ i 4 _ _ (h6 _ l0 _ (len _ _ _ (len _ _ _ (len _ _ _ (len _ _ _ n0)))) i) (g _) (by omega), List.set_set]
  rw [flat_setL 6 _ i 5 _ _ (h6 _ l0 _ (len _ _ _ (len _ _ _ (len _ _ _ (len _ _ _ (len _ _ _ n0))))) i) (g _) (by omega), List.set_set]
  rw [List.map_set]
  rfl

theorem rWith31_any (t : Int) (a : Option Addr) (p cap : Nat) (o : Bool) (sts : List St) (i : Nat) (y : St) (w : World) (hs : Sl w 6 a p cap (sts.flatMap oneC)) (hp : p ≤ 8) (hl : sts.length = p) (hi : i < p) :
    Calls Try.prog 41 #[.agg #[.int .i64 t, .slice a p cap, .bool o], .int .i64 i, .agg #[.bool y.com, .int .u64 y.c, .bool y.rev, .int .i64 (y.inn % 3 - 1), .int .i64 (y.inn / 3 % 3 - 1), .int .i64 (y.inn / 9)]] w fun e w' =>
      ∃ b cb, e = .returned (.agg #[.int .i64 t, .slice b p cb, .bool o]) ∧ w'.ownsRow w.heap.size 83 6 (.slice b p cb) p ((sts.set i y).flatMap oneC) ∧ Q w w' := by
  obtain ⟨i0, hi0, hz0, hz1, hz2⟩ := info_parts infoOne
  have HI := Lib.hid hi0
  have HS := Lib.hid hs
  clear hi0
  have q1 : Q w (((w.alloc (.cells #[.int .i64 t, .slice a p cap, .bool o] 56)).alloc (.cells #[.bool y.com, .int .u64 y.c, .bool y.rev, .int .i64 (y.inn % 3 - 1), .int .i64 (y.inn / 3 % 3 - 1), .int .i64 (y.inn / 9)] 83)).alloc (.cells #[.int .i64 0, .slice none 0 0, .bool false] 56)) := (((Q.refl w).alloc _).alloc _).alloc _
  have b0 : Box (((w.alloc (.cells #[.int .i64 t, .slice a p cap, .bool o] 56)).alloc (.cells #[.bool y.com, .int .u64 y.c, .bool y.rev, .int .i64 (y.inn % 3 - 1), .int .i64 (y.inn / 3 % 3 - 1), .int .i64 (y.inn / 9)] 83)).alloc (.cells #[.int .i64 0, .slice none 0 0, .bool false] 56)) w.heap.size [.int .i64 t, .slice a p cap, .bool o] := ((Box.new w [.int .i64 t, .slice a p cap, .bool o] 56).alloc _).alloc _
  have b1 : Box (((w.alloc (.cells #[.int .i64 t, .slice a p cap, .bool o] 56)).alloc (.cells #[.bool y.com, .int .u64 y.c, .bool y.rev, .int .i64 (y.inn % 3 - 1), .int .i64 (y.inn / 3 % 3 - 1), .int .i64 (y.inn / 9)] 83)).alloc (.cells #[.int .i64 0, .slice none 0 0, .bool false] 56)) (w.heap.size + 1) [.bool y.com, .int .u64 y.c, .bool y.rev, .int .i64 (y.inn % 3 - 1), .int .i64 (y.inn / 3 % 3 - 1), .int .i64 (y.inn / 9)] := by
    have := (Box.new (w.alloc (.cells #[.int .i64 t, .slice a p cap, .bool o] 56)) [.bool y.com, .int .u64 y.c, .bool y.rev, .int .i64 (y.inn % 3 - 1), .int .i64 (y.inn / 3 % 3 - 1), .int .i64 (y.inn / 9)] 83).alloc (.cells #[.int .i64 0, .slice none 0 0, .bool false] 56)
    rw [World.size_alloc] at this
    exact this
  have b2 : Box (((w.alloc (.cells #[.int .i64 t, .slice a p cap, .bool o] 56)).alloc (.cells #[.bool y.com, .int .u64 y.c, .bool y.rev, .int .i64 (y.inn % 3 - 1), .int .i64 (y.inn / 3 % 3 - 1), .int .i64 (y.inn / 9)] 83)).alloc (.cells #[.int .i64 0, .slice none 0 0, .bool false] 56)) (w.heap.size + 1 + 1) [.int .i64 0, .slice none 0 0, .bool false] := by
    have := Box.new ((w.alloc (.cells #[.int .i64 t, .slice a p cap, .bool o] 56)).alloc (.cells #[.bool y.com, .int .u64 y.c, .bool y.rev, .int .i64 (y.inn % 3 - 1), .int .i64 (y.inn / 3 % 3 - 1), .int .i64 (y.inn / 9)] 83)) [.int .i64 0, .slice none 0 0, .bool false] 56
    rw [World.size_alloc, World.size_alloc] at this
    exact this
  have t0 : TyAt (((w.alloc (.cells #[.int .i64 t, .slice a p cap, .bool o] 56)).alloc (.cells #[.bool y.com, .int .u64 y.c, .bool y.rev, .int .i64 (y.inn % 3 - 1), .int .i64 (y.inn / 3 % 3 - 1), .int .i64 (y.inn / 9)] 83)).alloc (.cells #[.int .i64 0, .slice none 0 0, .bool false] 56)) w.heap.size 56 := ((show TyAt (w.alloc (.cells #[.int .i64 t, .slice a p cap, .bool o] 56)) w.heap.size 56 from ⟨_, _, heap_alloc_new w _⟩).q ((Q.refl _).alloc _)).q ((Q.refl _).alloc _)
  have t2 : TyAt (((w.alloc (.cells #[.int .i64 t, .slice a p cap, .bool o] 56)).alloc (.cells #[.bool y.com, .int .u64 y.c, .bool y.rev, .int .i64 (y.inn % 3 - 1), .int .i64 (y.inn / 3 % 3 - 1), .int .i64 (y.inn / 9)] 83)).alloc (.cells #[.int .i64 0, .slice none 0 0, .bool false] 56)) (w.heap.size + 1 + 1) 56 := by
    have : TyAt (((w.alloc (.cells #[.int .i64 t, .slice a p cap, .bool o] 56)).alloc (.cells #[.bool y.com, .int .u64 y.c, .bool y.rev, .int .i64 (y.inn % 3 - 1), .int .i64 (y.inn / 3 % 3 - 1), .int .i64 (y.inn / 9)] 83)).alloc (.cells #[.int .i64 0, .slice none 0 0, .bool false] 56)) ((w.alloc (.cells #[.int .i64 t, .slice a p cap, .bool o] 56)).alloc (.cells #[.bool y.com, .int .u64 y.c, .bool y.rev, .int .i64 (y.inn % 3 - 1), .int .i64 (y.inn / 3 % 3 - 1), .int .i64 (y.inn / 9)] 83)).heap.size 56 := ⟨_, _, heap_alloc_new _ _⟩
    rw [World.size_alloc, World.size_alloc] at this
    exact this
  have hsz : (((w.alloc (.cells #[.int .i64 t, .slice a p cap, .bool o] 56)).alloc (.cells #[.bool y.com, .int .u64 y.c, .bool y.rev, .int .i64 (y.inn % 3 - 1), .int .i64 (y.inn / 3 % 3 - 1), .int .i64 (y.inn / 9)] 83)).alloc (.cells #[.int .i64 0, .slice none 0 0, .bool false] 56)).heap.size = w.heap.size + 1 + 1 + 1 := by simp
  obtain ⟨gs, os, ha, hgs, hcs⟩ := hs.pos (by omega)
  have hnews : ∀ j u, (sts.flatMap oneC)[j]? = some u → (((w.alloc (.cells #[.int .i64 t, .slice a p cap, .bool o] 56)).alloc (.cells #[.bool y.com, .int .u64 y.c, .bool y.rev, .int .i64 (y.inn % 3 - 1), .int .i64 (y.inn / 3 % 3 - 1), .int .i64 (y.inn / 9)] 83)).alloc (.cells #[.int .i64 0, .slice none 0 0, .bool false] 56)).cell? ((⟨gs, os, none⟩ : Addr).add j) = some u := fun j u hu => by
    rw [Addr.add_lit]
    exact (q1.cells.1 _ _ hgs).trans (hcs j u hu)
  have hone : ∀ u ∈ sts.flatMap oneC, u.oneCell' = true := by
    intro u hu
    obtain ⟨s, _, h⟩ := List.mem_flatMap.1 hu
    simp only [oneC, List.mem_cons, List.not_mem_nil, or_false] at h
    rcases h with rfl | rfl | rfl | rfl | rfl | rfl <;> rfl
  have hlen6 : (sts.flatMap oneC).length = p * 6 := hs.1
  have HN := Lib.hid hnews
  have HO := Lib.hid hone
  have HL6 := Lib.hid hlen6
  have Q1 := Lib.hid q1
  have HB0 := Lib.hid b0
  have HB1 := Lib.hid b1
  have HB2 := Lib.hid b2
  have HT0 := Lib.hid t0
  have HT2 := Lib.hid t2
  have HSZ := Lib.hid hsz
  subst ha
  clear q1 b0 b1 b2 t0 t2 hsz hnews hone hlen6 hs hcs
  go_enter Try.func41, Try.ntmps41
  go_wp2_with (at_builtin; refine stopAt ?_)
  generalize (((w.alloc (.cells #[.int .i64 t, .slice (some ⟨gs, os, none⟩) p cap, .bool o] 56)).alloc (.cells #[.bool y.com, .int .u64 y.c, .bool y.rev, .int .i64 (y.inn % 3 - 1), .int .i64 (y.inn / 3 % 3 - 1), .int .i64 (y.inn / 9)] 83)).alloc (.cells #[.int .i64 0, .slice none 0 0, .bool false] 56)) = W1 at *
  refine goOn ?_
  refine wpList_append_own _ rfl _ _ 54 rfl W1.heap.size 83 i0 _ 6 48 Try.underlying54 HI.out hz0 hz1 hz2 rfl (by decide) _ 0 _ rfl (World.ownsRow_nil _ _ _ _) ⟨gs, os, none⟩ p cap _ rfl HL6.out HN.out HO.out (by unfold maxLen; omega) (by omega) (Nat.le_refl _) ?_
  intro v2 w2 hown2 hgrow2 _
  rw [Nat.zero_add, List.nil_append] at hown2
  obtain ⟨b, cb, rfl⟩ := ret_shape hown2
  obtain ⟨g, rfl, hgb, hglt⟩ := own_addr6 hown2 (by omega)
  have q12 : Q W1 w2 := (Q.refl W1).grown hgrow2 (fun k hk => by cases hk)
  have q2 : Q w w2 := Q1.out.trans q12
  have hgw : w.heap.size ≤ g := Nat.le_trans Q1.out.size hgb
  have b0 := Box.q HB0.out q12
  have b1 := Box.q HB1.out q12
  have b2 := Box.q HB2.out q12
  have hfar : ∀ B, B < W1.heap.size → B ≠ g := fun B h e => by omega
  have hb0 : w.heap.size < W1.heap.size := by rw [HSZ.out]; omega
  have hb1 : w.heap.size + 1 < W1.heap.size := by rw [HSZ.out]; omega
  have hb2 : w.heap.size + 1 + 1 < W1.heap.size := by rw [HSZ.out]; omega
  have hn1 : w.heap.size + 1 ≠ g := hfar _ hb1
  obtain ⟨c0, f0⟩ := own_there hown2 (i * 6) _ (by rw [← Nat.add_zero (i * 6)]; rw [flat_get oneC 6 oneC_len sts i 0 (by omega) (by omega)]; rfl)
  obtain ⟨c1, f1⟩ := own_there hown2 (i * 6 + 1) _ (by rw [flat_get oneC 6 oneC_len sts i 1 (by omega) (by omega)]; rfl)
  obtain ⟨c2, f2⟩ := own_there hown2 (i * 6 + 2) _ (by rw [flat_get oneC 6 oneC_len sts i 2 (by omega) (by omega)]; rfl)
  obtain ⟨c3, f3⟩ := own_there hown2 (i * 6 + 3) _ (by rw [flat_get oneC 6 oneC_len sts i 3 (by omega) (by omega)]; rfl)
  obtain ⟨c4, f4⟩ := own_there hown2 (i * 6 + 4) _ (by rw [flat_get oneC 6 oneC_len sts i 4 (by omega) (by omega)]; rfl)
  obtain ⟨c5, f5⟩ := own_there hown2 (i * 6 + 5) _ (by rw [flat_get oneC 6 oneC_len sts i 5 (by omega) (by omega)]; rfl)
  have O3 := Lib.hid (own_setL (own_setL (own_setL (own_setL (own_setL (own_setL hown2 (i * 6) (.bool y.com)) (i * 6 + 1) (.int .u64 y.c)) (i * 6 + 2) (.bool y.rev)) (i * 6 + 3) (.int .i64 (y.inn % 3 - 1))) (i * 6 + 4) (.int .i64 (y.inn / 3 % 3 - 1))) (i * 6 + 5) (.int .i64 (y.inn / 9)))
  have Q3 := Lib.hid ((((((q2.setCell (p := ⟨g, i * 6, none⟩) hgw (.bool y.com)).setCell (p := ⟨g, i * 6 + 1, none⟩) hgw (.int .u64 y.c)).setCell (p := ⟨g, i * 6 + 2, none⟩) hgw (.bool y.rev)).setCell (p := ⟨g, i * 6 + 3, none⟩) hgw (.int .i64 (y.inn % 3 - 1))).setCell (p := ⟨g, i * 6 + 4, none⟩) hgw (.int .i64 (y.inn / 3 % 3 - 1))).setCell (p := ⟨g, i * 6 + 5, none⟩) hgw (.int .i64 (y.inn / 9)))
  have B0 := Lib.hid (Box.set_far (Box.set_far (Box.set_far (Box.set_far (Box.set_far (Box.set_far b0 (i * 6) (.bool y.com) (hfar _ hb0)) (i * 6 + 1) (.int .u64 y.c) (hfar _ hb0)) (i * 6 + 2) (.bool y.rev) (hfar _ hb0)) (i * 6 + 3) (.int .i64 (y.inn % 3 - 1)) (hfar _ hb0)) (i * 6 + 4) (.int .i64 (y.inn / 3 % 3 - 1)) (hfar _ hb0)) (i * 6 + 5) (.int .i64 (y.inn / 9)) (hfar _ hb0))
  have B2 := Lib.hid (Box.set_far (Box.set_far (Box.set_far (Box.set_far (Box.set_far (Box.set_far b2 (i * 6) (.bool y.com) (hfar _ hb2)) (i * 6 + 1) (.int .u64 y.c) (hfar _ hb2)) (i * 6 + 2) (.bool y.rev) (hfar _ hb2)) (i * 6 + 3) (.int .i64 (y.inn % 3 - 1)) (hfar _ hb2)) (i * 6 + 4) (.int .i64 (y.inn / 3 % 3 - 1)) (hfar _ hb2)) (i * 6 + 5) (.int .i64 (y.inn / 9)) (hfar _ hb2))
  have T0 := Lib.hid (((((((HT0.out.q q12).set ⟨g, i * 6, none⟩ (.bool y.com)).set ⟨g, i * 6 + 1, none⟩ (.int .u64 y.c)).set ⟨g, i * 6 + 2, none⟩ (.bool y.rev)).set ⟨g, i * 6 + 3, none⟩ (.int .i64 (y.inn % 3 - 1))).set ⟨g, i * 6 + 4, none⟩ (.int .i64 (y.inn / 3 % 3 - 1))).set ⟨g, i * 6 + 5, none⟩ (.int .i64 (y.inn / 9)))
  have T2 := Lib.hid (((((((HT2.out.q q12).set ⟨g, i * 6, none⟩ (.bool y.com)).set ⟨g, i * 6 + 1, none⟩ (.int .u64 y.c)).set ⟨g, i * 6 + 2, none⟩ (.bool y.rev)).set ⟨g, i * 6 + 3, none⟩ (.int .i64 (y.inn % 3 - 1))).set ⟨g, i * 6 + 4, none⟩ (.int .i64 (y.inn / 3 % 3 - 1))).set ⟨g, i * 6 + 5, none⟩ (.int .i64 (y.inn / 9)))
  obtain ⟨y0, _⟩ := b1.2 0 _ rfl
  obtain ⟨y1, _⟩ := b1.2 1 _ rfl
  obtain ⟨y2, _⟩ := b1.2 2 _ rfl
  obtain ⟨y3, _⟩ := b1.2 3 _ rfl
  obtain ⟨y4, _⟩ := b1.2 4 _ rfl
  obtain ⟨y5, _⟩ := b1.2 5 _ rfl
  have hyl := b1.1
  clear b0 b1 b2 hown2 hgrow2 q12 q2 HB0 HB1 HB2 HT0 HT2 Q1 HN HO HL6 HI
  go_upto_region 4 with fail
  generalize ((((((w2.setCell ⟨g, i * 6, none⟩ (.bool y.com)).setCell ⟨g, i * 6 + 1, none⟩ (.int .u64 y.c)).setCell ⟨g, i * 6 + 2, none⟩ (.bool y.rev)).setCell ⟨g, i * 6 + 3, none⟩ (.int .i64 (y.inn % 3 - 1))).setCell ⟨g, i * 6 + 4, none⟩ (.int .i64 (y.inn / 3 % 3 - 1))).setCell ⟨g, i * 6 + 5, none⟩ (.int .i64 (y.inn / 9))) = W3 at *
  clear c0 c1 c2 c3 c4 c5 f0 f1 f2 f3 f4 f5 y0 y1 y2 y3 y4 y5
  have hne : w.heap.size + 1 + 1 ≠ w.heap.size := by omega
  have b0 := B0.out
  have b2 := B2.out
  obtain ⟨l0, x0, x1, x2⟩ := Box.here3 b0
  have fx1 := (b0.2 1 _ rfl).2
  obtain ⟨l2, z0, z1, z2⟩ := Box.here3 b2
  have fz0 := (b2.2 0 _ rfl).2
  have fz1 := (b2.2 1 _ rfl).2
  have fz2 := (b2.2 2 _ rfl).2
  have HW := Lib.hid (Nat.le_refl w.heap.size)
  have HW2 := Lib.hid (show w.heap.size ≤ w.heap.size + 1 + 1 by omega)
  have o4 := T0.out.own (by decide) O3.out 1 (.slice (some ⟨g, 0, none⟩) p cb)
  have t4 := T2.out.set ⟨w.heap.size, 1, none⟩ (.slice (some ⟨g, 0, none⟩) p cb)
  have o5 := t4.own (by decide) o4 0 (.int .i64 t)
  have t5 := t4.set ⟨w.heap.size + 1 + 1, 0, none⟩ (.int .i64 t)
  have o6 := t5.own (by decide) o5 1 (.slice (some ⟨g, 0, none⟩) p cb)
  have t6 := t5.set ⟨w.heap.size + 1 + 1, 1, none⟩ (.slice (some ⟨g, 0, none⟩) p cb)
  have o7 := t6.own (by decide) o6 2 (.bool o)
  have q7 := (((Q3.out.setCell (p := ⟨w.heap.size, 1, none⟩) HW.out (.slice (some ⟨g, 0, none⟩) p cb)).setCell (p := ⟨w.heap.size + 1 + 1, 0, none⟩) HW2.out (.int .i64 t)).setCell (p := ⟨w.heap.size + 1 + 1, 1, none⟩) HW2.out (.slice (some ⟨g, 0, none⟩) p cb)).setCell (p := ⟨w.heap.size + 1 + 1, 2, none⟩) HW2.out (.bool o)
  have b7 := Box.set (Box.set (Box.set (Box.set_far b2 1 (.slice (some ⟨g, 0, none⟩) p cb) hne) 0 (.int .i64 t) (by simp)) 1 (.slice (some ⟨g, 0, none⟩) p cb) (by simp)) 2 (.bool o) (by simp)
  have O7 := Lib.hid o7
  have Q7 := Lib.hid q7
  have B7 := Lib.hid b7
  clear o4 o5 o6 o7 t4 t5 t6 q7 b7 b0 b2 B0 B2 T0 T2 O3 Q3
  go_wp2
  generalize ((((W3.setCell ⟨w.heap.size, 1, none⟩ (.slice (some ⟨g, 0, none⟩) p cb)).setCell ⟨w.heap.size + 1 + 1, 0, none⟩ (.int .i64 t)).setCell ⟨w.heap.size + 1 + 1, 1, none⟩ (.slice (some ⟨g, 0, none⟩) p cb)).setCell ⟨w.heap.size + 1 + 1, 2, none⟩ (.bool o)) = W at *
  obtain ⟨_, c0, c1, c2⟩ := Box.here3 B7.out
  clear x0 x1 x2 z0 z1 z2
  refine bodyPost_ret (v := .agg #[.int .i64 t, .slice (some ⟨g, 0, none⟩) p cb, .bool o]) (by simp [results, Try.results41, go_sem, c0, c1, c2]) rfl ?_
  refine ⟨_, _, rfl, ?_, Q7.out⟩
  have hb : w.heap.size ≤ W1.heap.size := by omega
  have h := O7.out
  rw [← Nat.add_zero (i * 6)] at h
  have e := six_set sts i (by omega) y
  simp only [Nat.add_zero] at h e
  rw [e] at h
  obtain ⟨h1, h2⟩ := h
  refine ⟨h1, ?_⟩
  rcases h2 with h2 | ⟨g', c, cur, he, hbb, r⟩
  · exact .inl h2
  · exact .inr ⟨g', c, cur, he, Nat.le_trans hb hbb, r⟩
end Go.Proofs.Ytcpicifnadoeoaa
