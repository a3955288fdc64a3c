/- Contract: Records, whose results may be written. -/
import Derived.Test.YtfkbdiheccnohaaJWalkD
namespace Go.Proofs.Ytfkbdiheccnohaa
open Go Go.RowKit Go.BigFrame

/-- cells 0 .. n-1 of block g are there and may be written -/
def There (w : World) (g n : Nat) : Prop := ∀ i : Nat, i < n → (∃ v, w.cell? ⟨g, i, none⟩ = some v) ∧ w.frozen? ⟨g, i, none⟩ = false
theorem There.of_own {w : World} {base : Nat} {E : TypeId} {size g n cap : Nat} {cs : List Value} (h : w.ownsRow base E size (.slice (some ⟨g, 0, none⟩) n cap) n cs) : There w g (n * size) := by
  obtain ⟨h1, h2⟩ := h
  rcases h2 with ⟨he, _⟩ | ⟨g', c, cur, he, hb, hg, hn, hm, hs, ht⟩
  · cases he
  · cases he
    intro i hi
    have hlt : i < cur.size := by rw [hs]; exact Nat.lt_of_lt_of_le hi (Nat.mul_le_mul_right _ hn)
    refine ⟨⟨cur[i], ?_⟩, ?_⟩
    · rw [cell_of_row w g i cur E (0, 0) hg]; simp [hlt]
    · simp [World.frozen?, hg]
theorem There.setCell {w : World} {g n : Nat} (h : There w g n) (p : Addr) (u : Value) : There (w.setCell p u) g n := by
  intro i hi
  obtain ⟨⟨v, hv⟩, hf⟩ := h i hi
  obtain ⟨v', hv'⟩ := cell?_setCell_some (w := w) (p := p) (x := u) (q := ⟨g, i, none⟩) (v := v) hv
  exact ⟨⟨v', hv'⟩, by rw [World.frozen?_setCell]; exact hf⟩
theorem There.lt {w : World} {g n : Nat} (h : There w g n) (hn : 0 < n) : g < w.heap.size := by
  obtain ⟨⟨v, hv⟩, _⟩ := h 0 hn
  exact World.block_lt_of_cell? _ _ hv
theorem There.qf {w w' : World} {F : Nat → Prop} {g n : Nat} (h : There w g n) (q : QF F w w') (hF : ¬ F g) : There w' g n := by
  intro i hi
  obtain ⟨⟨v, hv⟩, hf⟩ := h i hi
  have hb := q.block g (World.block_lt_of_cell? _ _ hv) hF
  exact ⟨⟨v, (World.cell?_of_block (a := ⟨g, i, none⟩) hb).trans hv⟩, (World.frozen?_of_block (a := ⟨g, i, none⟩) hb).trans hf⟩
theorem There.q {w w' : World} {g n : Nat} (h : There w g n) (q : Q w w') : There w' g n := h.qf (F := fun _ => False) (QF.of q) (fun e => e)
/-- records that may be written, their blocks in C -/
def WrR (w : World) (C : Nat → Prop) (vs : List Value) (rs : List (List Int)) : Prop :=
  ∀ (i : Nat) x, rs[i]? = some x → 0 < x.length → ∃ g c, vs[i]? = some (.slice (some ⟨g, 0, none⟩) x.length c) ∧ There w g x.length ∧ C g
theorem WrR.nil (w : World) (C : Nat → Prop) (vs : List Value) : WrR w C vs [] := fun i x h => by simp at h
theorem WrR.qf {w w' : World} {C F : Nat → Prop} {vs : List Value} {rs : List (List Int)} (h : WrR w C vs rs) (q : QF F w w') (hF : ∀ b, C b → ¬ F b) : WrR w' C vs rs := fun i x hx h0 => by
  obtain ⟨g, c, h1, h2, h3⟩ := h i x hx h0
  exact ⟨g, c, h1, h2.qf q (hF g h3), h3⟩
theorem WrR.mono {w : World} {C D : Nat → Prop} {vs : List Value} {rs : List (List Int)} (h : WrR w C vs rs) (hD : ∀ b, C b → D b) : WrR w D vs rs := fun i x hx h0 => by
  obtain ⟨g, c, h1, h2, h3⟩ := h i x hx h0
  exact ⟨g, c, h1, h2, hD g h3⟩
theorem WrR.set {w : World} {C : Nat → Prop} {vs : List Value} {rs : List (List Int)} (h : WrR w C vs rs) (p : Addr) (v : Value) : WrR (w.setCell p v) C vs rs := fun i x hx h0 => by
  obtain ⟨g, c, h1, h2, h3⟩ := h i x hx h0
  exact ⟨g, c, h1, h2.setCell p v, h3⟩
theorem WrR.snoc {w : World} {C : Nat → Prop} {vs : List Value} {rs : List (List Int)} (h : WrR w C vs rs) (hl : vs.length = rs.length) (x : List Int) (b : Option Addr) (m cb : Nat) (hm : m = x.length) (hx : 0 < x.length → ∃ g, b = some ⟨g, 0, none⟩ ∧ There w g x.length ∧ C g) : WrR w C (vs ++ [.slice b m cb]) (rs ++ [x]) := by
  subst hm
  intro i y hy h0
  rcases Nat.lt_or_ge i rs.length with hi | hi
  · rw [List.getElem?_append_left hi] at hy
    obtain ⟨g, c, h1, h2, h3⟩ := h i y hy h0
    exact ⟨g, c, by rw [List.getElem?_append_left (by rw [hl]; exact hi)]; exact h1, h2, h3⟩
  · rw [List.getElem?_append_right hi] at hy
    have h00 : i - rs.length = 0 := by
      rcases Nat.eq_zero_or_pos (i - rs.length) with h | h
      · exact h
      · rw [List.getElem?_eq_none (by simp; omega)] at hy; cases hy
    rw [h00] at hy
    simp only [List.getElem?_cons_zero, Option.some.injEq] at hy
    subst hy
    obtain ⟨g, rfl, h2, h3⟩ := hx h0
    refine ⟨g, cb, ?_, h2, h3⟩
    rw [List.getElem?_append_right (by rw [hl]; exact hi), hl, h00]
    rfl
def InC (w : World) (base : Nat) (a : Option Addr) (b : Nat) : Prop := base ≤ b ∧ b < w.heap.size ∧ ∀ y, a = some y → y.block ≠ b
theorem WrR.push {w w1 w9 : World} {base n cap m cb : Nat} {a a' b : Option Addr} {vs : List Value} {rs : List (List Int)} {x : List Int} (h : WrR w (InC w base a) vs rs) (hl : vs.length = rs.length) (q : Q w w1)
    (hgrow : w1.grownBy w9 (Value.slice a n cap).ownBlock) {cap' : Nat}
    (hT : ∀ g, (Value.slice a' (n + 1) cap').ownBlock = some g → (Value.slice a n cap).ownBlock = some g ∨ g = w1.heap.size) (hm : m = x.length)
    (hx : 0 < x.length → ∃ g, b = some ⟨g, 0, none⟩ ∧ There w1 g x.length ∧ base ≤ g ∧ ∀ z, a = some z → z.block ≠ g) : WrR w9 (InC w9 base a') (vs ++ [.slice b m cb]) (rs ++ [x]) := by
  have hg : QF (fun i => ∃ y, a = some y ∧ y.block = i) w1 w9 := QF.grown hgrow (fun k hk => by
    cases a with
    | none => cases hk
    | some y => exact ⟨y, rfl, Option.some.inj (show some y.block = some k from hk)⟩)
  have hT' : ∀ y, a' = some y → (∃ z, a = some z ∧ z.block = y.block) ∨ y.block = w1.heap.size := fun y hy => by
    subst hy
    rcases hT y.block rfl with h | h
    · left
      cases a with
      | none => cases h
      | some z => exact ⟨z, rfl, Option.some.inj (show some z.block = some y.block from h)⟩
    · exact .inr h
  refine (((h.qf (F := fun _ => False) (QF.of q) (fun _ _ e => e)).qf hg (fun i hi ⟨y, hy, he⟩ => hi.2.2 y hy he)).mono (fun i hi => ⟨hi.1, Nat.lt_of_lt_of_le hi.2.1 (Nat.le_trans q.size hg.size), fun y hy he => ?_⟩)).snoc hl x b m cb hm (fun h0 => ?_)
  · obtain ⟨g, rfl, h2, h3, h4⟩ := hx h0
    have hlt := h2.lt h0
    refine ⟨g, rfl, h2.qf hg (fun ⟨y, hy, he⟩ => h4 y hy he), h3, Nat.lt_of_lt_of_le hlt hg.size, fun y hy he => ?_⟩
    rcases hT' y hy with ⟨z, hz, hzy⟩ | h'
    · exact h4 z hz (hzy.trans he)
    · omega
  · rcases hT' y hy with ⟨z, hz, hzy⟩ | h'
    · exact hi.2.2 z hz (hzy.trans he)
    · have := hi.2.1; have := q.size; omega
def RetRecsW (w : World) (rs : List (List Int)) (e : Ending) (w' : World) : Prop := ∃ a cap vs, e = .returned (.slice a rs.length cap) ∧ OwnRecs w' w.heap.size a rs.length cap vs rs ∧ WrR w' (InC w' w.heap.size a) vs rs ∧ Q w w'
set_option maxRecDepth 100000 in
set_option maxHeartbeats 1000000 in
theorem jRecordsW_any (LB : Nat) (col : Nat → Nat) (rs : List (List Int)) (w : World) (hL : LogAt w LB col rs) : Calls Try.prog 16 #[.pointer (some ⟨LB, 0, none⟩)] w (RetRecsW w rs) := by
  obtain ⟨i0, hi, hz0, hz1, hz2⟩ := info_parts infoBytes
  have HI := Lib.hid hi
  have HOK := Lib.hid hL.ok
  have hsm := hL.small
  obtain ⟨a, cap, hbox, hsl⟩ := hL.slr
  have HSL := Lib.hid hsl
  have c0 := (hbox.2 0 _ rfl).1
  have hlt := hbox.1
  clear hi hL hbox hsl
  go_enter Try.func16, Try.ntmps16
  go_wp2_with (fail)
  clear c0
  go_loopw [3, 11] (fun v i wr => ∃ (k cp : Nat) (b : Option Addr) (vs : List Value), k ≤ rs.length ∧ i = .int .i64 k ∧ v = .slice b k cp ∧ OwnRecs wr w.heap.size b k cp vs (rs.take k) ∧ WrR wr (InC wr w.heap.size b) vs (rs.take k) ∧ Q w wr) (fun _ i _ => rs.length - (intOf i).toNat)
  case atStart => exact ⟨0, 0, none, [], by omega, rfl, rfl, OwnRecs.nil _ _, WrR.nil _ _ _, Q.refl _⟩
  case round =>
    obtain ⟨k, cp, b, vs, hkn, rfl, rfl, hown, hwr, hq⟩ := hrel
    have HO := Lib.hid hown
    have HW := Lib.hid hwr
    have HQ := Lib.hid hq
    clear hown hq hwr
    by_cases h1 : k < rs.length
    · obtain ⟨g, o, d, dc, rfl, hc, hsd, _⟩ := (HSL.out.q HQ.out).at k h1
      have HSD := Lib.hid hsd
      have HN := Lib.hid (take_snoc_get rs k h1)
      have HX := Lib.hid (HOK.out _ (List.getElem_mem h1))
      clear hsd
      generalize rs[k] = x at *
      go_wp2_with (fail)
      refine (cloneBytes_any d x.length dc x wr HSD.out (by have := HX.out.1; omega)).mono ?_
      rintro e w1 ⟨b1, cp1, rfl, hown1, hq1⟩
      have HO1 := Lib.hid hown1
      have HQ1 := Lib.hid hq1
      have HB := Lib.hid (HQ.out.trans hq1).size
      clear hown1 hq1
      go_wp2_with (at_builtin; refine wpList_append_sl rfl _ _ 23 rfl w.heap.size 27 i0 _ 1 24 Try.underlying23 HI.out hz0 hz1 hz2 rfl (by decide) _ k _ rfl (own_q HO.out.own (HQ1.out.alloc _)) (some ⟨w1.heap.size, 0, none⟩) 1 1 [.slice b1 x.length cp1] rfl (slAlloc w1 [.slice b1 x.length cp1] 27 1 rfl) (by simp [Value.oneCell']) (by omega) (by decide) (by have := HB.out; simp; omega) ?_; intro a' cap' w' hown' hgrow' hT')
      have HP := Lib.hid (HO.out.push (x := x) (HQ1.out.alloc _) hown' hgrow' hT' rfl ((Sl.of_own HO1.out).q ((Q.refl w1).alloc _)) (fun y hy => by
        have h2 := own_pos HO1.out y hy
        have h3 := HQ.out.size
        refine ⟨by omega, by rw [World.size_alloc]; omega, fun z hz he => ?_⟩
        have h4 := own_pos HO.out.own z hz
        omega))
      have HPW := Lib.hid (HW.out.push (x := x) (b := b1) (m := x.length) (cb := cp1) HO.out.recs.1 (HQ1.out.alloc _) hgrow' hT' rfl (fun h0 => by
        obtain ⟨g1, rfl, hb1, hg1⟩ := own_addr1 HO1.out h0
        have hth := There.of_own HO1.out
        rw [Nat.mul_one] at hth
        refine ⟨g1, rfl, hth.q ((Q.refl w1).alloc _), Nat.le_trans HQ.out.size hb1, fun z hz he => ?_⟩
        have h4 := own_pos HO.out.own z hz
        omega))
      have HQ2 := Lib.hid ((HQ.out.trans (HQ1.out.alloc _)).grown_own (own_q HO.out.own (HQ1.out.alloc _)) (Nat.le_refl _) hgrow')
      clear hown' hgrow' hT'
      go_roundw
      case rel => exact ⟨k + 1, cap', a', _, by omega, by go_num, rfl, by rw [HN.out]; exact HP.out, by rw [HN.out]; exact HPW.out, HQ2.out⟩
      case measure => simp [intOf]; omega
    · have e1 : k = rs.length := by omega
      have HE := Lib.hid (show rs.take k = rs from List.take_of_length_le (by omega))
      have h1' : ¬ (k : Int) < rs.length := by omega
      go_wp2
      go_ret
      rw [HE.out, e1] at HO
      rw [HE.out] at HW
      exact ⟨b, cp, vs, rfl, HO.out, HW.out, HQ.out⟩
end Go.Proofs.Ytfkbdiheccnohaa
