/- Lists of records that a call makes; contracts: Records of a log, the reference's Same, Crash. -/
import Derived.Test.YtfkbdiheccnohaaJG
import Derived.Test.YtfkbdiheccnohaaHashMath
import Derived.Lib.Strings
namespace Go.Proofs.Ytfkbdiheccnohaa
open Go Go.RowKit Go.BigFrame

theorem strZ_push34 (zs : List Int) (hb : Bys zs) : ∀ r : ByteArray, strZ (zs.foldl (fun r n => r.push (UInt8.ofNat n.toNat)) r) = strZ r ++ zs := by
  induction zs with
  | nil => intro r; simp
  | cons z zs ih =>
    intro r
    rw [List.foldl_cons, ih (fun b hb' => hb b (List.mem_cons_of_mem _ hb'))]
    have h := hb z List.mem_cons_self
    have e : ((UInt8.ofNat z.toNat).toNat : Int) = z := by
      rw [UInt8.toNat_ofNat']
      omega
    simp [strZ, ByteArray.push]
    simpa using e
theorem strZ_of34 (zs : List Int) (hb : Bys zs) : strZ (strOf zs) = zs := by
  unfold strOf
  rw [strZ_push34 zs hb]
  rfl
theorem strOf_inj {x y : List Int} (hx : Bys x) (hy : Bys y) (h : strOf x = strOf y) : x = y := by rw [← strZ_of34 x hx, h, strZ_of34 y hy]
theorem strEq34 {x y : List Int} (hx : Bys x) (hy : Bys y) : ((strOf x).toList == (strOf y).toList) = decide (x = y) := by
  by_cases h : x = y
  · subst h; simp
  · rw [decide_eq_false h]
    simp only [beq_eq_false_iff_ne, ne_eq]
    intro e
    rw [Lib.toList_data, Lib.toList_data] at e
    exact h (strOf_inj hx hy (ByteArray.ext (Array.toList_inj.1 e)))
/-- a list of records in a row of the call's own, the records in blocks of their own -/
structure OwnRecs (w : World) (base : Nat) (a : Option Addr) (n cap : Nat) (vs : List Value) (rs : List (List Int)) : Prop where
  own : w.ownsRow base 27 1 (.slice a n cap) n vs
  len : n = rs.length
  recs : Recs w (fun b => base ≤ b ∧ b < w.heap.size ∧ ∀ y, a = some y → y.block ≠ b) vs rs
theorem OwnRecs.nil (w : World) (base : Nat) : OwnRecs w base none 0 0 [] [] := ⟨World.ownsRow_nil _ _ _ _, rfl, Recs.nil _ _⟩
theorem OwnRecs.q {w w' : World} {base n cap : Nat} {a : Option Addr} {vs : List Value} {rs : List (List Int)} (h : OwnRecs w base a n cap vs rs) (q : Q w w') : OwnRecs w' base a n cap vs rs :=
  ⟨own_q h.own q, h.len, (h.recs.q q).mono (fun b hb => ⟨hb.1, Nat.lt_of_lt_of_le hb.2.1 q.size, hb.2.2⟩)⟩
theorem OwnRecs.slr {w : World} {base n cap : Nat} {a : Option Addr} {vs : List Value} {rs : List (List Int)} (h : OwnRecs w base a n cap vs rs) : SlR w (fun b => base ≤ b ∧ b < w.heap.size) a n cap rs :=
  ⟨h.len, vs, Sl.of_own h.own, fun y hy => ⟨(own_pos h.own y hy).1, (own_pos h.own y hy).2.1⟩, h.recs.mono fun b hb => ⟨hb.1, hb.2.1⟩⟩
theorem OwnRecs.push {w w1 w9 : World} {base n cap cap' m cb : Nat} {a a' b : Option Addr} {vs : List Value} {rs : List (List Int)} {x : List Int} (h : OwnRecs w base a n cap vs rs) (q : Q w w1)
    (hown : w9.ownsRow base 27 1 (.slice a' (n + 1) cap') (n + 1) (vs ++ [.slice b m cb])) (hgrow : w1.grownBy w9 (Value.slice a n cap).ownBlock)
    (hT : ∀ g, (Value.slice a' (n + 1) cap').ownBlock = some g → (Value.slice a n cap).ownBlock = some g ∨ g = w1.heap.size) (hm : m = x.length) (hs : Sl w1 1 b m cb (bV x))
    (hb : ∀ y, b = some y → base ≤ y.block ∧ y.block < w1.heap.size ∧ ∀ z, a = some z → z.block ≠ y.block) : OwnRecs w9 base a' (n + 1) cap' (vs ++ [.slice b m cb]) (rs ++ [x]) := by
  have h1 := h.q q
  have hg : QF (fun i => ∃ y, a = some y ∧ y.block = i) w1 w9 := QF.grown hgrow (fun k hk => by
    cases a with
    | none => cases hk
    | some y => exact ⟨y, rfl, Option.some.inj (show some y.block = some k from hk)⟩)
  have hT' : ∀ y, a' = some y → (∃ z, a = some z ∧ z.block = y.block) ∨ y.block = w1.heap.size := fun y hy => by
    subst hy
    rcases hT y.block rfl with h | h
    · left
      cases a with
      | none => cases h
      | some z => exact ⟨z, rfl, Option.some.inj (show some z.block = some y.block from h)⟩
    · exact .inr h
  refine ⟨hown, by rw [List.length_append, h.len]; rfl, ?_⟩
  refine ((h1.recs.qf hg (fun i hi ⟨y, hy, he⟩ => hi.2.2 y hy he)).mono (fun i hi => ⟨hi.1, Nat.lt_of_lt_of_le hi.2.1 hg.size, fun y hy he => ?_⟩)).snoc x b m cb hm (hs.qf hg (fun y hy ⟨z, hz, he⟩ => (hb y hy).2.2 z hz he)) (fun y hy => ⟨(hb y hy).1, Nat.lt_of_lt_of_le (hb y hy).2.1 hg.size, fun z hz he => ?_⟩)
  · rcases hT' y hy with ⟨z, hz, hzy⟩ | h'
    · exact hi.2.2 z hz (hzy.trans he)
    · have := hi.2.1; omega
  · rcases hT' z hz with ⟨u, hu, huz⟩ | h'
    · exact (hb y hy).2.2 u hu (huz.trans he)
    · have := (hb y hy).2.1; omega
theorem cell_soft34 {w : World} {g i : Nat} {v : Value} (h : w.cell? ⟨g, i, none⟩ = some v) : ∀ x : After w.drew, x.w.cell? ⟨g, i, none⟩ = some v := fun x =>
  (World.cell?_of_block (a := ⟨g, i, none⟩) (Below.block x.q g (World.block_lt_of_cell? _ _ h))).trans h
/-- what a call that makes a list of records leaves -/
def RetRecs (w : World) (rs : List (List Int)) (e : Ending) (w' : World) : Prop := ∃ a cap vs, e = .returned (.slice a rs.length cap) ∧ OwnRecs w' w.heap.size a rs.length cap vs rs ∧ Q w w'
set_option maxRecDepth 100000 in
set_option maxHeartbeats 1000000 in
theorem jRecords_any (LB : Nat) (col : Nat → Nat) (rs : List (List Int)) (w : World) (hL : LogAt w LB col rs) : Calls Try.prog 16 #[.pointer (some ⟨LB, 0, none⟩)] w (RetRecs w rs) := by
  obtain ⟨i0, hi, hz0, hz1, hz2⟩ := info_parts infoBytes
  have HI := Lib.hid hi
  have HOK := Lib.hid hL.ok
  have hsm := hL.small
  obtain ⟨a, cap, hbox, hsl⟩ := hL.slr
  have HSL := Lib.hid hsl
  have c0 := (hbox.2 0 _ rfl).1
  have hlt := hbox.1
  clear hi hL hbox hsl
  go_enter Try.func16, Try.ntmps16
  go_wp2_with (fail)
  clear c0
  go_loopw [3, 11] (fun v i wr => ∃ (k cp : Nat) (b : Option Addr) (vs : List Value), k ≤ rs.length ∧ i = .int .i64 k ∧ v = .slice b k cp ∧ OwnRecs wr w.heap.size b k cp vs (rs.take k) ∧ Q w wr) (fun _ i _ => rs.length - (intOf i).toNat)
  case atStart => exact ⟨0, 0, none, [], by omega, rfl, rfl, OwnRecs.nil _ _, Q.refl _⟩
  case round =>
    obtain ⟨k, cp, b, vs, hkn, rfl, rfl, hown, hq⟩ := hrel
    have HO := Lib.hid hown
    have HQ := Lib.hid hq
    clear hown hq
    by_cases h1 : k < rs.length
    · obtain ⟨g, o, d, dc, rfl, hc, hsd, _⟩ := (HSL.out.q HQ.out).at k h1
      have HSD := Lib.hid hsd
      have HN := Lib.hid (take_snoc_get rs k h1)
      have HX := Lib.hid (HOK.out _ (List.getElem_mem h1))
      clear hsd
      generalize rs[k] = x at *
      go_wp2_with (fail)
      refine (cloneBytes_any d x.length dc x wr HSD.out (by have := HX.out.1; omega)).mono ?_
      rintro e w1 ⟨b1, cp1, rfl, hown1, hq1⟩
      have HO1 := Lib.hid hown1
      have HQ1 := Lib.hid hq1
      have HB := Lib.hid (HQ.out.trans hq1).size
      clear hown1 hq1
      go_wp2_with (at_builtin; refine wpList_append_sl rfl _ _ 23 rfl w.heap.size 27 i0 _ 1 24 Try.underlying23 HI.out hz0 hz1 hz2 rfl (by decide) _ k _ rfl (own_q HO.out.own (HQ1.out.alloc _)) (some ⟨w1.heap.size, 0, none⟩) 1 1 [.slice b1 x.length cp1] rfl (slAlloc w1 [.slice b1 x.length cp1] 27 1 rfl) (by simp [Value.oneCell']) (by omega) (by decide) (by have := HB.out; simp; omega) ?_; intro a' cap' w' hown' hgrow' hT')
      have HP := Lib.hid (HO.out.push (x := x) (HQ1.out.alloc _) hown' hgrow' hT' rfl ((Sl.of_own HO1.out).q ((Q.refl w1).alloc _)) (fun y hy => by
        have h2 := own_pos HO1.out y hy
        have h3 := HQ.out.size
        refine ⟨by omega, by rw [World.size_alloc]; omega, fun z hz he => ?_⟩
        have h4 := own_pos HO.out.own z hz
        omega))
      have HQ2 := Lib.hid ((HQ.out.trans (HQ1.out.alloc _)).grown_own (own_q HO.out.own (HQ1.out.alloc _)) (Nat.le_refl _) hgrow')
      clear hown' hgrow' hT'
      go_roundw
      case rel => exact ⟨k + 1, cap', a', _, by omega, by go_num, rfl, by rw [HN.out]; exact HP.out, HQ2.out⟩
      case measure => simp [intOf]; omega
    · have e1 : k = rs.length := by omega
      have HE := Lib.hid (show rs.take k = rs from List.take_of_length_le (by omega))
      have h1' : ¬ (k : Int) < rs.length := by omega
      go_wp2
      go_ret
      rw [HE.out, e1] at HO
      exact ⟨b, cp, vs, rfl, HO.out, HQ.out⟩
set_option maxRecDepth 100000 in
set_option maxHeartbeats 1000000 in
theorem rSame34_any (C D : Nat → Prop) (a b : Option Addr) (n m ca cb : Nat) (xs ys : List (List Int)) (w : World) (ha : SlR w C a n ca xs) (hb : SlR w D b m cb ys) (hx : OkRs xs) (hy : OkRs ys) (hn : n ≤ 5000) (hm : m ≤ 5000) :
    Calls Try.prog 15 #[.slice a n ca, .slice b m cb] w fun e w' => e = .returned (.bool (decide (xs = ys))) ∧ Q w w' := by
  have HA := Lib.hid ha
  have HB := Lib.hid hb
  have HX := Lib.hid ha.1.symm
  have HY := Lib.hid hb.1.symm
  have HKX := Lib.hid hx
  have HKY := Lib.hid hy
  clear ha hb hx hy
  by_cases hnm : n = m
  case neg =>
    have hE := Lib.hid (show decide (xs = ys) = false from decide_eq_false (fun e => by have h1 := HX.out; rw [e, HY.out] at h1; omega))
    have hne : ¬ (n : Int) = m := by omega
    have hb : ((n : Int) != (m : Int)) = true := by simp; omega
    go_enter Try.func15, Try.ntmps15
    go_wp2
    go_ret
    exact ⟨by rw [hE.out]; rfl, Q.refl _⟩
  case pos =>
    subst hnm
    go_enter Try.func15, Try.ntmps15
    go_wp2_with (fail)
    go_loopw [5] (fun v wr => ∃ k : Nat, k ≤ n ∧ v = .int .i64 k ∧ Q w wr ∧ xs.take k = ys.take k) (fun v _ => n - (intOf v).toNat)
    case atStart => exact ⟨0, by omega, rfl, Q.refl _, rfl⟩
    case round =>
      obtain ⟨k, hk, rfl, hq, hpre⟩ := hrel
      have HP := Lib.hid hpre
      have HQ := Lib.hid hq
      clear hpre hq
      by_cases h1 : k < n
      · have kx : k < xs.length := by rw [HX.out]; exact h1
        have ky : k < ys.length := by rw [HY.out]; exact h1
        obtain ⟨g, o, d, dc, rfl, c0, s0, _⟩ := (HA.out.q HQ.out).at k kx
        obtain ⟨g2, o2, d2, dc2, rfl, c1, s1, _⟩ := (HB.out.q HQ.out).at k ky
        have HXK := Lib.hid (List.getElem?_eq_getElem kx)
        have HYK := Lib.hid (List.getElem?_eq_getElem ky)
        have HTX := Lib.hid (take_snoc_get xs k kx)
        have HTY := Lib.hid (take_snoc_get ys k ky)
        have HBX := Lib.hid (HKX.out _ (List.getElem_mem kx)).2
        have HBY := Lib.hid (HKY.out _ (List.getElem_mem ky)).2
        have hi : (k : Int) < (n : Int) := by omega
        generalize xs[k] = x at *
        generalize ys[k] = y at *
        clear kx ky
        by_cases hxy : x = y
        · have hXY := Lib.hid hxy
          have hsx : ((strOf x).toList == (strOf y).toList) = true := by rw [strEq34 HBX.out HBY.out]; exact decide_eq_true hXY.out
          clear hxy
          go_wp2_with (fail)
          refine wp_region_mix [(0, true), (1, true), (2, true), (3, true), (4, true), (5, true), (6, true), (7, true), (8, true), (9, true), (10, true)] (by kernel_rfl) (by kernel_rfl) (fun _ _ _ _ _ h => h) ?_
          have HQd := Lib.hid (HQ.out.drew)
          have c0s := cell_soft34 c0
          have c1s := cell_soft34 c1
          have t0 := toStr_soft (s0.q (Q.drew (Q.refl wr)))
          have t1 := toStr_soft (s1.q (Q.drew (Q.refl wr)))
          generalize wr.drew = W at *
          repeat (refine mix_val rfl rfl ?_; go_big_quiet_step (fail); refine wpQuiet_nil ?_)
          refine mix_end ?_
          clear t0 t1 c0s c1s
          go_wp2
          go_roundw
          case rel => exact ⟨k + 1, by omega, by go_num, HQd.out, by rw [HTX.out, HTY.out, HP.out, hXY.out]⟩
          case measure => simp [intOf]; omega
        · have hsx : ((strOf x).toList == (strOf y).toList) = false := by rw [strEq34 HBX.out HBY.out]; exact decide_eq_false hxy
          have hE := Lib.hid (show decide (xs = ys) = false from decide_eq_false (fun e => hxy (by have h1 := HXK.out; rw [e, HYK.out] at h1; injection h1 with h1; exact h1.symm)))
          go_wp2_with (fail)
          refine wp_region_mix [(0, true), (1, true), (2, true), (3, true), (4, true), (5, true), (6, true), (7, true), (8, true), (9, true), (10, true)] (by kernel_rfl) (by kernel_rfl) (fun _ _ _ _ _ h => h) ?_
          have HQd := Lib.hid (HQ.out.drew)
          have c0s := cell_soft34 c0
          have c1s := cell_soft34 c1
          have t0 := toStr_soft (s0.q (Q.drew (Q.refl wr)))
          have t1 := toStr_soft (s1.q (Q.drew (Q.refl wr)))
          generalize wr.drew = W at *
          repeat (refine mix_val rfl rfl ?_; go_big_quiet_step (fail); refine wpQuiet_nil ?_)
          refine mix_end ?_
          clear t0 t1 c0s c1s
          go_wp2
          go_ret
          exact ⟨by rw [hE.out]; rfl, HQd.out⟩
      · have e1 : k = n := by omega
        subst e1
        have hE := Lib.hid (show decide (xs = ys) = true from decide_eq_true (by have h := HP.out; rwa [List.take_of_length_le (by rw [HX.out]; omega), List.take_of_length_le (by rw [HY.out]; omega)] at h))
        go_wp2
        go_ret
        exact ⟨by rw [hE.out]; rfl, HQ.out⟩
end Go.Proofs.Ytfkbdiheccnohaa
