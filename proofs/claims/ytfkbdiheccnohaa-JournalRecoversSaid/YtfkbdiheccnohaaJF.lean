/- Contract: Append. -/
import Derived.Test.YtfkbdiheccnohaaJE
namespace Go.Proofs.Ytfkbdiheccnohaa
open Go Go.RowKit Go.BigFrame

theorem infoBytes : (Try.prog.info? 27).map (fun i => (i.zero, i.size, i.bytes)) = some (some (.slice none 0 0), 1, 24) := by kernel_rfl
theorem slAlloc (w : World) (cs : List Value) (t : TypeId) (size : Nat) (hl : cs.length = size) : Sl (w.alloc (.cells cs.toArray t)) size (some ⟨w.heap.size, 0, none⟩) 1 1 cs :=
  ⟨by omega, Nat.le_refl _, by decide, (fun e => by cases e), .inr ⟨w.heap.size, 0, rfl, by simp, fun j u hu => by
    have h := World.cell?_alloc_mark w cs.toArray t (0, 0) j
    rw [Nat.zero_add]
    refine Eq.trans h ?_
    simpa using hu⟩⟩
theorem own_pos {w : World} {base : Nat} {E : TypeId} {size n cap : Nat} {a : Option Addr} {cs : List Value} (h : w.ownsRow base E size (.slice a n cap) n cs) : ∀ y, a = some y → base ≤ y.block ∧ y.block < w.heap.size ∧ (Value.slice a n cap).ownBlock = some y.block := fun y hy => by
  subst hy
  exact ⟨(h.lt y.block rfl).1, (h.lt y.block rfl).2, rfl⟩
/-- the struct's own cell turns -/
theorem own_cellTurn {w : World} {base : Nat} {E : TypeId} {size n cap : Nat} {a : Option Addr} {cs : List Value} (h : w.ownsRow base E size (.slice a n cap) n cs) (B i : Nat) (u : Value) (hb : ∀ y, a = some y → y.block ≠ B) : (w.setCell ⟨B, i, none⟩ u).ownsRow base E size (.slice a n cap) n cs :=
  own_qf h (QF.set (F := (· = B)) w B i u rfl) (fun k hk e => by
    cases a with
    | none => cases hk
    | some y => have h1 := hb y rfl; have h2 : y.block = k := by simpa [Value.ownBlock] using hk
                exact h1 (h2.trans e))
set_option maxRecDepth 100000 in
set_option maxHeartbeats 1000000 in
theorem jAppend_any (LB : Nat) (col : Nat → Nat) (rs : List (List Int)) (a : Option Addr) (n cap : Nat) (x : List Int) (w : World) (hL : LogAt w LB col rs) (hs : Sl w 1 a n cap (bV x)) (hb : Bys x) (hn : n ≤ 4003) (hr : rs.length ≤ 4999) :
    Calls Try.prog 22 #[.pointer (some ⟨LB, 0, none⟩), .slice a n cap] w fun e w' => (4000 < n ∧ e = .returned (.int .i64 2) ∧ w' = w) ∨ (n ≤ 4000 ∧ e = .returned (.int .i64 0) ∧ LDone LB col w (rs ++ [x]) w') := by
  have hxl : x.length = n := by have := hs.1; simpa [bV] using this
  have HX := Lib.hid hxl
  have HS := Lib.hid hs
  have HL := Lib.hid hL
  have HY := Lib.hid hb
  clear hxl hs hL hb
  by_cases h4 : 4000 < n
  · have h4' : (4000 : Int) < n := by omega
    go_enter Try.func22, Try.ntmps22
    go_wp2
    go_ret
    exact .inl ⟨h4, rfl, rfl⟩
  · have h4' : ¬ (4000 : Int) < n := by omega
    obtain ⟨i0, hi, hz0, hz1, hz2⟩ := info_parts infoBytes
    have HI := Lib.hid hi
    clear hi
    go_enter Try.func22, Try.ntmps22
    go_upto_region 3 with (fail)
    refine wp_region_mixS (F := fun b => col b = 2) 11 [(0, true), (1, true), (2, true), (3, true), (4, true), (5, true), (6, false), (7, false), (8, false), (9, true), (10, true), (11, false)] (by kernel_rfl) (by kernel_rfl) (fun _ _ _ _ _ h => h) ?_
    have HQ0 := Lib.hid (Q.drew (Q.refl w))
    have HLW := Lib.hid (HL.out.q HQ0.out)
    have HSW := Lib.hid (HS.out.q HQ0.out)
    generalize w.drew = W at *
    obtain ⟨ta, tc, vs, hbox, hown, hta, hrec⟩ := HLW.out.ex
    have hn2 : ¬ col LB = 2 := by rw [HLW.out.c1]; decide
    have b0 : ∀ x : AfterF (fun b => col b = 2) W, x.w.cell? ⟨LB, 0, none⟩ = some (.slice ta rs.length tc) := Box.sF (F := fun b => col b = 2) hbox hn2 0 _ rfl
    have HBX := Lib.hid hbox
    have HOW := Lib.hid hown
    have HTA := Lib.hid hta
    have HRC := Lib.hid hrec
    clear hbox hown hta hrec
    repeat (first | (refine mixS_val rfl rfl ?_; go_big_quiet_step (fail); refine wpQuiet_nil ?_) | (refine mixS_nil rfl rfl rfl ?_; go_big_quiet_step (fail); refine wpQuiet_nil ?_))
    clear b0
    refine mixS_run rfl rfl ?_
    intro K hK
    go_wp2_with (fail)
    refine (cloneBytes_any a n cap x W HSW.out (by omega)).mono ?_
    rintro e w1 ⟨b, cb, rfl, hown1, hq1⟩
    refine hK _ _ (QF.of hq1) ?_
    clear hK K
    have HO1 := Lib.hid hown1
    have HQ1 := Lib.hid hq1
    clear hown1 hq1
    refine mixS_run rfl rfl ?_
    intro K hK
    go_wp2_with (fail)
    refine hK _ _ (QF.of ((Q.refl w1).alloc _)) ?_
    clear hK K
    refine mixS_run rfl rfl ?_
    intro K hK
    refine wp_append_sl _ _ 23 rfl 0 27 i0 _ 1 24 Try.underlying23 HI.out hz0 hz1 hz2 rfl (by decide) _ rs.length vs rfl (own_q HOW.out (HQ1.out.alloc _)) (some ⟨w1.heap.size, 0, none⟩) 1 1 [.slice b n cb] rfl (slAlloc w1 [.slice b n cb] 27 1 rfl) (by simp [Value.oneCell']) (by omega) (by decide) (by omega) ?_
    intro a' tc' w9 hown hgrow hgT
    have HG := Lib.hid (show QF (fun b => col b = 2) (w1.alloc (.cells #[.slice b n cb] 27)) w9 from QF.grown hgrow (fun k hk => by
      cases ta with
      | none => cases hk
      | some y => have h1 := HTA.out y rfl; have h2 : y.block = k := Option.some.inj (show some y.block = some k from hk)
                  rw [← h2]; exact h1))
    have HG2 := Lib.hid (show QF (fun b => col b = 2) W w9 from (QF.of (HQ1.out.alloc _)).trans HG.out (fun i h => .inl h))
    have HO9 := Lib.hid hown
    have HP9 := Lib.hid (own_pos hown)
    have HT := Lib.hid (show ∀ y, a' = some y → col y.block = 2 ∨ w1.heap.size + 1 = y.block from fun y hy => by
      subst hy
      rcases hgT y.block rfl with h | h
      · left
        cases ta with
        | none => cases h
        | some z => have h1 := HTA.out z rfl; have h2 : z.block = y.block := Option.some.inj (show some z.block = some y.block from h)
                    rw [← h2]; exact h1
      · right
        rw [h, World.size_alloc])
    clear hgrow hgT hown
    refine hK _ _ HG.out ?_
    clear hK K
    go_frame
    have hb3 := (HBX.out.qf HG2.out hn2).2 0 _ rfl
    have hBl := (HBX.out.qf HG2.out hn2).1
    obtain ⟨hb3, hb3'⟩ := hb3
    repeat (first | (refine mixS_val rfl rfl ?_; go_big_quiet_step (fail); refine wpQuiet_nil ?_) | (refine mixS_nil rfl rfl rfl ?_; go_big_quiet_step (fail); refine wpQuiet_nil ?_))
    refine mixS_last rfl rfl ?_
    intro K hK
    go_wp2_with (fail)
    refine mixS_end ?_
    clear hb3 hb3' hBl
    have hD : LDone LB col w (rs ++ [x]) (w9.setCell ⟨LB, 0, none⟩ (.slice a' (rs.length + 1) tc')) := by
      have h1 := HQ0.out.size
      have h2 := HQ1.out.size
      have n0 : ∀ i, W.heap.size ≤ i → col i = 0 := fun i hi => HLW.out.new0 i hi
      have n0' : ∀ i, w.heap.size ≤ i → col i = 0 := fun i hi => HL.out.new0 i hi
      have hc1 := HLW.out.c1
      have hqs : QF (· = LB) w9 (w9.setCell ⟨LB, 0, none⟩ (.slice a' (rs.length + 1) tc')) := QF.set (F := (· = LB)) w9 LB 0 _ rfl
      have hgs := HG2.out.size
      have bpos := own_pos HO1.out
      have hLl : LB < W.heap.size := HBX.out.1
      have hbne : ∀ y, b = some y → y.block ≠ LB := fun y hy e => by have := (bpos y hy).1; omega
      have htne : ∀ y, a' = some y → y.block ≠ LB := fun y hy e => by
        rcases HT.out y hy with h | h
        · rw [e, hc1] at h; cases h
        · omega
      refine LogAt.push (vs := vs) (a' := a') (cap' := tc') (b := b) (n := n) (cb := cb) hc1 n0' (by omega) HL.out.ok (by rw [HX.out]; omega) HY.out HX.out.symm ?_ ?_ ?_ ?_ ?_ ?_ ?_ ?_
      · refine ((QF.of HQ0.out).trans HG2.out (fun i hi => .inl (by show col i ≠ 0; rw [hi]; decide))).trans hqs (fun i hi => .inl (by show col i ≠ 0; rw [hi, hc1]; decide))
      · exact Box.set (HBX.out.qf HG2.out hn2) 0 _ (show 0 < 1 by decide)
      · exact own_cellTurn HO9.out LB 0 _ htne
      · intro y hy
        rcases HT.out y hy with h | h
        · exact .inl h
        · exact .inr ⟨by omega, by rw [World.size_setCell]; exact (HP9.out y hy).2.1⟩
      · refine (HRC.out.qf HG2.out (fun i hi e => by rw [hi] at e; cases e)).qf hqs (fun i hi e => by rw [e, hc1] at hi; cases hi)
      · have hsl : Sl w1 1 b n cb (bV x) := Sl.of_own HO1.out
        exact ((hsl.q ((Q.refl w1).alloc _)).qf HG.out (fun y hy e => by rw [n0 _ (bpos y hy).1] at e; cases e)).qf hqs hbne
      · intro y hy
        have h3 := bpos y hy
        have h5 := HG.out.size
        rw [World.size_alloc] at h5
        rw [World.size_setCell]
        omega
      · intro y z hy hz e
        have h3 := bpos z hz
        rcases HT.out y hy with h | h
        · rw [e, n0 _ h3.1] at h; cases h
        · omega
    have HD := Lib.hid hD
    clear hD
    go_wp2
    go_ret
    exact .inr ⟨by omega, rfl, HD.out⟩
end Go.Proofs.Ytfkbdiheccnohaa
