/- Contract: Tree.Set. -/
import Derived.Test.YtcgnihgebifcjaaMkI
namespace Go.Proofs.Ytcgnihgebifcjaa
open Go Go.RowKit Go.BigFrame

/-- what Set leaves -/
def SetRet (w : World) (TB : Nat) (col : Nat → Nat) (cells : List Int) (i v : Int) (e : Ending) (w' : World) : Prop :=
  (∃ x, e = .returned x) ∧ TreeAt w' TB col (setZ cells i v) (nodeZ (setZ cells i v)) ∧ QF (fun b => col b ≠ 0) w w'
theorem setRet_bad {w w' : World} {TB : Nat} {col : Nat → Nat} {cells : List Int} {i v : Int} {x : Value} (hT : TreeAt w TB col cells (nodeZ cells)) (hi : i < 0 ∨ cells.length ≤ i) (q : Q w w') : SetRet w TB col cells i v (.returned x) w' := by
  have h : setZ cells i v = cells := by unfold setZ; rw [if_neg (by omega)]
  refine ⟨⟨_, rfl⟩, ?_, QF.of q⟩
  rw [h]
  exact hT.q q
set_option maxRecDepth 100000 in
set_option maxHeartbeats 2000000 in
theorem mSet_bad (TB : Nat) (col : Nat → Nat) (cells : List Int) (i v : Int) (w : World) (hT : TreeAt w TB col cells (nodeZ cells)) (hi : i < 0 ∨ cells.length ≤ i) :
    Calls Try.prog 25 #[.pointer (some ⟨TB, 0, none⟩), .int .i64 i, .int .i64 v] w (SetRet w TB col cells i v) := by
  obtain ⟨CB, ca, cc, VB, vc, B, lc, h1, h2, h3, h4, h5, h6⟩ := hT.ex
  have hsm := hT.small
  have hlt := h1.1
  have HB1 := Lib.hid (h1.alloc (.cells #[.pointer (some ⟨TB, 0, none⟩)] 35))
  have HQ1 := Lib.hid ((Q.refl w).alloc (.cells #[.pointer (some ⟨TB, 0, none⟩)] 35))
  have HP1 := Lib.hid (Box.new w [.pointer (some ⟨TB, 0, none⟩)] 35)
  have HT := Lib.hid hT
  have HII := Lib.hid hi
  clear hT h3 h2 h4 h5 h6 h1
  refine calls_marks Try.func25 rfl ?_
  simp only [Try.ntmps25, List.size_toArray, List.length_cons, List.length_nil, Nat.reduceAdd, Nat.reduceSub, Array.replicate_succ, Array.replicate_zero, List.push_toArray, List.append_toArray, List.nil_append, List.cons_append]
  go_upto_region 1 with (fail)
  generalize w.alloc (.cells #[.pointer (some ⟨TB, 0, none⟩)] 35) = W at *
  generalize hPB : w.heap.size = PB at *
  obtain ⟨p0, q0⟩ := HP1.out.2 0 _ rfl
  have hpl := HP1.out.1
  obtain ⟨b0, _⟩ := HB1.out.2 0 _ rfl
  have hbl := HB1.out.1
  have FIN := Lib.hid (show ∀ (tmps : Array Value), postM Try.f25 (SetRet w TB col cells i v) .ret { tmps := tmps, defers := [] } W from fun tmps =>
    postM_ret0 (fun W' q => ⟨results_none rfl _ _ _, setRet_bad HT.out HII.out (HQ1.out.trans q)⟩))
  by_cases h0 : i < 0
  · have h0b : decide (i < 0) = true := decide_eq_true h0
    go_wp2
    exact FIN.out _
  · have hge : (cells.length : Int) ≤ i := by omega
    have h0b : decide (i < 0) = false := decide_eq_false h0
    go_wp2
    exact FIN.out _
set_option maxRecDepth 100000 in
set_option maxHeartbeats 2000000 in
theorem mSet_ok (TB : Nat) (col : Nat → Nat) (cells : List Int) (k : Nat) (v : Int) (w : World) (hT : TreeAt w TB col cells (nodeZ cells)) (hk : k < cells.length) (hv : -9223372036854775808 ≤ v ∧ v ≤ 9223372036854775807) :
    Calls Try.prog 25 #[.pointer (some ⟨TB, 0, none⟩), .int .i64 k, .int .i64 v] w (SetRet w TB col cells k v) := by
  obtain ⟨CB, ca, cc, VB, vc, B, lc, hE⟩ := hT.named
  have hc1 := hT.c1
  have hn0 := hT.new0
  have hsm := hT.small
  have hP2 := hgt_P2 cells.length (by omega)
  have h17 := hgt_17 cells.length (by omega)
  have HN0 := Lib.hid hn0
  have HOK := Lib.hid hT.ok
  have HV := Lib.hid hv
  have hE1 : TreeE (w.alloc (.cells #[.pointer (some ⟨TB, 0, none⟩)] 35)) TB CB ca cc VB vc B lc col cells.length (hgt cells.length) cells (nodeZ cells) := hE.qf hc1 (QF.of ((Q.refl w).alloc _)) (G := fun _ => False) (fun _ h => h.elim)
  have HQ1 := Lib.hid ((Q.refl w).alloc (.cells #[.pointer (some ⟨TB, 0, none⟩)] 35))
  have HP1 := Lib.hid (Box.new w [.pointer (some ⟨TB, 0, none⟩)] 35)
  have hCw := ((hE.2.2.1 (by omega)).2.2).1
  have HFOLD := Lib.hid (set_fold cells k v hk)
  clear hT hE hv hn0
  generalize hNN : cells.length = n at *
  have HNN := Lib.hid hNN
  generalize hHH : hgt n = h at *
  have HHH := Lib.hid hHH
  clear hNN hHH
  refine calls_marks Try.func25 rfl ?_
  simp only [Try.ntmps25, List.size_toArray, List.length_cons, List.length_nil, Nat.reduceAdd, Nat.reduceSub, Array.replicate_succ, Array.replicate_zero, List.push_toArray, List.append_toArray, List.nil_append, List.cons_append]
  go_upto_region 1 with (fail)
  generalize w.alloc (.cells #[.pointer (some ⟨TB, 0, none⟩)] 35) = W at *
  generalize hPB : w.heap.size = PB at *
  have HPB := Lib.hid hPB
  clear hPB
  have HE1 := Lib.hid hE1
  obtain ⟨g1, ⟨g2a, g2b, g2c, g2d⟩, g3, g4, g5, g6⟩ := hE1
  obtain ⟨rfl, g3b, g3c⟩ := g3 (by omega)
  unfold maxLen at g2b
  obtain ⟨p0, q0⟩ := HP1.out.2 0 _ rfl
  have hpl := HP1.out.1
  obtain ⟨b0, _⟩ := g1.2 0 _ rfl
  have hbl := g1.1
  obtain ⟨x, hx⟩ : ∃ x, cells[k]? = some x := ⟨cells[k]'(by rw [HNN.out]; exact hk), by rw [List.getElem?_eq_getElem]⟩
  obtain ⟨ck, fk⟩ := g3c.2 k (.int .i64 x) (by rw [List.getElem?_map, hx]; rfl)
  have hcl := g3c.1
  have hki : (k : Int) < (n : Nat) := by omega
  have hkd : decide ((n : Int) ≤ (k : Int)) = false := decide_eq_false (by omega)
  clear g1 g2d g3 g3c g4 g5 g6 hx
  go_upto_region 3 with (fail)
  have hst : QF (· = CB) W (W.setCell ⟨CB, k, none⟩ (.int .i64 v)) := QF.set (F := (· = CB)) W CB k _ rfl
  have HE2 := Lib.hid (HE1.out.cellset hc1 HNN.out k v hk)
  have HP2 := Lib.hid (HP1.out.qf hst (fun e => by omega))
  have HF2 := Lib.hid (show QF (fun b => col b ≠ 0) w (W.setCell ⟨CB, k, none⟩ (.int .i64 v)) from (QF.of HQ1.out).trans hst (fun b e => .inl (by rw [e, g3b]; decide)))
  clear hst p0 q0 hpl b0 hbl ck fk hcl HE1 HP1 HQ1 hki hkd
  generalize W.setCell ⟨CB, k, none⟩ (.int .i64 v) = w2 at *
  obtain ⟨p0, q0⟩ := HP2.out.2 0 _ rfl
  have hpl := HP2.out.1
  obtain ⟨b0, _⟩ := HE2.out.1.2 0 _ rfl
  have hbl := HE2.out.1.1
  go_wp2_with (fail)
  refine (mLeaf_any n k v w2 (by omega) (by omega) HV.out).mono ?_
  rintro e w3 ⟨rfl, hq3⟩
  have HE3 := Lib.hid (HE2.out.qf hc1 (QF.of hq3) (G := fun _ => False) (fun _ h => h.elim))
  have HP3 := Lib.hid (HP2.out.q hq3)
  have HF3 := Lib.hid (HF2.out.trans (QF.of (F := fun _ => False) hq3) (fun _ h => h.elim))
  have HU := Lib.hid (leafZ_u64 n k v)
  generalize leafZ n k v = z at *
  clear hq3 p0 q0 hpl b0 hbl HE2 HP2 HF2
  go_upto_region 4 with (fail)
  have hq4 : Q w3 (w3.alloc (.cells #[.int .u64 z] 22)) := (Q.refl w3).alloc _
  have HX4 := Lib.hid (Box.new w3 [.int .u64 z] 22)
  have HE4 := Lib.hid (HE3.out.qf hc1 (QF.of hq4) (G := fun _ => False) (fun _ h => h.elim))
  have HP4 := Lib.hid (HP3.out.q hq4)
  have HF4 := Lib.hid (HF3.out.trans (QF.of (F := fun _ => False) hq4) (fun _ h => h.elim))
  have HXL := Lib.hid (show PB < w3.heap.size from HP3.out.1)
  clear hq4 HE3 HP3 HF3
  generalize w3.alloc (.cells #[.int .u64 z] 22) = w4 at *
  generalize w3.heap.size = XB at *
  refine wp_region_mixS (F := fun _ => False) 9 [(0, true), (1, true), (2, true), (3, true), (4, true), (5, true), (6, true), (7, true), (8, true), (9, false)] (by kernel_rfl) (by kernel_rfl) (fun _ _ _ _ _ h => h) ?_
  have hqd : Q w4 w4.drew := (Q.refl w4).drew
  have HX5 := Lib.hid (HX4.out.q hqd)
  have HE5 := Lib.hid (HE4.out.qf hc1 (QF.of hqd) (G := fun _ => False) (fun _ h => h.elim))
  have HP5 := Lib.hid (HP4.out.q hqd)
  have HF5 := Lib.hid (HF4.out.trans (QF.of (F := fun _ => False) hqd) (fun _ h => h.elim))
  clear hqd HX4 HE4 HP4 HF4
  generalize w4.drew = W1 at *
  have hkp : k < P2 (h - 0) := by rw [Nat.sub_zero]; omega
  obtain ⟨r1, r2, r3, r4⟩ := HE5.out.2.2.2.2.2 0 (Nat.zero_le _)
  unfold maxLen at r3
  have y0 : ∀ y : AfterF (fun _ => False) W1, y.w.cell? ⟨PB, 0, none⟩ = some (.pointer (some ⟨TB, 0, none⟩)) := Box.sF HP5.out (fun e => e) 0 _ rfl
  have y1 : ∀ y : AfterF (fun _ => False) W1, y.w.cell? ⟨TB, 1, none⟩ = some (.slice (some ⟨VB, 0, none⟩) (h + 1) vc) := Box.sF HE5.out.1 (fun e => e) 1 _ rfl
  have y2 : ∀ y : AfterF (fun _ => False) W1, y.w.cell? ⟨VB, 0, none⟩ = some (.slice (some ⟨B 0, 0, none⟩) (P2 (h - 0)) (lc 0)) := Box.sF HE5.out.2.2.2.2.1 (fun e => e) 0 _ (by rw [List.getElem?_map, List.getElem?_range (by omega)]; rfl)
  have y3 : ∀ y : AfterF (fun _ => False) W1, y.w.cell? ⟨XB, 0, none⟩ = some (.int .u64 z) := Box.sF HX5.out (fun e => e) 0 _ rfl
  have HKH := Lib.hid (show ∃ u, u = h ∧ k < P2 u from ⟨h, rfl, by omega⟩)
  have HK0 := Lib.hid (show ∃ u, u = h ∧ k < P2 u from ⟨h, rfl, by omega⟩)
  obtain ⟨c0, f0⟩ := r1.2 k _ (rowF_at _ _ _ _ hkp)
  have hBl := r1.1
  generalize P2 (h - 0) = ph at *
  have hkph : (k : Int) < (ph : Nat) := by omega
  clear r1 r4
  repeat (first | (refine mixS_val rfl rfl ?_; go_big_quiet_step (fail); refine wpQuiet_nil ?_) | (refine mixS_nil rfl rfl rfl ?_; go_big_quiet_step (fail); refine wpQuiet_nil ?_))
  clear y0 y1 y2 y3
  refine mixS_last rfl rfl ?_
  intro K hK
  go_wp2_with (fail)
  refine mixS_end ?_
  have hkp0 : k < P2 (h - 0) := by obtain ⟨u, e, h9⟩ := HK0.out; subst e; rw [Nat.sub_zero]; exact h9
  have hst : QF (· = B 0) W1 (W1.setCell ⟨B 0, k, none⟩ (.int .u64 z)) := QF.set (F := (· = B 0)) W1 (B 0) k _ rfl
  have hcB : col (B 0) = 4 := (HE5.out.2.2.2.2.2 0 (Nat.zero_le _)).2.2.2
  have hBP : B 0 < PB := by
    rcases Nat.lt_or_ge (B 0) PB with h | h
    · exact h
    · have := HN0.out _ h; omega
  have HE6 := Lib.hid (HE5.out.level hc1 0 k z (Nat.zero_le _) hkp0)
  have HX6 := Lib.hid (HX5.out.qf hst (fun e => by have := HXL.out; omega))
  have HP6 := Lib.hid (HP5.out.qf hst (fun e => by omega))
  have HF6 := Lib.hid (HF5.out.trans hst (fun b e => .inl (by rw [e, hcB]; decide)))
  clear hst hcB hBP hkp0 c0 f0 hBl hkph HK0 r2 r3 HE5 HX5 HP5 HF5
  generalize W1.setCell ⟨B 0, k, none⟩ (.int .u64 z) = w6 at *
  obtain ⟨p0, q0⟩ := HP6.out.2 0 _ rfl
  have hpl := HP6.out.1
  obtain ⟨b1, _⟩ := HE6.out.1.2 1 _ rfl
  have hbl := HE6.out.1.1
  have hh1 : ((h : Int) + 1 - 1) = h := by omega
  go_wp2_with (fail)
  refine (mPath_any k h _).mono ?_
  rintro e w7 ⟨rfl, rfl⟩
  go_wp2_with (fail)
  have hq8 : Q w6 ((w6.alloc (.cells #[.int .i64 k] 3)).alloc (.cells #[.int .i64 h] 3)) := ((Q.refl w6).alloc _).alloc _
  have bI := (Boxed.new w6 3 (.int .i64 k)).alloc (.cells #[.int .i64 h] 3)
  have bM := Boxed.new (w6.alloc (.cells #[.int .i64 k] 3)) 3 (.int .i64 h)
  rw [World.size_alloc] at bM
  have HE8 := Lib.hid (HE6.out.qf hc1 (QF.of hq8) (G := fun _ => False) (fun _ h => h.elim))
  have HX8 := Lib.hid (HX6.out.q hq8)
  have HP8 := Lib.hid (HP6.out.q hq8)
  have HF8 := Lib.hid (HF6.out.trans (QF.of (F := fun _ => False) hq8) (fun _ h => h.elim))
  have HW8 := Lib.hid (show ((w6.alloc (.cells #[.int .i64 k] 3)).alloc (.cells #[.int .i64 h] 3)).heap.size = w6.heap.size + 1 + 1 by simp)
  have HL8 := Lib.hid (show XB < w6.heap.size from HX6.out.1)
  clear hq8 p0 q0 hpl b1 hbl hh1 HE6 HX6 HP6 HF6
  have HI8 := Lib.hid bI
  have HM8 := Lib.hid bM
  clear bI bM
  generalize (w6.alloc (.cells #[.int .i64 k] 3)).alloc (.cells #[.int .i64 h] 3) = W8 at *
  generalize w6.heap.size = LB at *
  refine wp_path (σ := Int × (Nat → Nat → Int)) (LB + 1) LB k h (by omega) (by omega) rfl rfl HM8.out HI8.out (setF k) (z, updG (nodeZ cells) 0 k z)
    (fun j s W => TreeE W TB CB (some ⟨CB, 0, none⟩) cc VB vc B lc col n h (cells.set k v) s.2 ∧ Box W XB [.int .u64 s.1] ∧ Box W PB [.pointer (some ⟨TB, 0, none⟩)] ∧ QF (fun b => col b ≠ 0) w W ∧ W8.heap.size ≤ W.heap.size)
    ⟨HE8.out, HX8.out, HP8.out, HF8.out, Nat.le_refl _⟩ ?stay ?a1 ?assign ?body ?done
  case stay =>
    rintro j s W W' ⟨t1, t2, t3, t4, t5⟩ q
    have e1 := HW8.out
    have e2 := HXL.out
    have e3 := HL8.out
    have hb : ∀ b, BookF W8.heap.size W b → PB ≤ b ∧ LB ≤ b := fun b hb => by have := hb.1; omega
    refine ⟨t1.qf hc1 q (fun b h => HN0.out b (hb b h).1), t2.qf q (fun e => by have := hb _ e; omega), t3.qf q (fun e => by have := hb _ e; omega), t4.trans q (fun b h => .inr (by have := hb b h; have := HPB.out; omega)), Nat.le_trans t5 q.size⟩
  case assign =>
    intro l n' x W K hK
    unfold lvl
    go_frame
    gi_wp2
    rw [Oper.semAt_some _ _ _ (by intro c h; cases h)]
    simp only [execOp, Sem.run_pure]
    generalize hev : Act.eval _ (Operand.tmp 52) = u
    have hu : Value.int .i64 x = u := hev
    clear hev
    subst hu
    unfold Oper.uponIn
    rename_i hKK
    refine hKK _ _ ?_
    clear hKK
    gi_wp2
    rw [Oper.semAt_some _ _ _ (by intro c h; cases h)]
    simp only [execOp, Sem.run_pure]
    generalize hev : Act.eval _ (Operand.tmp 53) = u
    have hu : Value.int .i64 (up k x) = u := hev
    clear hev
    subst hu
    unfold Oper.uponIn
    rename_i hKK
    refine hKK _ _ ?_
    clear hKK
    go_frame
    exact hK
  case body =>
    rintro l n' x j s W R hx hj ⟨t1, t2, t3, t4, t5⟩ hL hR hK
    have HKK := Lib.hid hK
    have HRR := Lib.hid hR
    have HT1 := Lib.hid t1
    have HT2 := Lib.hid t2
    have HT3 := Lib.hid t3
    have HT4 := Lib.hid t4
    have HT5 := Lib.hid t5
    clear hK t1 t2 t3 t4 t5
    refine wpIn_block ?_
    gi_wp2_with (fail)
    refine wpIn_region_mixS (F := fun _ => False) 14 [(0, true), (1, true), (2, true), (3, true), (4, true), (5, true), (6, true), (7, true), (8, true), (9, true), (10, true), (11, true), (12, true), (13, false), (14, false)] (by kernel_rfl) (by kernel_rfl) (fun c a d v w h => HRR.out c a d v w h) (fun ⟨a', w', h⟩ => hL ⟨a', w', h⟩) ?_
    have hqd : Q W W.drew := (Q.refl W).drew
    have HD1 := Lib.hid (HT1.out.qf hc1 (QF.of hqd) (G := fun _ => False) (fun _ h => h.elim))
    have HD2 := Lib.hid (HT2.out.q hqd)
    have HD3 := Lib.hid (HT3.out.q hqd)
    have HD4 := Lib.hid (HT4.out.trans (QF.of (F := fun _ => False) hqd) (fun _ h => h.elim))
    have HD5 := Lib.hid (show W8.heap.size ≤ W.drew.heap.size from HT5.out)
    have HKD := Lib.hid (show ∀ a' W', KeepsFrom W8.heap.size W.drew W' → W'.heap[LB]? = W.drew.heap[LB]? → (TreeE W' TB CB (some ⟨CB, 0, none⟩) cc VB vc B lc col n h (cells.set k v) (setF k s x).2 ∧ Box W' XB [.int .u64 (setF k s x).1] ∧ Box W' PB [.pointer (some ⟨TB, 0, none⟩)] ∧ QF (fun b => col b ≠ 0) w W' ∧ W8.heap.size ≤ W'.heap.size) → R .normal a' W' from fun a' W' h1 h2 h3 => HKK.out a' W' ⟨h1.size, h1.same⟩ h2 h3)
    clear hqd HKK HT1 HT2 HT3 HT4 HT5
    generalize W.drew = W1 at *
    obtain ⟨hBx, hl1, hl2, hcx⟩ := HD1.out.2.2.2.2.2 x (by omega)
    unfold maxLen at hl2
    have hkh : k < P2 h := by obtain ⟨u, e, h9⟩ := HKH.out; rw [← e]; exact h9
    have hup : up k x < P2 (h - x) := up_lt hkh (by omega)
    clear hkh
    have hps := P2_succ (h - x - 1)
    rw [show h - x - 1 + 1 = h - x by omega] at hps
    have hsb : sib (up k x) < P2 (h - x) := by rw [hps] at hup ⊢; exact sib_lt hup
    have HHF := Lib.hid (show up k x / 2 < P2 (h - (x + 1)) by rw [show h - (x + 1) = h - x - 1 by omega]; omega)
    have hp17 := P2_17 (show h - x ≤ 17 by omega)
    have hx6 : up k x ≤ k := Nat.div_le_self _ _
    have hxor := sib_xor (up k x) (by omega)
    have y0 : ∀ y : AfterF (fun _ => False) W1, y.w.cell? ⟨XB, 0, none⟩ = some (.int .u64 s.1) := Box.sF HD2.out (fun e => e) 0 _ rfl
    have y1 : ∀ y : AfterF (fun _ => False) W1, y.w.cell? ⟨PB, 0, none⟩ = some (.pointer (some ⟨TB, 0, none⟩)) := Box.sF HD3.out (fun e => e) 0 _ rfl
    have y2 : ∀ y : AfterF (fun _ => False) W1, y.w.cell? ⟨TB, 1, none⟩ = some (.slice (some ⟨VB, 0, none⟩) (h + 1) vc) := Box.sF HD1.out.1 (fun e => e) 1 _ rfl
    have y3 : ∀ y : AfterF (fun _ => False) W1, y.w.cell? ⟨VB, x, none⟩ = some (.slice (some ⟨B x, 0, none⟩) (P2 (h - x)) (lc x)) := Box.sF HD1.out.2.2.2.2.1 (fun e => e) x _ (by rw [List.getElem?_map, List.getElem?_range (by omega)]; rfl)
    have y4 : ∀ y : AfterF (fun _ => False) W1, y.w.cell? ⟨B x, sib (up k x), none⟩ = some (.int .u64 (s.2 x (sib (up k x)))) := Box.sF hBx (fun e => e) _ _ (rowF_at _ _ _ _ hsb)
    have HS1 := Lib.hid (show (setF k s x).1 = joinZ (up k x) s.1 (s.2 x (sib (up k x))) from rfl)
    have HS2 := Lib.hid (show (setF k s x).2 = updG s.2 (x + 1) (up k x / 2) (joinZ (up k x) s.1 (s.2 x (sib (up k x)))) from rfl)
    have hu1 : up k x ≤ 1000000 := by omega
    generalize s.2 x (sib (up k x)) = px at *
    generalize sib (up k x) = sx at *
    generalize up k x = ux at *
    generalize P2 (h - x) = px2 at *
    have hsx : (sx : Int) < (px2 : Nat) := by omega
    have hxh : (x : Int) < (h : Int) + 1 := by omega
    clear hps hup hBx hcx
    repeat (first | (refine mixS_val rfl rfl ?_; go_big_quiet_step (fail); refine wpQuiet_nil ?_) | (refine mixS_nil rfl rfl rfl ?_; go_big_quiet_step (fail); refine wpQuiet_nil ?_))
    clear y0 y1 y2 y3 y4
    refine mixS_run rfl rfl ?_
    intro K hK
    go_wp2_with (fail)
    refine (mJoin_any ux s.1 px W1 hu1).mono ?_
    generalize joinZ ux s.1 px = nh at *
    rintro e w2 ⟨rfl, hq2⟩
    refine hK _ _ (QF.of hq2) ?_
    clear hK K
    have HG1 := Lib.hid (HD1.out.qf hc1 (QF.of hq2) (G := fun _ => False) (fun _ h => h.elim))
    have HG2 := Lib.hid (HD2.out.q hq2)
    have HG3 := Lib.hid (HD3.out.q hq2)
    have HG4 := Lib.hid (HD4.out.trans (QF.of (F := fun _ => False) hq2) (fun _ h => h.elim))
    have HGQ := Lib.hid hq2
    clear hq2 HD1 HD2 HD3 HD4
    refine mixS_last rfl rfl ?_
    intro K hK
    obtain ⟨c0, f0⟩ := HG2.out.2 0 _ rfl
    have hxl := HG2.out.1
    go_wp2_with (fail)
    refine mixS_end ?_
    have e1 := HXL.out
    have e2 := HL8.out
    have e3 := HW8.out
    have hst : QF (· = XB) w2 (w2.setCell ⟨XB, 0, none⟩ (.int .u64 nh)) := QF.set (F := (· = XB)) w2 XB 0 _ rfl
    have HH1 := Lib.hid (HG1.out.qf hc1 hst (G := (· = XB)) (fun b e => HN0.out b (by omega)))
    have HH2 := Lib.hid (show Box (w2.setCell ⟨XB, 0, none⟩ (.int .u64 nh)) XB [.int .u64 nh] from Box.setC HG2.out 0 _ (show 0 < 1 by decide))
    have HH3 := Lib.hid (HG3.out.qf hst (fun e => by omega))
    have HH4 := Lib.hid (HG4.out.trans hst (fun b e => .inr (by have := HPB.out; omega)))
    have HHQ := Lib.hid (show QF (· = XB) W1 (w2.setCell ⟨XB, 0, none⟩ (.int .u64 nh)) from (QF.of HGQ.out).trans hst (fun b h => .inl h))
    clear hst e1 e2 e3 c0 f0 hxl HG1 HG2 HG3 HG4 HGQ
    generalize w2.setCell ⟨XB, 0, none⟩ (.int .u64 nh) = w3 at *
    gi_wp2_with (fail)
    refine wpIn_region_mixS (F := fun _ => False) 12 [(0, true), (1, true), (2, true), (3, true), (4, true), (5, true), (6, true), (7, true), (8, true), (9, true), (10, true), (11, true), (12, false)] (by kernel_rfl) (by kernel_rfl) (fun c a d v w h => HRR.out c a d v w h) (fun ⟨a', w', h⟩ => hL ⟨a', w', h⟩) ?_
    have hqd : Q w3 w3.drew := (Q.refl w3).drew
    have HD1 := Lib.hid (HH1.out.qf hc1 (QF.of hqd) (G := fun _ => False) (fun _ h => h.elim))
    have HD2 := Lib.hid (HH2.out.q hqd)
    have HD3 := Lib.hid (HH3.out.q hqd)
    have HD4 := Lib.hid (HH4.out.trans (QF.of (F := fun _ => False) hqd) (fun _ h => h.elim))
    have HDQ := Lib.hid (HHQ.out.trans (QF.of (F := fun _ => False) hqd) (fun _ h => h.elim))
    clear hqd HH1 HH2 HH3 HH4 HHQ
    generalize w3.drew = w4 at *
    obtain ⟨hBx, hm1, hm2, hcx⟩ := HD1.out.2.2.2.2.2 (x + 1) (by omega)
    unfold maxLen at hm2
    have y0 : ∀ y : AfterF (fun _ => False) w4, y.w.cell? ⟨XB, 0, none⟩ = some (.int .u64 nh) := Box.sF HD2.out (fun e => e) 0 _ rfl
    have y1 : ∀ y : AfterF (fun _ => False) w4, y.w.cell? ⟨PB, 0, none⟩ = some (.pointer (some ⟨TB, 0, none⟩)) := Box.sF HD3.out (fun e => e) 0 _ rfl
    have y2 : ∀ y : AfterF (fun _ => False) w4, y.w.cell? ⟨TB, 1, none⟩ = some (.slice (some ⟨VB, 0, none⟩) (h + 1) vc) := Box.sF HD1.out.1 (fun e => e) 1 _ rfl
    have y3 : ∀ y : AfterF (fun _ => False) w4, y.w.cell? ⟨VB, x + 1, none⟩ = some (.slice (some ⟨B (x + 1), 0, none⟩) (P2 (h - (x + 1))) (lc (x + 1))) := Box.sF HD1.out.2.2.2.2.1 (fun e => e) (x + 1) _ (by rw [List.getElem?_map, List.getElem?_range (by omega)]; rfl)
    obtain ⟨c0, f0⟩ := hBx.2 (ux / 2) _ (rowF_at _ _ _ _ HHF.out)
    have hBl := hBx.1
    have hq2 : (ux : Int) / 2 = ((ux / 2 : Nat) : Int) := by omega
    have hx1 : (x : Int) + 1 = ((x + 1 : Nat) : Int) := by omega
    have HXH := Lib.hid (show x + 1 ≤ h by omega)
    have huy := HHF.out
    have HHG := Lib.hid (show ∃ u, u = h - (x + 1) ∧ ux / 2 < P2 u from ⟨_, rfl, huy⟩)
    generalize ux / 2 = uy at *
    generalize hxs : x + 1 = xs at *
    generalize P2 (h - xs) = py at *
    have huyi : (uy : Int) < (py : Nat) := by omega
    have hxsh : (xs : Int) < (h : Int) + 1 := by omega
    clear hBx hxs huy
    repeat (first | (refine mixS_val rfl rfl ?_; go_big_quiet_step (fail); refine wpQuiet_nil ?_) | (refine mixS_nil rfl rfl rfl ?_; go_big_quiet_step (fail); refine wpQuiet_nil ?_))
    clear y0 y1 y2 y3
    refine mixS_last rfl rfl ?_
    intro K hK
    go_wp2_with (fail)
    refine mixS_end ?_
    have e1 := HXL.out
    have e2 := HL8.out
    have e3 := HW8.out
    have e4 := HPB.out
    have e5 := HXH.out
    have hBP : B xs < PB := by
      rcases Nat.lt_or_ge (B xs) PB with h | h
      · exact h
      · have := HN0.out _ h; omega
    have hst : QF (· = B xs) w4 (w4.setCell ⟨B xs, uy, none⟩ (.int .u64 nh)) := QF.set (F := (· = B xs)) w4 (B xs) uy _ rfl
    have hlev := HD1.out.level hc1 xs uy nh e5 (by obtain ⟨u, e, h9⟩ := HHG.out; rw [← e]; exact h9)
    have hall : QF (fun b => b = XB ∨ b = B xs) W1 (w4.setCell ⟨B xs, uy, none⟩ (.int .u64 nh)) := (HDQ.out.mono (fun b hb => .inl hb)).trans hst (fun b hb => .inl (.inr hb))
    have h5 := HD5.out
    refine HKD.out _ _ (QF.keeps hall (fun b hb hge o ho => ?_)) ?_ ⟨?_, ?_, HD3.out.qf hst (fun e => by omega), HD4.out.trans hst (fun b e => .inl (by rw [e, hcx]; omega)), Nat.le_trans h5 hall.size⟩
    · rcases hb with hb | hb <;> omega
    · exact hall.block LB (by omega) (fun e => by rcases e with e | e <;> omega)
    · rw [HS2.out]; exact hlev
    · rw [HS1.out]; exact HD2.out.qf hst (fun e => by omega)
  case done =>
    rintro D W hD ⟨t1, t2, t3, t4, t5⟩ hh
    rw [HFOLD.out h] at t1
    have HT1 := Lib.hid t1
    have HT4 := Lib.hid t4
    have HHD := Lib.hid hh
    have HDD := Lib.hid hD
    clear t1 t2 t3 t4 t5 hh hD
    go_wp2
    have hD := HDD.out
    have e1 := HW8.out
    have e2 := HXL.out
    have e3 := HL8.out
    have e4 := HPB.out
    refine postM_end1 HHD.out (fun W' q => ⟨results_none rfl _ _ _, ⟨⟨_, rfl⟩, ?_, HT4.out.trans q (fun b e => .inr (by omega))⟩⟩)
    have hl : (cells.set k v).length = n := by rw [List.length_set]; exact HNN.out
    have hz : setZ cells k v = cells.set k v := by unfold setZ; rw [if_pos ⟨by omega, by have := HNN.out; omega⟩, Int.toNat_natCast]
    rw [hz]
    have t1 := HT1.out.qf hc1 q (G := (· = D)) (fun b e => HN0.out b (by omega))
    refine TreeE.at (by rw [hl, HHH.out]; exact t1) (fun j x hj => ?_) hc1 (fun b hb => HN0.out b (by have := HT4.out.size; have := q.size; omega)) (fun y hy => ?_) (by rw [hl]; omega)
    · rw [hl, HHH.out] at hj
      exact if_pos hj
    · rcases List.mem_or_eq_of_mem_set hy with h | rfl
      · exact HOK.out _ h
      · exact HV.out
theorem mSet_any (TB : Nat) (col : Nat → Nat) (cells : List Int) (i v : Int) (w : World) (hT : TreeAt w TB col cells (nodeZ cells)) (hv : -9223372036854775808 ≤ v ∧ v ≤ 9223372036854775807) :
    Calls Try.prog 25 #[.pointer (some ⟨TB, 0, none⟩), .int .i64 i, .int .i64 v] w (SetRet w TB col cells i v) := by
  by_cases h : 0 ≤ i ∧ i < cells.length
  · obtain ⟨k, rfl⟩ := Int.eq_ofNat_of_zero_le h.1
    exact mSet_ok TB col cells k v w hT (by omega) hv
  · exact mSet_bad TB col cells i v w hT (by omega)
end Go.Proofs.Ytcgnihgebifcjaa
