/- Contract: Partial.update. -/
import Derived.Test.YtcgnihgebifcjaaMkX
import Derived.Test.YtcgnihgebifcjaaTree
namespace Go.Proofs.Ytcgnihgebifcjaa
open Go Go.RowKit Go.BigFrame
attribute [local go_sem] Oper.semAt_some

/-- a round of update: the path's hash and the nodes -/
def updF (k : Nat) (s : Int × (Nat × Nat → Option Int)) (m : Nat) : Int × (Nat × Nat → Option Int) :=
  (joinZ (up k m) s.1 ((putN s.2 (m, up k m) s.1 (m, sib (up k m))).getD 0), putN s.2 (m, up k m) s.1)
def updR (n k : Nat) (s : PS) : Int × (Nat × Nat → Option Int) := (List.range (hgt n)).foldl (updF k) (leafZ n k ((s.cm k).getD 0), s.N)
def updP (n k : Nat) (s : PS) : PS := ⟨s.cm, (updR n k s).2, (updR n k s).1⟩
def UpdRet (w : World) (PB MC MN n k : Nat) (s : PS) (e : Ending) (w' : World) : Prop :=
  (∃ x, e = .returned x) ∧ PartAt w' PB MC MN n (updP n k s) ∧ QF (fun b => b = PB ∨ b = MN) w w'
set_option maxRecDepth 100000 in
set_option maxHeartbeats 2000000 in
theorem mUpdate_any (PB MC MN n k : Nat) (s : PS) (w : World) (hP : PartAt w PB MC MN n s) (hk : k < n) (hn : n ≤ 1000) (hv : ∀ i v, s.cm i = some v → -9223372036854775808 ≤ v ∧ v ≤ 9223372036854775807) :
    Calls Try.prog 44 #[.pointer (some ⟨PB, 0, none⟩), .int .i64 k] w (UpdRet w PB MC MN n k s) := by
  have h17 := hgt_17 n (by omega)
  have HV := Lib.hid (show -9223372036854775808 ≤ (s.cm k).getD 0 ∧ (s.cm k).getD 0 ≤ 9223372036854775807 by
    cases h : s.cm k with
    | none => exact ⟨by decide, by decide⟩
    | some v => exact hv k v h)
  have HL1 := Lib.hid (show PB < w.heap.size ∧ MC < w.heap.size ∧ MN < w.heap.size from ⟨hP.box.1, hP.cm.lt, hP.nm.lt⟩)
  have HP1 := Lib.hid (hP.q ((Q.refl w).alloc (.cells #[.pointer (some ⟨PB, 0, none⟩)] 47)))
  have HT1 := Lib.hid (Box.new w [.pointer (some ⟨PB, 0, none⟩)] 47)
  have HQ1 := Lib.hid ((Q.refl w).alloc (.cells #[.pointer (some ⟨PB, 0, none⟩)] 47))
  have HR := Lib.hid (show updR n k s = (List.range (hgt n)).foldl (updF k) (leafZ n k ((s.cm k).getD 0), s.N) from rfl)
  clear hP hv
  refine calls_marks Try.func44 rfl ?_
  simp only [Try.ntmps44, List.size_toArray, List.length_cons, List.length_nil, Nat.reduceAdd, Nat.reduceSub, Array.replicate_succ, Array.replicate_zero, List.push_toArray, List.append_toArray, List.nil_append, List.cons_append]
  go_upto_region 1 with (fail)
  generalize w.alloc (.cells #[.pointer (some ⟨PB, 0, none⟩)] 47) = W at *
  generalize hTB : w.heap.size = TB at *
  have HTB := Lib.hid hTB
  clear hTB
  go_cut [4] from 7 to 51 (fun s4 wx => ∃ XB, s4 = .pointer (some ⟨XB, 0, none⟩) ∧ Box wx XB [.int .u64 (leafZ n k ((s.cm k).getD 0))] ∧ Q W wx ∧ W.heap.size ≤ XB)
  case first =>
    refine wp_region_tree (fun w'' => ∃ x : After W.drew, w'' = x.w) (.val 0 (.val 1 (.val 2 (.val 3 (.val 4 (.val 5 (.val 6 (.val 7 (.val 8 (.val 9 (.val 10 (.two 11 (.one 12 (.one 13 (.fin))) 12 (.one 11 (.one 13 (.fin))))))))))))))) (by kernel_rfl) (by kernel_rfl) (fun _ _ _ _ _ h => h) ⟨⟨_, Q.refl _⟩, rfl⟩ ?_
    have hqd : Q W W.drew := (Q.refl W).drew
    have HP2 := Lib.hid (HP1.out.q hqd)
    have HT2 := Lib.hid (HT1.out.q hqd)
    have HQ2 := Lib.hid hqd
    clear hqd
    have HWZ := Lib.hid (show W.drew.heap.size = W.heap.size from rfl)
    generalize W.drew = V at *
    have y0 : ∀ y : After V, y.w.cell? ⟨TB, 0, none⟩ = some (.pointer (some ⟨PB, 0, none⟩)) := Box.sf HT2.out 0 _ rfl
    have y1 : ∀ y : After V, y.w.cell? ⟨PB, 0, none⟩ = some (.int .i64 n) := Box.sf HP2.out.box 0 _ rfl
    have y2 : ∀ y : After V, y.w.cell? ⟨PB, 2, none⟩ = some (.map (some MC)) := Box.sf HP2.out.box 2 _ rfl
    have y3 : ∀ y : After V, (Instr.lookup 70 (.map (some MC)) (.int .i64 k) false).run Try.prog y.w = .ok (.int .i64 ((s.cm k).getD 0)) y.w := fun y => lookC1 (HP2.out.cm.q y.q) k (by omega)
    generalize (s.cm k).getD 0 = v at *
    repeat (first | (refine tree_val rfl rfl ?_; go_big_quiet_step (fail); refine wpQuiet_nil ?_) | (refine tree_nil rfl rfl rfl ?_; go_big_quiet_step (fail); refine wpQuiet_nil ?_))
    clear y0 y1 y2 y3
    have FIN : ∀ (wx : World) (XB : Nat) (z : Int) (c : Value), Q V wx → W.heap.size ≤ XB → Box wx XB [c] → Hid (Q V (wx.setCell ⟨XB, 0, none⟩ (.int .u64 z)) ∧ Box (wx.setCell ⟨XB, 0, none⟩ (.int .u64 z)) XB [.int .u64 z]) := fun wx XB z c q h b =>
      Lib.hid ⟨q.setCell (p := ⟨XB, 0, none⟩) (by rw [HWZ.out]; exact h) _, Box.setC b 0 _ (show 0 < 1 by decide)⟩
    have FIN := Lib.hid FIN
    refine tree_two ?_ ?_
    · refine tree_one rfl rfl ?_
      intro K hK
      go_wp2_with (fail)
      refine (mLeaf_any n k v _ (by omega) (by omega) HV.out).mono ?_
      rintro e w3 ⟨rfl, hq3⟩
      refine hK _ _ ⟨⟨w3, hq3⟩, rfl⟩ ?_
      clear hK K
      have HQ3 := Lib.hid hq3
      clear hq3
      generalize leafZ n k v = z at *
      refine tree_one rfl rfl ?_
      intro K hK
      go_wp2_with (fail)
      have hq4 : Q V (w3.alloc (.cells #[.int .u64 0] 22)) := HQ3.out.alloc _
      refine hK _ _ ⟨⟨_, hq4⟩, rfl⟩ ?_
      clear hK K
      have HX4 := Lib.hid (Box.new w3 [.int .u64 0] 22)
      have HQ4 := Lib.hid hq4
      have HXB := Lib.hid (show W.heap.size ≤ w3.heap.size by rw [← HWZ.out]; exact HQ3.out.size)
      clear hq4
      generalize w3.alloc (.cells #[.int .u64 0] 22) = w4 at *
      generalize w3.heap.size = XB at *
      obtain ⟨c0, f0⟩ := HX4.out.2 0 _ rfl
      have hxl := HX4.out.1
      refine tree_one rfl rfl ?_
      intro K hK
      go_wp2_with (fail)
      have hf := (FIN.out w4 XB z _ HQ4.out HXB.out HX4.out).out
      refine hK _ _ ⟨⟨_, hf.1⟩, rfl⟩ ?_
      clear hK K
      refine tree_end ?_
      go_wp2
      go_meet
      exact ⟨XB, rfl, hf.2, HQ2.out.trans hf.1, HXB.out⟩
    · refine tree_one rfl rfl ?_
      intro K hK
      go_wp2_with (fail)
      have hq4 : Q V (V.alloc (.cells #[.int .u64 0] 22)) := (Q.refl V).alloc _
      refine hK _ _ ⟨⟨_, hq4⟩, rfl⟩ ?_
      clear hK K
      have HX4 := Lib.hid (Box.new V [.int .u64 0] 22)
      have HQ4 := Lib.hid hq4
      have HXB := Lib.hid (show W.heap.size ≤ V.heap.size by rw [← HWZ.out]; exact Nat.le_refl _)
      clear hq4
      generalize V.alloc (.cells #[.int .u64 0] 22) = w3 at *
      generalize hVS : V.heap.size = XB at *
      clear hVS
      refine tree_one rfl rfl ?_
      intro K hK
      go_wp2_with (fail)
      refine (mLeaf_any n k v _ (by omega) (by omega) HV.out).mono ?_
      rintro e w4 ⟨rfl, hq3⟩
      refine hK _ _ ⟨⟨w4, HQ4.out.trans hq3⟩, rfl⟩ ?_
      clear hK K
      have HQ5 := Lib.hid (HQ4.out.trans hq3)
      have HX5 := Lib.hid (HX4.out.q hq3)
      clear hq3
      generalize leafZ n k v = z at *
      obtain ⟨c0, f0⟩ := HX5.out.2 0 _ rfl
      have hxl := HX5.out.1
      refine tree_one rfl rfl ?_
      intro K hK
      go_wp2_with (fail)
      have hf := (FIN.out w4 XB z _ HQ5.out HXB.out HX5.out).out
      refine hK _ _ ⟨⟨_, hf.1⟩, rfl⟩ ?_
      clear hK K
      refine tree_end ?_
      go_wp2
      go_meet
      exact ⟨XB, rfl, hf.2, HQ2.out.trans hf.1, HXB.out⟩
  case rest =>
    obtain ⟨XB, rfl, hx, hq, hl⟩ := hcut
    have HX2 := Lib.hid hx
    have HXB := Lib.hid hl
    have HP2 := Lib.hid (HP1.out.q hq)
    have HT2 := Lib.hid (HT1.out.q hq)
    have HQ2 := Lib.hid (HQ1.out.trans hq)
    have HTX := Lib.hid (show TB < XB from Nat.lt_of_lt_of_le HT1.out.1 hl)
    clear hx hq hl HP1 HT1 HQ1
    generalize leafZ n k ((s.cm k).getD 0) = z at *
    obtain ⟨p0, q0⟩ := HT2.out.2 0 _ rfl
    have hpl := HT2.out.1
    obtain ⟨b0, _⟩ := HP2.out.box.2 0 _ rfl
    have hbl := HP2.out.box.1
    go_wp2_with (fail)
    refine (mHeight_any n wc (by omega)).mono ?_
    rintro e w3 ⟨rfl, rfl⟩
    generalize hHH : hgt n = h at *
    have HHH := Lib.hid hHH
    clear hHH
    go_wp2_with (fail)
    refine (mPath_any k h _).mono ?_
    rintro e w7 ⟨rfl, rfl⟩
    go_wp2_with (fail)
    have hq8 : Q w3 ((w3.alloc (.cells #[.int .i64 k] 3)).alloc (.cells #[.int .i64 h] 3)) := ((Q.refl w3).alloc _).alloc _
    have bI := (Boxed.new w3 3 (.int .i64 k)).alloc (.cells #[.int .i64 h] 3)
    have bM := Boxed.new (w3.alloc (.cells #[.int .i64 k] 3)) 3 (.int .i64 h)
    rw [World.size_alloc] at bM
    have HX8 := Lib.hid (HX2.out.q hq8)
    have HP8 := Lib.hid (HP2.out.q hq8)
    have HT8 := Lib.hid (HT2.out.q hq8)
    have HF8 := Lib.hid (show QF (fun b => b = PB ∨ b = MN) w _ from QF.of (HQ2.out.trans hq8))
    have HW8 := Lib.hid (show ((w3.alloc (.cells #[.int .i64 k] 3)).alloc (.cells #[.int .i64 h] 3)).heap.size = w3.heap.size + 1 + 1 by simp)
    have HL8 := Lib.hid (show XB < w3.heap.size from HX2.out.1)
    clear hq8 p0 q0 hpl b0 hbl HX2 HP2 HT2
    have HI8 := Lib.hid bI
    have HM8 := Lib.hid bM
    clear bI bM
    generalize (w3.alloc (.cells #[.int .i64 k] 3)).alloc (.cells #[.int .i64 h] 3) = W8 at *
    generalize w3.heap.size = LB at *
    refine wp_path (σ := Int × (Nat × Nat → Option Int)) (LB + 1) LB k h (by omega) (by omega) rfl rfl HM8.out HI8.out (updF k) (z, s.N)
      (fun j s' W => PartAt W PB MC MN n ⟨s.cm, s'.2, s.root⟩ ∧ Box W XB [.int .u64 s'.1] ∧ Box W TB [.pointer (some ⟨PB, 0, none⟩)] ∧ QF (fun b => b = PB ∨ b = MN) w W ∧ W8.heap.size ≤ W.heap.size)
      ⟨HP8.out, HX8.out, HT8.out, HF8.out, Nat.le_refl _⟩ ?stay ?a1 ?assign ?body ?done
    case stay =>
      rintro j s' V V' ⟨t1, t2, t3, t4, t5⟩ q
      have e1 := HW8.out
      have e2 := HTX.out
      have e3 := HL8.out
      obtain ⟨l1, l2, l3⟩ := HL1.out
      have hb : ∀ b, BookF W8.heap.size V b → TB < b ∧ XB < b := fun b hb => by have := hb.1; omega
      refine ⟨t1.qf q (fun e => by have := hb _ e; omega) (fun e => by have := hb _ e; omega) (fun e => by have := hb _ e; omega), t2.qf q (fun e => by have := hb _ e; omega), t3.qf q (fun e => by have := hb _ e; omega), t4.trans q (fun b h => .inr (by have := hb b h; have := HTB.out; omega)), Nat.le_trans t5 q.size⟩
    case assign =>
      intro l n' x V K hK
      unfold lvl
      gi_wp2
      exact hK
    case body =>
      rintro l n' x j s' V R hx hj ⟨t1, t2, t3, t4, t5⟩ hL hR hK
      have HKK := Lib.hid hK
      have HRR := Lib.hid hR
      have HT1 := Lib.hid t1
      have HT2 := Lib.hid t2
      have HT3 := Lib.hid t3
      have HT4 := Lib.hid t4
      have HT5 := Lib.hid t5
      clear hK t1 t2 t3 t4 t5
      refine wpIn_block ?_
      gi_wp2_with (fail)
      refine wpIn_region_mixS (F := fun _ => False) 8 [(0, true), (1, true), (2, true), (3, true), (4, true), (5, true), (6, true), (7, true), (8, false)] (by kernel_rfl) (by kernel_rfl) (fun c a d v w h => HRR.out c a d v w h) (fun ⟨a', w', h⟩ => hL ⟨a', w', h⟩) ?_
      have hqd : Q V V.drew := (Q.refl V).drew
      have HD1 := Lib.hid (HT1.out.q hqd)
      have HD2 := Lib.hid (HT2.out.q hqd)
      have HD3 := Lib.hid (HT3.out.q hqd)
      have HD4 := Lib.hid (HT4.out.trans (QF.of (F := fun _ => False) hqd) (fun _ h => h.elim))
      have HD5 := Lib.hid (show W8.heap.size ≤ V.drew.heap.size from HT5.out)
      have HS1 := Lib.hid (show (updF k s' x).1 = joinZ (up k x) s'.1 ((putN s'.2 (x, up k x) s'.1 (x, sib (up k x))).getD 0) from rfl)
      have HS2 := Lib.hid (show (updF k s' x).2 = putN s'.2 (x, up k x) s'.1 from rfl)
      have HKD := Lib.hid (show ∀ a' W', KeepsFrom W8.heap.size V.drew W' → W'.heap[LB]? = V.drew.heap[LB]? → (PartAt W' PB MC MN n ⟨s.cm, (updF k s' x).2, s.root⟩ ∧ Box W' XB [.int .u64 (updF k s' x).1] ∧ Box W' TB [.pointer (some ⟨PB, 0, none⟩)] ∧ QF (fun b => b = PB ∨ b = MN) w W' ∧ W8.heap.size ≤ W'.heap.size) → R .normal a' W' from fun a' W' h1 h2 h3 => HKK.out a' W' ⟨h1.size, h1.same⟩ h2 h3)
      clear hqd HKK HT1 HT2 HT3 HT4 HT5
      generalize updF k s' x = r at *
      generalize V.drew = W1 at *
      have hx6 : up k x ≤ k := Nat.div_le_self _ _
      have hxor := sib_xor (up k x) (by omega)
      have hs6 : sib (up k x) ≤ up k x + 1 := by rw [sib_eq]; omega
      generalize sib (up k x) = sx at *
      generalize up k x = ux at *
      have y0 : ∀ y : AfterF (fun _ => False) W1, y.w.cell? ⟨XB, 0, none⟩ = some (.int .u64 s'.1) := Box.sF HD2.out (fun e => e) 0 _ rfl
      have y1 : ∀ y : AfterF (fun _ => False) W1, y.w.cell? ⟨TB, 0, none⟩ = some (.pointer (some ⟨PB, 0, none⟩)) := Box.sF HD3.out (fun e => e) 0 _ rfl
      have y2 : ∀ y : AfterF (fun _ => False) W1, y.w.cell? ⟨PB, 3, none⟩ = some (.map (some MN)) := Box.sF HD1.out.box (fun e => e) 3 _ rfl
      repeat (first | (refine mixS_val rfl rfl ?_; go_big_quiet_step (fail); refine wpQuiet_nil ?_) | (refine mixS_nil rfl rfl rfl ?_; go_big_quiet_step (fail); refine wpQuiet_nil ?_))
      clear y0 y1 y2
      refine mixS_last rfl rfl ?_
      intro K hK
      obtain ⟨kl, hkl⟩ := keyPlace (x, ux) (by show x ≤ _; omega) (by show ux ≤ _; omega)
      refine wp_put _ _ _ 71 rfl keyedPlace Try.underlying71 kP_inj (x, ux) hkl (.int .u64 s'.1) rfl rfl rfl HD1.out.nm ?_
      intro w2 hm2 hq2 hsz2
      go_frame
      refine hK _ _ ?_
      clear hK K
      refine mixS_end ?_
      obtain ⟨l1, l2, l3⟩ := HL1.out
      have e2 := HTX.out
      have HE1 := Lib.hid (HD1.out.putN (x, ux) s'.1 hq2 hm2)
      have HE2 := Lib.hid (HD2.out.qf hq2 (fun e => by omega))
      have HE3 := Lib.hid (HD3.out.qf hq2 (fun e => by omega))
      have HE4 := Lib.hid (HD4.out.trans hq2 (fun b e => .inl (.inr e)))
      have HEQ := Lib.hid hq2
      clear hm2 hq2 hsz2 l1 l2 l3 e2 hkl HD1 HD2 HD3 HD4
      gi_wp2_with (fail)
      refine wpIn_region_mixS (F := fun _ => False) 12 [(0, true), (1, true), (2, true), (3, true), (4, true), (5, true), (6, true), (7, true), (8, true), (9, true), (10, true), (11, false), (12, false)] (by kernel_rfl) (by kernel_rfl) (fun c a d v w h => HRR.out c a d v w h) (fun ⟨a', w', h⟩ => hL ⟨a', w', h⟩) ?_
      have hqd : Q w2 w2.drew := (Q.refl w2).drew
      have HG1 := Lib.hid (HE1.out.q hqd)
      have HG2 := Lib.hid (HE2.out.q hqd)
      have HG3 := Lib.hid (HE3.out.q hqd)
      have HG4 := Lib.hid (HE4.out.trans (QF.of (F := fun _ => False) hqd) (fun _ h => h.elim))
      have HGQ := Lib.hid (HEQ.out.trans (QF.of (F := fun _ => False) hqd) (fun _ h => h.elim))
      clear hqd HE1 HE2 HE3 HE4 HEQ
      generalize w2.drew = w3 at *
      generalize hNN : putN s'.2 (x, ux) s'.1 = N2 at *
      have HN2 := Lib.hid hNN
      clear hNN
      have y0 : ∀ y : AfterF (fun _ => False) w3, y.w.cell? ⟨XB, 0, none⟩ = some (.int .u64 s'.1) := Box.sF HG2.out (fun e => e) 0 _ rfl
      have y1 : ∀ y : AfterF (fun _ => False) w3, y.w.cell? ⟨TB, 0, none⟩ = some (.pointer (some ⟨PB, 0, none⟩)) := Box.sF HG3.out (fun e => e) 0 _ rfl
      have y2 : ∀ y : AfterF (fun _ => False) w3, y.w.cell? ⟨PB, 3, none⟩ = some (.map (some MN)) := Box.sF HG1.out.box (fun e => e) 3 _ rfl
      have y3 : ∀ y : AfterF (fun _ => False) w3, (Instr.lookup 71 (.map (some MN)) (.agg #[.int .i64 x, .int .i64 sx]) false).run Try.prog y.w = .ok (.int .u64 ((N2 (x, sx)).getD 0)) y.w := fun y => lookN (HG1.out.nm.qf y.q (fun e => e)) x sx (by omega) (by omega)
      have hu1 : ux ≤ 1000000 := by omega
      generalize (N2 (x, sx)).getD 0 = px at *
      repeat (first | (refine mixS_val rfl rfl ?_; go_big_quiet_step (fail); refine wpQuiet_nil ?_) | (refine mixS_nil rfl rfl rfl ?_; go_big_quiet_step (fail); refine wpQuiet_nil ?_))
      clear y0 y1 y2 y3
      refine mixS_run rfl rfl ?_
      intro K hK
      go_wp2_with (fail)
      refine (mJoin_any ux s'.1 px w3 hu1).mono ?_
      generalize joinZ ux s'.1 px = nh at *
      rintro e w4 ⟨rfl, hq4⟩
      refine hK _ _ (QF.of hq4) ?_
      clear hK K
      have HI1 := Lib.hid (HG1.out.q hq4)
      have HI2 := Lib.hid (HG2.out.q hq4)
      have HI3 := Lib.hid (HG3.out.q hq4)
      have HI4 := Lib.hid (HG4.out.trans (QF.of (F := fun _ => False) hq4) (fun _ h => h.elim))
      have HIQ := Lib.hid (HGQ.out.trans (QF.of (F := fun _ => False) hq4) (fun _ h => h.elim))
      clear hq4 HG1 HG2 HG3 HG4 HGQ
      refine mixS_last rfl rfl ?_
      intro K hK
      obtain ⟨c0, f0⟩ := HI2.out.2 0 _ rfl
      have hxl := HI2.out.1
      go_wp2_with (fail)
      refine mixS_end ?_
      obtain ⟨l1, l2, l3⟩ := HL1.out
      have e1 := HTX.out
      have e2 := HL8.out
      have e3 := HW8.out
      have e4 := HTB.out
      have e5 := HD5.out
      have hst : QF (· = XB) w4 (w4.setCell ⟨XB, 0, none⟩ (.int .u64 nh)) := QF.set (F := (· = XB)) w4 XB 0 _ rfl
      have hall : QF (fun b => b = XB ∨ b = MN) W1 (w4.setCell ⟨XB, 0, none⟩ (.int .u64 nh)) := (HIQ.out.mono (fun b hb => .inr hb)).trans hst (fun b hb => .inl (.inl hb))
      refine HKD.out _ _ (QF.keeps hall (fun b hb hge o ho => ?_)) ?_ ⟨?_, ?_, HI3.out.qf hst (fun e => by omega), HI4.out.trans hst (fun b e => .inr (by omega)), Nat.le_trans e5 hall.size⟩
      · rcases hb with hb | hb <;> omega
      · exact hall.block LB (by omega) (fun e => by rcases e with e | e <;> omega)
      · rw [HS2.out]; exact HI1.out.qf hst (fun e => by omega) (fun e => by omega) (fun e => by omega)
      · rw [HS1.out]; exact Box.setC HI2.out 0 _ (show 0 < 1 by decide)
    case done =>
      rintro D V hD ⟨t1, t2, t3, t4, t5⟩ hh
      have hr : updR n k s = (List.range h).foldl (updF k) (z, s.N) := HR.out
      rw [← hr] at t1 t2
      have HT1 := Lib.hid t1
      have HT2 := Lib.hid t2
      have HT3 := Lib.hid t3
      have HT4 := Lib.hid t4
      have HHD := Lib.hid hh
      have HDD := Lib.hid hD
      have HUP := Lib.hid (show updP n k s = ⟨s.cm, (updR n k s).2, (updR n k s).1⟩ from rfl)
      clear hr HR
      obtain ⟨p0, q0⟩ := HT3.out.2 0 _ rfl
      have hpl := HT3.out.1
      obtain ⟨x0, _⟩ := HT2.out.2 0 _ rfl
      have hxl := HT2.out.1
      obtain ⟨b1, f1⟩ := HT1.out.box.2 1 _ rfl
      have hbl := HT1.out.box.1
      clear t1 t2 t3 t4 t5 hh hD
      generalize updR n k s = r at *
      go_wp2
      have hD := HDD.out
      obtain ⟨l1, l2, l3⟩ := HL1.out
      have e1 := HW8.out
      have e2 := HTX.out
      have e3 := HL8.out
      have e4 := HTB.out
      have hpb : QF (· = PB) V (V.setCell ⟨PB, 1, none⟩ (.int .u64 r.1)) := QF.set (F := (· = PB)) V PB 1 _ rfl
      refine postM_end1 (D := D) ?_ (fun W' q => ⟨results_none rfl _ _ _, ⟨⟨_, rfl⟩, ?_, (HT4.out.trans hpb (fun b e => .inl (.inl e))).trans q (fun b e => .inr (by omega))⟩⟩)
      · exact (hpb.block D (Array.getElem?_eq_some_iff.1 HHD.out).1 (by omega)).trans HHD.out
      · rw [HUP.out]
        exact (HT1.out.setR r.1).qf q (by omega) (by omega) (by omega)
end Go.Proofs.Ytcgnihgebifcjaa
