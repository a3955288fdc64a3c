/- Contract: Prove. -/
import Derived.Test.YtcgnihgebifcjaaMkU
namespace Go.Proofs.Ytcgnihgebifcjaa
open Go Go.RowKit Go.BigFrame
attribute [local go_sem] Oper.semAt_some

/-- the proof of leaf i -/
def proofF (F : Nat → Nat → Int) (i : Nat) (s : List Int) (m : Nat) : List Int := s ++ [F m (sib (up i m))]
def proofZ (F : Nat → Nat → Int) (h i : Nat) : List Int := (List.range h).foldl (proofF F i) []
theorem proofZ_eq (F : Nat → Nat → Int) (h i : Nat) : proofZ F h i = (List.range h).map fun m => F m (sib (up i m)) := by
  unfold proofZ
  induction h with
  | zero => rfl
  | succ h ih => rw [List.range_succ, List.foldl_append, ih, List.map_append]; rfl
theorem proofZ_len (F : Nat → Nat → Int) (h i : Nat) : (proofZ F h i).length = h := by rw [proofZ_eq]; simp
/-- a call that returns a leaf with its proof in memory of its own -/
def LeafRet (w : World) (i v : Int) (proof : List Int) (e : Ending) (w' : World) : Prop :=
  ∃ a cap, e = .returned (.agg #[.int .i64 i, .int .i64 v, .slice a proof.length cap]) ∧ w'.ownsRow w.heap.size 22 1 (.slice a proof.length cap) proof.length (proof.map (Value.int .u64)) ∧ Q w w'
theorem leaf_results {RB : Nat} {W : World} {x y z : Value} {tmps : Array Value} (hb : Box W RB [x, y, z]) (ht : tmps[4]? = some (.pointer (some ⟨RB, 0, none⟩))) : (results Try.f20 tmps).run Try.prog W = .ok (.agg #[x, y, z]) W := by
  have c0 := (hb.2 0 _ rfl).1
  have c1 := (hb.2 1 _ rfl).1
  have c2 := (hb.2 2 _ rfl).1
  simp [results, Try.results20, go_sem, ht, c0, c1, c2]
set_option maxRecDepth 100000 in
set_option maxHeartbeats 2000000 in
theorem mProve_bad (TB : Nat) (col : Nat → Nat) (cells : List Int) (F : Nat → Nat → Int) (i : Int) (w : World) (hT : TreeAt w TB col cells F) (hi : i < 0 ∨ cells.length ≤ i) :
    Calls Try.prog 20 #[.pointer (some ⟨TB, 0, none⟩), .int .i64 i] w (LeafRet w 0 0 []) := by
  obtain ⟨CB, ca, cc, VB, vc, B, lc, h1, h2, h3, h4, h5, h6⟩ := hT.ex
  have hsm := hT.small
  have hlt := h1.1
  have HB1 := Lib.hid ((h1.alloc (.cells #[.pointer (some ⟨TB, 0, none⟩)] 35)).alloc (.cells #[.int .i64 0, .int .i64 0, .slice none 0 0] 25))
  have HQ1 := Lib.hid (((Q.refl w).alloc (.cells #[.pointer (some ⟨TB, 0, none⟩)] 35)).alloc (.cells #[.int .i64 0, .int .i64 0, .slice none 0 0] 25))
  have HP1 := Lib.hid ((Box.new w [.pointer (some ⟨TB, 0, none⟩)] 35).alloc (.cells #[.int .i64 0, .int .i64 0, .slice none 0 0] 25))
  have HR1 := Lib.hid (Box.new (w.alloc (.cells #[.pointer (some ⟨TB, 0, none⟩)] 35)) [.int .i64 0, .int .i64 0, .slice none 0 0] 25)
  rw [World.size_alloc] at HR1
  clear hT h3 h2 h4 h5 h6 h1
  refine calls_marks Try.func20 rfl ?_
  simp only [Try.ntmps20, List.size_toArray, List.length_cons, List.length_nil, Nat.reduceAdd, Nat.reduceSub, Array.replicate_succ, Array.replicate_zero, List.push_toArray, List.append_toArray, List.nil_append, List.cons_append]
  go_upto_region 1 with (fail)
  generalize (w.alloc (.cells #[.pointer (some ⟨TB, 0, none⟩)] 35)).alloc (.cells #[.int .i64 0, .int .i64 0, .slice none 0 0] 25) = W at *
  generalize hPB : w.heap.size = PB at *
  have HPB := Lib.hid hPB
  clear hPB
  obtain ⟨p0, q0⟩ := HP1.out.2 0 _ rfl
  obtain ⟨r0, s0⟩ := HR1.out.2 0 _ rfl
  obtain ⟨r1, s1⟩ := HR1.out.2 1 _ rfl
  obtain ⟨r2, s2⟩ := HR1.out.2 2 _ rfl
  have hpl := HP1.out.1
  have hrl := HR1.out.1
  obtain ⟨b0, _⟩ := HB1.out.2 0 _ rfl
  have hbl := HB1.out.1
  have fin : ∀ (tmps : Array Value) (W2 : World), tmps[4]? = some (.pointer (some ⟨PB + 1, 0, none⟩)) → Box W2 (PB + 1) [.int .i64 0, .int .i64 0, .slice none 0 0] → Q w W2 → postM Try.f20 (LeafRet w 0 0 []) .ret { tmps := tmps, defers := [] } W2 := fun tmps W2 ht hb hq =>
    postM_ret0 (fun W' q => ⟨leaf_results (hb.q q) ht, ⟨none, 0, rfl, World.ownsRow_nil _ _ _ _, hq.trans q⟩⟩)
  have FIN := Lib.hid fin
  have hst : Box (((W.setCell ⟨PB + 1, 0, none⟩ (.int .i64 0)).setCell ⟨PB + 1, 1, none⟩ (.int .i64 0)).setCell ⟨PB + 1, 2, none⟩ (.slice none 0 0)) (PB + 1) [.int .i64 0, .int .i64 0, .slice none 0 0] :=
    Box.setC (Box.setC (Box.setC HR1.out 0 _ (show 0 < 3 by decide)) 1 _ (show 1 < 3 by decide)) 2 _ (show 2 < 3 by decide)
  have HST := Lib.hid hst
  have HQS := Lib.hid (((HQ1.out.setCell (p := ⟨PB + 1, 0, none⟩) (show w.heap.size ≤ PB + 1 by have := HPB.out; omega) (.int .i64 0)).setCell (p := ⟨PB + 1, 1, none⟩) (show w.heap.size ≤ PB + 1 by have := HPB.out; omega) (.int .i64 0)).setCell (p := ⟨PB + 1, 2, none⟩) (show w.heap.size ≤ PB + 1 by have := HPB.out; omega) (.slice none 0 0))
  clear fin hst
  by_cases h0 : i < 0
  · have h0b : decide (i < 0) = true := decide_eq_true h0
    go_wp2
    exact FIN.out _ _ rfl HST.out HQS.out
  · have hge : (cells.length : Int) ≤ i := by omega
    have h0b : decide (i < 0) = false := decide_eq_false h0
    go_wp2
    exact FIN.out _ _ rfl HST.out HQS.out
set_option maxRecDepth 100000 in
set_option maxHeartbeats 4000000 in
theorem mProve_ok (TB : Nat) (col : Nat → Nat) (cells : List Int) (F : Nat → Nat → Int) (k : Nat) (v : Int) (w : World) (hT : TreeAt w TB col cells F) (hk : cells[k]? = some v) :
    Calls Try.prog 20 #[.pointer (some ⟨TB, 0, none⟩), .int .i64 k] w (LeafRet w k v (proofZ F (hgt cells.length) k)) := by
  obtain ⟨i0, hi, hz0, hz1, hz2⟩ := info_parts infoU64m
  have HI := Lib.hid hi
  have hkl : k < cells.length := (List.getElem?_eq_some_iff.1 hk).1
  have hP2 := hgt_P2 cells.length (by have := hT.small; omega)
  obtain ⟨CB, ca, cc, VB, vc, B, lc, h1, ⟨h2a, h2b, h2c, h2d⟩, h3, h4, h5, h6⟩ := hT.ex
  have hsm := hT.small
  have h17 := hgt_17 cells.length (by omega)
  obtain ⟨rfl, h3b, h3c⟩ := h3 (by omega)
  have hlt := h1.1
  unfold maxLen at h2b h2d
  have HB1 := Lib.hid ((h1.alloc (.cells #[.pointer (some ⟨TB, 0, none⟩)] 35)).alloc (.cells #[.int .i64 0, .int .i64 0, .slice none 0 0] 25))
  have HC1 := Lib.hid ((h3c.alloc (.cells #[.pointer (some ⟨TB, 0, none⟩)] 35)).alloc (.cells #[.int .i64 0, .int .i64 0, .slice none 0 0] 25))
  have HQ1 := Lib.hid (((Q.refl w).alloc (.cells #[.pointer (some ⟨TB, 0, none⟩)] 35)).alloc (.cells #[.int .i64 0, .int .i64 0, .slice none 0 0] 25))
  have HP1 := Lib.hid ((Box.new w [.pointer (some ⟨TB, 0, none⟩)] 35).alloc (.cells #[.int .i64 0, .int .i64 0, .slice none 0 0] 25))
  have HR1 := Lib.hid (Box.new (w.alloc (.cells #[.pointer (some ⟨TB, 0, none⟩)] 35)) [.int .i64 0, .int .i64 0, .slice none 0 0] 25)
  rw [World.size_alloc] at HR1
  have HVB := Lib.hid h5
  have HLV := Lib.hid h6
  have HTL := Lib.hid h1
  have HCK := Lib.hid (show (cells.map (Value.int .i64))[k]? = some (.int .i64 v) by rw [List.getElem?_map, hk]; rfl)
  clear hT h1 h3 h3b h3c h4 h5 h6 hi hk
  generalize hH : hgt cells.length = h at *
  refine calls_marks Try.func20 rfl ?_
  simp only [Try.ntmps20, List.size_toArray, List.length_cons, List.length_nil, Nat.reduceAdd, Nat.reduceSub, Array.replicate_succ, Array.replicate_zero, List.push_toArray, List.append_toArray, List.nil_append, List.cons_append]
  go_upto_region 1 with (fail)
  have HSW := Lib.hid (show ((w.alloc (.cells #[.pointer (some ⟨TB, 0, none⟩)] 35)).alloc (.cells #[.int .i64 0, .int .i64 0, .slice none 0 0] 25)).heap.size = w.heap.size + 1 + 1 by simp)
  generalize (w.alloc (.cells #[.pointer (some ⟨TB, 0, none⟩)] 35)).alloc (.cells #[.int .i64 0, .int .i64 0, .slice none 0 0] 25) = W at *
  generalize hPB : w.heap.size = PB at *
  have HPB := Lib.hid hPB
  clear hPB
  obtain ⟨p0, q0⟩ := HP1.out.2 0 _ rfl
  have hpl := HP1.out.1
  obtain ⟨b0, _⟩ := HB1.out.2 0 _ rfl
  obtain ⟨b1, _⟩ := HB1.out.2 1 _ rfl
  have hbl := HB1.out.1
  obtain ⟨ck, _⟩ := HC1.out.2 k _ HCK.out
  have hcl := HC1.out.1
  have hki : (k : Int) < (cells.length : Nat) := by omega
  have hkd : decide ((cells.length : Int) ≤ (k : Int)) = false := decide_eq_false (by omega)
  have hh1 : ((h : Int) + 1 - 1) = h := by omega
  go_wp2_with (fail)
  refine (mPath_any k h _).mono ?_
  rintro e w4 ⟨rfl, rfl⟩
  go_wp2_with (fail)
  generalize hLB : W.heap.size = LB at *
  have HLB := Lib.hid hLB
  have bL := Box.new W [.int .i64 k, .int .i64 v, .slice none 0 0] 25
  have bI := Boxed.new (W.alloc (.cells #[.int .i64 k, .int .i64 v, .slice none 0 0] 25)) 3 (.int .i64 k)
  have bM := Boxed.new ((W.alloc (.cells #[.int .i64 k, .int .i64 v, .slice none 0 0] 25)).alloc (.cells #[.int .i64 k] 3)) 3 (.int .i64 h)
  simp only [World.size_alloc, hLB] at bL bI bM
  have HL4 := Lib.hid ((bL.alloc (.cells #[.int .i64 k] 3)).alloc (.cells #[.int .i64 h] 3))
  have HI4 := Lib.hid (bI.alloc (.cells #[.int .i64 h] 3))
  have HM4 := Lib.hid bM
  have HP4 := Lib.hid (((HP1.out.alloc (.cells #[.int .i64 k, .int .i64 v, .slice none 0 0] 25)).alloc (.cells #[.int .i64 k] 3)).alloc (.cells #[.int .i64 h] 3))
  have HR4 := Lib.hid (((HR1.out.alloc (.cells #[.int .i64 k, .int .i64 v, .slice none 0 0] 25)).alloc (.cells #[.int .i64 k] 3)).alloc (.cells #[.int .i64 h] 3))
  have HQ4 := Lib.hid (((HQ1.out.alloc (.cells #[.int .i64 k, .int .i64 v, .slice none 0 0] 25)).alloc (.cells #[.int .i64 k] 3)).alloc (.cells #[.int .i64 h] 3))
  have HW4 := Lib.hid (show (((W.alloc (.cells #[.int .i64 k, .int .i64 v, .slice none 0 0] 25)).alloc (.cells #[.int .i64 k] 3)).alloc (.cells #[.int .i64 h] 3)).heap.size = LB + 1 + 1 + 1 by simp [hLB])
  clear bL bI bM hLB p0 q0 hpl b0 b1 hbl ck hcl HP1 HR1 HQ1 HB1 HC1
  generalize ((W.alloc (.cells #[.int .i64 k, .int .i64 v, .slice none 0 0] 25)).alloc (.cells #[.int .i64 k] 3)).alloc (.cells #[.int .i64 h] 3) = W4 at *
  refine wp_path (σ := List Int) (LB + 1 + 1) (LB + 1) k h (by omega) (by omega) rfl rfl HM4.out HI4.out (proofF F k) []
    (fun j s W => ∃ (a : Option Addr) (cap : Nat), Box W LB [.int .i64 k, .int .i64 v, .slice a s.length cap] ∧ W.ownsRow W4.heap.size 22 1 (.slice a s.length cap) s.length (s.map (Value.int .u64)) ∧ Box W PB [.pointer (some ⟨TB, 0, none⟩)] ∧ Box W (PB + 1) [.int .i64 0, .int .i64 0, .slice none 0 0] ∧ Q w W ∧ W4.heap.size ≤ W.heap.size ∧ s.length = j)
    ⟨none, 0, HL4.out, World.ownsRow_nil _ _ _ _, HP4.out, HR4.out, HQ4.out, Nat.le_refl _, rfl⟩ ?stay ?a1 ?assign ?body ?done
  case stay =>
    rintro j s W W' ⟨a, cap, h1, h2, h3, h4, h5, h6, h7⟩ q
    have e1 := HW4.out
    have e2 := HSW.out
    have e3 := HLB.out
    refine ⟨a, cap, h1.qf q (fun e => ?_), own_qf h2 q (fun b hb e => ?_), h3.qf q (fun e => ?_), h4.qf q (fun e => ?_), QF.q h5 q (fun b hb => ?_), Nat.le_trans h6 q.size, h7⟩
    · have := e.1; omega
    · obtain ⟨_, o, ho, hc⟩ := e
      rw [row_cells h2 b hb o ho] at hc
      cases hc
    · have := e.1; omega
    · have := e.1; omega
    · exact Nat.le_trans HQ4.out.size hb.1
  case assign =>
    intro l n' x W K hK
    unfold lvl
    gi_wp2
    exact hK
  case body =>
    rintro l n' x j s W R hx hj ⟨a, cap, b1, b2, b3, b4, hq, hsz4, hsl⟩ hL hR hK
    have HKK := Lib.hid hK
    have HD1 := Lib.hid (b1.q (Q.drew (Q.refl W)))
    have HD2 := Lib.hid (own_q b2 (Q.drew (Q.refl W)))
    have HD3 := Lib.hid (b3.q (Q.drew (Q.refl W)))
    have HD4 := Lib.hid (b4.q (Q.drew (Q.refl W)))
    have HQD := Lib.hid hq.drew
    have HS4 := Lib.hid (show W4.heap.size ≤ W.drew.heap.size from hsz4)
    have HKD := Lib.hid (show ∀ a' W', KeepsFrom W4.heap.size W.drew W' → W'.heap[LB + 1]? = W.drew.heap[LB + 1]? → (∃ (a : Option Addr) (cap : Nat), Box W' LB [.int .i64 k, .int .i64 v, .slice a (proofF F k s x).length cap] ∧ W'.ownsRow W4.heap.size 22 1 (.slice a (proofF F k s x).length cap) (proofF F k s x).length ((proofF F k s x).map (Value.int .u64)) ∧ Box W' PB [.pointer (some ⟨TB, 0, none⟩)] ∧ Box W' (PB + 1) [.int .i64 0, .int .i64 0, .slice none 0 0] ∧ Q w W' ∧ W4.heap.size ≤ W'.heap.size ∧ (proofF F k s x).length = j + 1) → R .normal a' W' from fun a' W' h1 h2 h3 => HKK.out a' W' ⟨h1.size, h1.same⟩ h2 h3)
    have hsh : s.length ≤ 100 := by omega
    have HSL := Lib.hid hsl
    clear hK HKK b1 b2 b3 b4 hq hsz4 hsl
    refine wpIn_block ?_
    refine wpIn_region_mixS (F := fun b => (Value.slice a s.length cap).ownBlock = some b) 16 [(0, true), (1, true), (2, true), (3, true), (4, true), (5, true), (6, true), (7, true), (8, true), (9, true), (10, true), (11, true), (12, true), (13, false), (14, false), (15, true), (16, false)] (by kernel_rfl) (by kernel_rfl) hR (fun ⟨a', w', h⟩ => hL ⟨a', w', h⟩) ?_
    generalize W.drew = W1 at *
    have e1 := HW4.out
    have e2 := HSW.out
    have e3 := HLB.out
    have e4 := HPB.out
    have hrow := fun b hb => HD2.out.lt b hb
    have hTBl : TB < w.heap.size := HTL.out.1
    have hVBl : VB < w.heap.size := HVB.out.1
    obtain ⟨hBx, hl1, hl2, _⟩ := HLV.out x (by omega)
    have hBl : B x < w.heap.size := hBx.1
    unfold maxLen at hl2
    have hQ1 := HQD.out
    have hup : up k x < P2 (h - x) := up_lt (by omega) (by omega)
    have hps := P2_succ (h - x - 1)
    rw [show h - x - 1 + 1 = h - x by omega] at hps
    have hsb : sib (up k x) < P2 (h - x) := by rw [hps] at hup ⊢; exact sib_lt hup
    have hp17 := P2_17 (show h - x ≤ 17 by omega)
    have hxor := sib_xor (up k x) (by omega)
    have y0 : ∀ y : AfterF (fun b => (Value.slice a s.length cap).ownBlock = some b) W1, y.w.cell? ⟨LB, 2, none⟩ = some (.slice a s.length cap) := Box.sF HD1.out (fun e => by have := (hrow _ e).1; omega) 2 _ rfl
    have y1 : ∀ y : AfterF (fun b => (Value.slice a s.length cap).ownBlock = some b) W1, y.w.cell? ⟨PB, 0, none⟩ = some (.pointer (some ⟨TB, 0, none⟩)) := Box.sF HD3.out (fun e => by have := (hrow _ e).1; omega) 0 _ rfl
    have y2 : ∀ y : AfterF (fun b => (Value.slice a s.length cap).ownBlock = some b) W1, y.w.cell? ⟨TB, 1, none⟩ = some (.slice (some ⟨VB, 0, none⟩) (h + 1) vc) := Box.sF (HTL.out.q hQ1) (fun e => by have := (hrow _ e).1; omega) 1 _ rfl
    have y3 : ∀ y : AfterF (fun b => (Value.slice a s.length cap).ownBlock = some b) W1, y.w.cell? ⟨VB, x, none⟩ = some (.slice (some ⟨B x, 0, none⟩) (P2 (h - x)) (lc x)) := Box.sF (HVB.out.q hQ1) (fun e => by have := (hrow _ e).1; omega) x _ (by rw [List.getElem?_map, List.getElem?_range (by omega)]; rfl)
    have y4 : ∀ y : AfterF (fun b => (Value.slice a s.length cap).ownBlock = some b) W1, y.w.cell? ⟨B x, sib (up k x), none⟩ = some (.int .u64 (F x (sib (up k x)))) := Box.sF (hBx.q hQ1) (fun e => by have := (hrow _ e).1; omega) _ _ (rowF_at F h x _ hsb)
    have HPF := Lib.hid (show proofF F k s x = s ++ [F x (sib (up k x))] from rfl)
    have HRW := Lib.hid hrow
    clear hQ1 hBx hrow hps
    generalize F x (sib (up k x)) = px at *
    generalize sib (up k x) = sx at *
    generalize up k x = ux at *
    generalize P2 (h - x) = px2 at *
    have hsx : (sx : Int) < (px2 : Nat) := by omega
    have hxh : (x : Int) < (h : Int) + 1 := by omega
    clear e1 e2 e3 e4
    repeat (first | (refine mixS_val rfl rfl ?_; go_big_quiet_step (fail); refine wpQuiet_nil ?_) | (refine mixS_nil rfl rfl rfl ?_; go_big_quiet_step (fail); refine wpQuiet_nil ?_))
    clear y0 y1 y2 y3 y4
    refine mixS_run rfl rfl ?_
    intro K hK
    go_wp2_with (fail)
    refine hK _ _ (QF.of ((Q.refl W1).alloc _)) ?_
    clear hK K
    refine mixS_run rfl rfl ?_
    intro K hK
    refine wp_append_sl _ _ 23 rfl W4.heap.size 22 i0 _ 1 8 Try.underlying23 HI.out hz0 hz1 hz2 rfl (by decide) _ s.length _ rfl (own_q HD2.out ((Q.refl W1).alloc _)) (some ⟨W1.heap.size, 0, none⟩) 1 1 [.int .u64 px] rfl (slNew W1 [.int .u64 px] 22 1 rfl) (by simp [Value.oneCell']) (by omega) (by decide) (by have := HS4.out; simp; omega) ?_
    intro a9 c9 w9 hown9 hgrow9 hT9
    have HG9 := Lib.hid (show QF (fun b => (Value.slice a s.length cap).ownBlock = some b) (W1.alloc (.cells #[.int .u64 px] 22)) w9 from QF.grown hgrow9 (fun i hi => hi))
    have HGA := Lib.hid (show QF (fun b => (Value.slice a s.length cap).ownBlock = some b) W1 w9 from (QF.of ((Q.refl W1).alloc _)).trans HG9.out (fun i h => .inl h))
    have HO9 := Lib.hid hown9
    refine hK _ _ HG9.out ?_
    clear hK K hown9 hgrow9 hT9
    go_frame
    have hb9 := HD1.out.qf HGA.out (fun e => by have := (HRW.out _ e).1; have e1 := HW4.out; omega)
    obtain ⟨cb, fb⟩ := hb9.2 2 _ rfl
    have hbl := hb9.1
    have HB9 := Lib.hid hb9
    clear hb9
    repeat (refine mixS_val rfl rfl ?_; go_big_quiet_step (fail); refine wpQuiet_nil ?_)
    refine mixS_last rfl rfl ?_
    intro K hK
    go_wp2_with (fail)
    refine mixS_end ?_
    have e1 := HW4.out
    have e2 := HSW.out
    have e3 := HLB.out
    have e4 := HPB.out
    have hst : QF (· = LB) w9 (w9.setCell ⟨LB, 2, none⟩ (.slice a9 (s.length + 1) c9)) := QF.set (F := (· = LB)) w9 LB 2 _ rfl
    have hall : QF (fun b => (Value.slice a s.length cap).ownBlock = some b ∨ b = LB) W1 (w9.setCell ⟨LB, 2, none⟩ (.slice a9 (s.length + 1) c9)) := (HGA.out.mono (fun b hb => .inl hb)).trans hst (fun b hb => .inl (.inr hb))
    have hpl : (proofF F k s x).length = s.length + 1 := by rw [HPF.out, List.length_append]; rfl
    refine HKD.out _ _ (QF.keeps hall (fun b hb h5 o ho => ?_)) ?_ ⟨a9, c9, ?_, ?_, ?_, ?_, ?_, ?_, ?_⟩
    · rcases hb with hb | hb
      · exact row_cells HD2.out b hb o ho
      · omega
    · have h6 : LB + 1 < W1.heap.size := by have := HS4.out; omega
      exact hall.block (LB + 1) h6 (fun e => by
        rcases e with e | e
        · have := (HRW.out _ e).1; omega
        · omega)
    · rw [hpl]
      exact Box.setC HB9.out 2 _ (show 2 < 3 by decide)
    · rw [hpl, HPF.out, List.map_append]
      exact own_qf HO9.out hst (fun b hb e => by have := (HO9.out.lt b hb).1; omega)
    · exact (HD3.out.qf hall (fun e => by
        rcases e with e | e
        · have := (HRW.out _ e).1; omega
        · omega))
    · exact (HD4.out.qf hall (fun e => by
        rcases e with e | e
        · have := (HRW.out _ e).1; omega
        · omega))
    · refine QF.q HQD.out hall (fun b hb => ?_)
      rcases hb with hb | hb
      · have := (HRW.out _ hb).1; omega
      · omega
    · have := hall.size; have := HS4.out; omega
    · rw [hpl, HSL.out]
  case done =>
    rintro D W hD ⟨a, cap, b1, b2, b3, b4, hq, hsz4, hsl⟩ hh
    have HD1 := Lib.hid b1
    have HD2 := Lib.hid b2
    have HD4 := Lib.hid b4
    have HQD := Lib.hid hq
    have HHD := Lib.hid hh
    have HDD := Lib.hid hD
    obtain ⟨l0, _⟩ := b1.2 0 _ rfl
    obtain ⟨l1, _⟩ := b1.2 1 _ rfl
    obtain ⟨l2, _⟩ := b1.2 2 _ rfl
    obtain ⟨r0, s0⟩ := b4.2 0 _ rfl
    obtain ⟨r1, s1⟩ := b4.2 1 _ rfl
    obtain ⟨r2, s2⟩ := b4.2 2 _ rfl
    have hll := b1.1
    have hrl := b4.1
    have HZ := Lib.hid (show (List.range h).foldl (proofF F k) [] = proofZ F h k from rfl)
    rw [HZ.out] at l2 HD1 HD2
    clear b1 b2 b3 b4 hq hsl hh hD
    go_wp2
    generalize hpz : proofZ F h k = pz at *
    have e1 := HW4.out
    have e2 := HSW.out
    have e3 := HLB.out
    have e4 := HPB.out
    have hD := HDD.out
    have hst : QF (· = PB + 1) W (((W.setCell ⟨PB + 1, 0, none⟩ (.int .i64 k)).setCell ⟨PB + 1, 1, none⟩ (.int .i64 v)).setCell ⟨PB + 1, 2, none⟩ (.slice a pz.length cap)) :=
      ((QF.set (F := (· = PB + 1)) W (PB + 1) 0 _ rfl).trans (QF.set (F := (· = PB + 1)) _ (PB + 1) 1 _ rfl) (fun _ h => .inl h)).trans (QF.set (F := (· = PB + 1)) _ (PB + 1) 2 _ rfl) (fun _ h => .inl h)
    have hbx : Box (((W.setCell ⟨PB + 1, 0, none⟩ (.int .i64 k)).setCell ⟨PB + 1, 1, none⟩ (.int .i64 v)).setCell ⟨PB + 1, 2, none⟩ (.slice a pz.length cap)) (PB + 1) [.int .i64 k, .int .i64 v, .slice a pz.length cap] :=
      Box.setC (Box.setC (Box.setC HD4.out 0 _ (show 0 < 3 by decide)) 1 _ (show 1 < 3 by decide)) 2 _ (show 2 < 3 by decide)
    have hh2 := (hst.block D (Array.getElem?_eq_some_iff.1 HHD.out).1 (by omega)).trans HHD.out
    have hor := own_qf HD2.out hst (fun b hb e => by have := (HD2.out.lt b hb).1; omega)
    have hqq := QF.q HQD.out hst (fun b e => by omega)
    generalize ((W.setCell ⟨PB + 1, 0, none⟩ (.int .i64 k)).setCell ⟨PB + 1, 1, none⟩ (.int .i64 v)).setCell ⟨PB + 1, 2, none⟩ (.slice a pz.length cap) = W9 at *
    refine postM_ret1 hh2 (fun W' q => ⟨leaf_results (hbx.qf q (by omega)) rfl, ⟨a, cap, rfl, own_mono (own_qf hor q (fun b hb e => ?_)) (by omega), q_D hqq (by omega) q⟩⟩)
    have := row_cells hor b hb _ (by rw [e]; exact hh2)
    cases this
/-- Prove at whatever index -/
def proveV (cells : List Int) (i : Int) : Int × Int := if 0 ≤ i ∧ i < cells.length then (i, cells.getD i.toNat 0) else (0, 0)
def proveP (F : Nat → Nat → Int) (cells : List Int) (i : Int) : List Int := if 0 ≤ i ∧ i < cells.length then proofZ F (hgt cells.length) i.toNat else []
theorem mProve_any (TB : Nat) (col : Nat → Nat) (cells : List Int) (F : Nat → Nat → Int) (i : Int) (w : World) (hT : TreeAt w TB col cells F) :
    Calls Try.prog 20 #[.pointer (some ⟨TB, 0, none⟩), .int .i64 i] w (LeafRet w (proveV cells i).1 (proveV cells i).2 (proveP F cells i)) := by
  unfold proveV proveP
  by_cases h : 0 ≤ i ∧ i < cells.length
  · rw [if_pos h, if_pos h]
    obtain ⟨k, rfl⟩ := Int.eq_ofNat_of_zero_le h.1
    have hk : k < cells.length := by omega
    have := mProve_ok TB col cells F k (cells.getD k 0) w hT (by rw [List.getD_eq_getElem?_getD, List.getElem?_eq_getElem hk]; rfl)
    exact this
  · rw [if_neg h, if_neg h]
    exact mProve_bad TB col cells F i w hT (by omega)
end Go.Proofs.Ytcgnihgebifcjaa
