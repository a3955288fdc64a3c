/- Contract: Verify. -/
import Derived.Test.YtcgnihgebifcjaaMarks
import Derived.Deep.DeepCutAuto
namespace Go.Proofs.Ytcgnihgebifcjaa
open Go Go.RowKit Go.BigFrame
attribute [local go_sem] Oper.semAt_some

/-- one level up -/
def verF (i : Nat) (proof : List Int) (hash : Int) (m : Nat) : Int := joinZ (up i m) hash (proof.getD m 0)
/-- does the proof show that a tree over n cells with that root holds v at i? -/
def verZ (root : Int) (n : Nat) (i v : Int) (proof : List Int) : Bool :=
  decide (0 ≤ i) && decide (i < n) && decide (proof.length = hgt n) && ((List.range proof.length).foldl (verF i.toNat proof) (leafZ n i.toNat v) == root)
def U64s (l : List Int) : Prop := ∀ z ∈ l, U64 z
set_option maxRecDepth 100000 in
set_option maxHeartbeats 2000000 in
theorem mVerify_any (root : Int) (n : Nat) (i v : Int) (a : Option Addr) (m cap : Nat) (proof : List Int) (w : World) (hn : n ≤ 100000) (hi : -9223372036854775808 ≤ i ∧ i ≤ 9223372036854775807) (hv : -9223372036854775808 ≤ v ∧ v ≤ 9223372036854775807)
    (hs : Sl w 1 a m cap (proof.map (Value.int .u64))) :
    Calls Try.prog 16 #[.int .u64 root, .int .i64 n, .agg #[.int .i64 i, .int .i64 v, .slice a m cap]] w fun e w' => e = .returned (.bool (verZ root n i v proof)) ∧ Q w w' := by
  have hlen : proof.length = m := by have := hs.1; simpa using this
  have HS := Lib.hid hs
  have HV := Lib.hid hv
  have HL := Lib.hid hlen
  have HI := Lib.hid hi
  clear hs hv hlen hi
  refine calls_marks Try.func16 rfl ?_
  simp only [Try.ntmps16, List.size_toArray, List.length_cons, List.length_nil, Nat.reduceAdd, Nat.reduceSub, Array.replicate_succ, Array.replicate_zero, List.push_toArray, List.append_toArray, List.nil_append, List.cons_append]
  have bx := Box.new w [.int .i64 i, .int .i64 v, .slice a m cap] 25
  go_upto_region 1 with (fail)
  refine wp_region_mix [(0, true), (1, true), (2, true), (3, true), (4, true), (5, true), (6, true), (7, true), (8, true), (9, true), (10, true), (11, true), (12, true), (13, true), (14, false), (15, true), (16, true)] (by kernel_rfl) (by kernel_rfl) (fun _ _ _ _ _ h => h) ?_
  have HQ1 := Lib.hid (((Q.refl w).alloc (.cells #[.int .i64 i, .int .i64 v, .slice a m cap] 25)).drew)
  have HB1 := Lib.hid (bx.q (Q.drew (Q.refl _)))
  clear bx
  generalize hW : ((w.alloc (.cells #[.int .i64 i, .int .i64 v, .slice a m cap] 25)).drew) = W at *
  clear hW
  have HLT := Lib.hid (show w.heap.size < W.heap.size from HB1.out.1)
  generalize hLB : w.heap.size = LB at *
  clear hLB
  obtain ⟨x0, x1, x2⟩ := Box.soft3 HB1.out
  by_cases h0 : i < 0
  · have HZ := Lib.hid (show verZ root n i v proof = false by unfold verZ; rw [decide_eq_false (show ¬ 0 ≤ i by omega)]; simp)
    have h0b : decide (i < 0) = true := decide_eq_true h0
    repeat (refine mix_val rfl rfl ?_; go_big_quiet_step (fail); refine wpQuiet_nil ?_)
    refine mix_pass rfl rfl ?_
    go_frame
    repeat (refine mix_val rfl rfl ?_; go_big_quiet_step (fail); refine wpQuiet_nil ?_)
    refine mix_end ?_
    clear x0 x1 x2
    go_wp2
    exact postM_ret0 (fun W' q => ⟨results_tmp rfl _ _ _, by rw [HZ.out]; rfl, HQ1.out.trans q⟩)
  · have h0b : decide (i < 0) = false := decide_eq_false h0
    obtain ⟨k, rfl⟩ := Int.eq_ofNat_of_zero_le (show 0 ≤ i by omega)
    by_cases h1 : n ≤ k
    · have HZ := Lib.hid (show verZ root n k v proof = false by unfold verZ; rw [decide_eq_false (show ¬ (k : Int) < n by omega)]; simp)
      have h1i : (n : Int) ≤ (k : Int) := by omega
      repeat (refine mix_val rfl rfl ?_; go_big_quiet_step (fail); refine wpQuiet_nil ?_)
      refine mix_pass rfl rfl ?_
      go_frame
      repeat (refine mix_val rfl rfl ?_; go_big_quiet_step (fail); refine wpQuiet_nil ?_)
      refine mix_end ?_
      clear x0 x1 x2
      go_wp2
      exact postM_ret0 (fun W' q => ⟨results_tmp rfl _ _ _, by rw [HZ.out]; rfl, HQ1.out.trans q⟩)
    · have h1i : decide ((n : Int) ≤ (k : Int)) = false := decide_eq_false (by omega)
      repeat (refine mix_val rfl rfl ?_; go_big_quiet_step (fail); refine wpQuiet_nil ?_)
      refine mix_run rfl rfl ?_
      intro K hK
      go_wp2_with (fail)
      refine (mHeight_any n W hn).mono ?_
      rintro e w2 ⟨rfl, rfl⟩
      refine hK _ _ (Q.refl _) ?_
      clear hK K
      by_cases h2 : m = hgt n
      · have h2b : ((m : Int) != (hgt n : Nat)) = false := by simp; omega
        repeat (refine mix_val rfl rfl ?_; go_big_quiet_step (fail); refine wpQuiet_nil ?_)
        refine mix_end ?_
        clear x0 x1 x2
        have HH := Lib.hid h2
        obtain ⟨hx, y0, y1, y2⟩ := Box.here3 HB1.out
        clear h2
        go_wp2_with (fail)
        refine (mLeaf_any n k v w2 hn (by omega) HV.out).mono ?_
        rintro e w3 ⟨rfl, hq3⟩
        have HQ3 := Lib.hid (HQ1.out.trans hq3)
        have HB3 := Lib.hid (HB1.out.q hq3)
        have HS3 := Lib.hid (HS.out.q HQ3.out)
        clear hq3 y0 y1 y2 hx
        obtain ⟨hx, y0, y1, y2⟩ := Box.here3 HB3.out
        go_wp2_with (fail)
        refine (mPath_any k m _).mono ?_
        rintro e w4 ⟨rfl, rfl⟩
        go_wp2_with (fail)
        have bH := Boxed.new w3 22 (.int .u64 (leafZ n k v))
        have bI := Boxed.new (w3.alloc (.cells #[.int .u64 (leafZ n k v)] 22)) 3 (.int .i64 k)
        have bM := Boxed.new ((w3.alloc (.cells #[.int .u64 (leafZ n k v)] 22)).alloc (.cells #[.int .i64 k] 3)) 3 (.int .i64 m)
        have bB := Box.new w3 [.int .u64 (leafZ n k v)] 22
        simp only [World.size_alloc] at bI bM
        have HQ4 := Lib.hid (((HQ3.out.alloc (.cells #[.int .u64 (leafZ n k v)] 22)).alloc (.cells #[.int .i64 k] 3)).alloc (.cells #[.int .i64 m] 3))
        have HB4 := Lib.hid (((HB3.out.alloc (.cells #[.int .u64 (leafZ n k v)] 22)).alloc (.cells #[.int .i64 k] 3)).alloc (.cells #[.int .i64 m] 3))
        have HH4 := Lib.hid ((bB.alloc (.cells #[.int .i64 k] 3)).alloc (.cells #[.int .i64 m] 3))
        have HI4 := Lib.hid (bI.alloc (.cells #[.int .i64 m] 3))
        have HM4 := Lib.hid bM
        have HX := Lib.hid hx
        clear bH bI bM bB y0 y1 y2 hx
        have HL0 := Lib.hid (leafZ_u64 n k v)
        have HVZ := Lib.hid (show verZ root n k v proof = ((List.range m).foldl (verF k proof) (leafZ n k v) == root) by
          unfold verZ
          rw [decide_eq_true (show (0 : Int) ≤ k by omega), decide_eq_true (show (k : Int) < n by omega), HL.out, decide_eq_true HH.out, Int.toNat_natCast]
          rfl)
        generalize leafZ n k v = s0 at *
        generalize hsz : w3.heap.size = HB at *
        have HSZ := Lib.hid hsz
        clear hsz
        generalize hW4 : ((w3.alloc (.cells #[.int .u64 s0] 22)).alloc (.cells #[.int .i64 k] 3)).alloc (.cells #[.int .i64 m] 3) = W4 at *
        have HW4 := Lib.hid (show W4.heap.size = HB + 1 + 1 + 1 by rw [← hW4, ← HSZ.out]; simp)
        clear hW4
        refine wp_path (σ := Int) (HB + 1 + 1) (HB + 1) k m (by have := hgt_17 n hn; have := HH.out; omega) (by omega) rfl rfl HM4.out HI4.out (verF k proof) s0
          (fun _ s W => Box W HB [.int .u64 s] ∧ Box W LB [.int .i64 k, .int .i64 v, .slice a m cap] ∧ Q w W ∧ W4.heap.size ≤ W.heap.size) ⟨HH4.out, HB4.out, HQ4.out, Nat.le_refl _⟩ ?stay ?a1 ?assign ?body ?done
        case stay =>
          rintro _ s W W' ⟨h1, h2, h3, h4⟩ q
          have := HX.out
          refine ⟨h1.qf q (fun e => ?_), h2.qf q (fun e => ?_), QF.q h3 q (fun b hb => ?_), Nat.le_trans h4 q.size⟩
          · have := e.1; rw [HW4.out] at this; omega
          · have := e.1; rw [HW4.out] at this; have := HSZ.out; omega
          · have := hb.1; exact Nat.le_trans HQ4.out.size this
        case assign =>
          intro l n' x W K hK
          unfold lvl
          gi_wp2
          exact hK
        case body =>
          rintro l n' x _ s W R hx _ ⟨b1, b2, hq, hsz4⟩ hL hR hK
          have HKK := Lib.hid hK
          have HB1' := Lib.hid b1
          have HB2' := Lib.hid b2
          have HQW := Lib.hid hq
          clear hK b1 b2 hq
          refine wpIn_block ?_
          refine wpIn_region_mixS (F := fun _ => False) 8 [(0, true), (1, true), (2, true), (3, true), (4, true), (5, true), (6, true), (7, false), (8, false)] (by kernel_rfl) (by kernel_rfl) hR (fun ⟨a', w', h⟩ => hL ⟨a', w', h⟩) ?_
          have HS4 := Lib.hid (show W4.heap.size ≤ W.drew.heap.size from hsz4)
          clear hsz4
          have HQD := Lib.hid (HQW.out.drew)
          have HD1 := Lib.hid (HB1'.out.q (Q.drew (Q.refl W)))
          have HD2 := Lib.hid (HB2'.out.q (Q.drew (Q.refl W)))
          have HSD := Lib.hid (HS.out.q (HQW.out.drew))
          have HKD := Lib.hid (show ∀ a' W', KeepsFrom W4.heap.size W.drew W' → W'.heap[HB + 1]? = W.drew.heap[HB + 1]? → Box W' HB [.int .u64 (verF k proof s x)] → Box W' LB [.int .i64 k, .int .i64 v, .slice a m cap] → Q w W' → W4.heap.size ≤ W'.heap.size → R .normal a' W' from fun a' W' h1 h2 h3 h4 h5 h6 => HKK.out a' W' ⟨h1.size, h1.same⟩ h2 ⟨h3, h4, h5, h6⟩)
          clear HKK HB1' HB2' HQW
          generalize W.drew = W1 at *
          obtain ⟨g, o, rfl, hg, hcs⟩ := HSD.out.pos (by omega)
          have hpx : (proof.map (Value.int .u64))[x]? = some (.int .u64 (proof.getD x 0)) := by
            rw [List.getElem?_map, List.getElem?_eq_getElem (show x < proof.length by rw [HL.out]; exact hx), List.getD_eq_getElem?_getD, List.getElem?_eq_getElem (show x < proof.length by rw [HL.out]; exact hx)]
            rfl
          have y3 : ∀ y : AfterF (fun _ => False) W1, y.w.cell? ⟨g, o + x, none⟩ = some (.int .u64 (proof.getD x 0)) := fun y => (World.cell?_of_block (a := ⟨g, o + x, none⟩) (y.q.block g hg (fun e => e))).trans (hcs x _ hpx)
          have y0 : ∀ y : AfterF (fun _ => False) W1, y.w.cell? ⟨HB, 0, none⟩ = some (.int .u64 s) := Box.sF HD1.out (fun e => e) 0 _ rfl
          have y2 : ∀ y : AfterF (fun _ => False) W1, y.w.cell? ⟨LB, 2, none⟩ = some (.slice (some ⟨g, o, none⟩) m cap) := Box.sF HD2.out (fun e => e) 2 _ rfl
          have HF := Lib.hid (show verF k proof s x = joinZ (up k x) s (proof.getD x 0) from rfl)
          have hup : up k x ≤ 1000000 := Nat.le_trans (Nat.div_le_self _ _) (by omega)
          generalize proof.getD x 0 = px at *
          generalize up k x = ux at *
          clear hpx hcs
          repeat (refine mixS_val rfl rfl ?_; go_big_quiet_step (fail); refine wpQuiet_nil ?_)
          clear y0 y2 y3
          refine mixS_run rfl rfl ?_
          intro K hK
          go_wp2_with (fail)
          refine (mJoin_any ux s px W1 hup).mono ?_
          rintro e W2 ⟨rfl, hq2⟩
          refine hK _ _ (QF.of hq2) ?_
          clear hK K
          have HQ2 := Lib.hid (HQD.out.trans hq2)
          have HE1 := Lib.hid (HD1.out.q hq2)
          have HE2 := Lib.hid (HD2.out.q hq2)
          have HQ12 := Lib.hid hq2
          clear hq2
          rw [← HF.out]
          generalize verF k proof s x = s' at *
          obtain ⟨cb, fb⟩ := HE1.out.2 0 _ rfl
          have hbl := HE1.out.1
          refine mixS_last rfl rfl ?_
          intro K hK
          go_wp2_with (fail)
          refine mixS_end ?_
          have hst : QF (· = HB) W2 (W2.setCell ⟨HB, 0, none⟩ (.int .u64 s')) := QF.set (F := (· = HB)) W2 HB 0 _ rfl
          have hsz := HSZ.out
          have hw4 := HW4.out
          have hlt := HLT.out
          have hqs := HQ3.out.size
          have hxx := HX.out
          refine HKD.out _ _ (QF.keeps (F := (· = HB)) ((QF.of HQ12.out).trans hst (fun b hb => .inl hb)) (fun b hb h5 => by omega)) ?_ ?_ (HE2.out.qf hst (fun e => by omega)) ?_ (by rw [World.size_setCell]; exact Nat.le_trans HS4.out HQ12.out.size)
          · have h6 : HB + 1 < W1.heap.size := by have := HS4.out; omega
            exact (hst.block (HB + 1) (Nat.lt_of_lt_of_le h6 HQ12.out.size) (by omega)).trans (Below.block HQ12.out _ h6)
          · exact Box.setC HE1.out 0 _ (show 0 < 1 by decide)
          · exact HQ2.out.setCell (p := ⟨HB, 0, none⟩) (show w.heap.size ≤ HB by omega) _
        case done =>
          rintro D W hD ⟨b1, b2, hq, _⟩ hh
          have HQW := Lib.hid hq
          have HHD := Lib.hid hh
          have HDD := Lib.hid hD
          obtain ⟨c0, f0⟩ := b1.2 0 _ rfl
          have hbl := b1.1
          clear b1 b2 hq hh hD
          go_wp2
          refine postM_ret1 HHD.out (fun W' q => ⟨results_tmp rfl _ _ _, ?_, q_D HQW.out (by have h5 := HDD.out; have h6 := HW4.out; have h7 := HSZ.out; have h8 := HQ3.out.size; omega) q⟩)
          rw [HVZ.out]
          rfl
      · have HZ := Lib.hid (show verZ root n k v proof = false by unfold verZ; rw [HL.out, decide_eq_false h2]; simp)
        have h2b : ((m : Int) != (hgt n : Nat)) = true := by simp; omega
        repeat (refine mix_val rfl rfl ?_; go_big_quiet_step (fail); refine wpQuiet_nil ?_)
        refine mix_end ?_
        clear x0 x1 x2
        go_wp2
        exact postM_ret0 (fun W' q => ⟨results_tmp rfl _ _ _, by rw [HZ.out]; rfl, HQ1.out.trans q⟩)
end Go.Proofs.Ytcgnihgebifcjaa
