/- The walk of CommitrevealBinds. -/
import Derived.Test.YtcpicifnadoeoaaCrWalkA
namespace Go.Proofs.Ytcpicifnadoeoaa
open Go Go.RowKit Go.BigFrame

theorem revealE_code (t k p x n : Int) (o : Bool) (sts : List St) (h0 : 0 ≤ x) (h1 : x < 36) :
    revealE t k o sts p (x % 3 - 1) (x / 3 % 3 - 1) (x / 9) n = if p < 0 ∨ k ≤ p then 17 else if !o then 5 else if !(getS sts p).com then 21 else if (getS sts p).rev then 4 else if comZ p t x n = (getS sts p).c then 0 else 21 := by
  unfold revealE
  rw [errV_code x h0 h1, codeOf_code, if_pos rfl]
theorem revealT_code (t k p x n : Int) (o : Bool) (sts : List St) (h : revealE t k o sts p (x % 3 - 1) (x / 3 % 3 - 1) (x / 9) n = 0) :
    revealT t k o sts p (x % 3 - 1) (x / 3 % 3 - 1) (x / 9) n = sts.set p.toNat ⟨true, true, (getS sts p).c, x⟩ := by
  unfold revealT
  rw [if_pos h, codeOf_code]
theorem revealT_no (t k p a b f n : Int) (o : Bool) (sts : List St) (h : revealE t k o sts p a b f n ≠ 0) : revealT t k o sts p a b f n = sts := by
  unfold revealT
  rw [if_neg h]
attribute [local go_sem ↓] eqIn_in
attribute [local go_sem] same3_refl
/-- the states after player 1's commitment -/
def one1 (c : Int) : List St := [st0, ⟨true, false, c, 4⟩, st0, st0, st0, st0, st0, st0]
def one2 (c x : Int) : List St := [st0, ⟨true, true, c, x⟩, st0, st0, st0, st0, st0, st0]
theorem binds_walk (n nonce m other tick : Int) (w : World) (w0 : (Lit.int .i64 n).wf = true) (w1 : (Lit.int .u64 nonce).wf = true) (w2 : (Lit.int .i64 m).wf = true) (w3 : (Lit.int .u64 other).wf = true) (w4 : (Lit.int .i64 tick).wf = true) :
    Calls Try.prog 5 #[.int .i64 n, .int .u64 nonce, .int .i64 m, .int .u64 other, .int .i64 tick] w fun e w' => e = .returned (.bool true) ∧ Q w w' := by
  have G0 := Lib.hid (wf_i64 w0)
  have G1 := Lib.hid (u64_wf w1)
  have G2 := Lib.hid (wf_i64 w2)
  have G3 := Lib.hid (u64_wf w3)
  have G4 := Lib.hid (wf_i64 w4)
  clear w0 w1 w2 w3 w4
  go_enter Try.func5, Try.ntmps5
  go_wp2_with (fail)
  refine (of_any _ _ G0.out).mono ?_
  rintro e w1 ⟨rfl, hq1⟩
  have p0 := aroundZ_lo n 36 (by omega)
  have p1 := aroundZ_hi n 36 (by omega)
  generalize aroundZ n 36 = x at *
  have HX := Lib.hid (show 0 ≤ x ∧ x < 36 from ⟨p0, p1⟩)
  have HQ1 := Lib.hid (hq1.alloc (.cells #[.int .i64 (x % 3 - 1), .int .i64 (x / 3 % 3 - 1), .int .i64 (x / 9)] 25))
  have HI1 := Lib.hid (Box.new w1 [.int .i64 (x % 3 - 1), .int .i64 (x / 3 % 3 - 1), .int .i64 (x / 9)] 25)
  clear p0 p1 hq1
  go_wp2_with (fail)
  refine (of_any _ _ G2.out).mono ?_
  rintro e w2 ⟨rfl, hq2⟩
  have p0 := aroundZ_lo m 36 (by omega)
  have p1 := aroundZ_hi m 36 (by omega)
  generalize aroundZ m 36 = y at *
  have HY := Lib.hid (show 0 ≤ y ∧ y < 36 from ⟨p0, p1⟩)
  have HQ2 := Lib.hid ((HQ1.out.trans hq2).alloc (.cells #[.int .i64 (y % 3 - 1), .int .i64 (y / 3 % 3 - 1), .int .i64 (y / 9)] 25))
  have HI1b := Lib.hid (Box.q (Box.q HI1.out hq2) ((Q.refl w2).alloc (.cells #[.int .i64 (y % 3 - 1), .int .i64 (y / 3 % 3 - 1), .int .i64 (y / 9)] 25)))
  have HI2 := Lib.hid (Box.new w2 [.int .i64 (y % 3 - 1), .int .i64 (y / 3 % 3 - 1), .int .i64 (y / 9)] 25)
  generalize w1.heap.size = I1 at *
  clear p0 p1 hq2 HI1 HQ1
  go_wp2_with (fail)
  refine (around_any _ 6001 _ G4.out (by omega)).mono ?_
  rintro e w3 ⟨rfl, rfl⟩
  have p0 := aroundZ_lo tick 6001 (by omega)
  have p1 := aroundZ_hi tick 6001 (by omega)
  generalize aroundZ tick 6001 = t at *
  have HT := Lib.hid (show -9223372036854775808 ≤ t ∧ t ≤ 9223372036854775807 by omega)
  clear p0 p1
  have HI2' : Hid (Box (w2.alloc (.cells #[.int .i64 (y % 3 - 1), .int .i64 (y / 3 % 3 - 1), .int .i64 (y / 9)] 25)) w2.heap.size [.int .i64 (y % 3 - 1), .int .i64 (y / 3 % 3 - 1), .int .i64 (y / 9)]) := HI2
  generalize w2.alloc (.cells #[.int .i64 (y % 3 - 1), .int .i64 (y / 3 % 3 - 1), .int .i64 (y / 9)] 25) = w3 at *
  generalize w2.heap.size = I2 at *
  clear HI2
  obtain ⟨l1, b0, b1, b2⟩ := Box.here3 HI1b.out
  go_wp2_with (fail)
  refine (crCommitment_any 1 t x nonce _ (by omega) HT.out HX.out G1.out).mono ?_
  rintro e w4 ⟨rfl, hq4⟩
  have HQ4 := Lib.hid (HQ2.out.trans hq4)
  have HI1 := Lib.hid (Box.q HI1b.out hq4)
  have HI2 := Lib.hid (Box.q HI2'.out hq4)
  have HCU := Lib.hid (comZ_u64 1 t x nonce)
  have HCX := hid_eq (show comZ 1 t x nonce = comZ 1 t x nonce from rfl)
  generalize hcc : comZ 1 t x nonce = c at *
  have HCC := Lib.hid hcc
  clear hcc HCX hq4 HQ2 HI1b HI2' b0 b1 b2 l1
  go_wp2_with (fail)
  refine (crNew_any 3 t _).mono ?_
  rintro e w5 ⟨rfl, hR, hq5⟩
  have HR5 := Lib.hid hR
  have HQ5 := Lib.hid (HQ4.out.trans hq5)
  have HJ1 := Lib.hid (Box.q HI1.out hq5)
  have HJ2 := Lib.hid (Box.q HI2.out hq5)
  have HN1 := Lib.hid (show I1 ≠ w4.heap.size by have := HI1.out.1; omega)
  have HN2 := Lib.hid (show I2 ≠ w4.heap.size by have := HI2.out.1; omega)
  have HB := Lib.hid HQ4.out.size
  generalize w4.heap.size = B at *
  clear hR hq5 HI1 HI2 HQ4
  go_wp2_with (fail)
  refine (crCommit_any B t 3 1 c false _ _ HR5.out (by rfl) (by omega) (sane0 8)).mono ?_
  rintro e w6 ⟨rfl, hR6, hX6⟩
  rw [show commitT 3 false (List.replicate 8 st0) 1 c = one1 c from rfl] at hR6
  rw [show commitE 3 false (List.replicate 8 st0) 1 = 0 from rfl]
  have HSA := Lib.hid (show Sane (one1 c) by rw [← show commitT 3 false (List.replicate 8 st0) 1 c = one1 c from rfl]; exact sane_commit (sane0 8) HCU.out)
  have HR6 := Lib.hid hR6
  have HQ6 := Lib.hid (HQ5.out.qx hX6 HB.out)
  have HI1 := Lib.hid (Box.qx HJ1.out hX6 HN1.out)
  have HI2 := Lib.hid (Box.qx HJ2.out hX6 HN2.out)
  clear hR6 hX6 HR5 HQ5 HJ1 HJ2
  go_wp2_with (fail)
  refine (crClose_any B t 3 false _ _ HR6.out).mono ?_
  rintro e w7 ⟨⟨v7, rfl⟩, hR7, hX7⟩
  have HR7 := Lib.hid hR7
  have HQ7 := Lib.hid (HQ6.out.qx hX7 HB.out)
  have HJ1 := Lib.hid (Box.qx HI1.out hX7 HN1.out)
  have HJ2 := Lib.hid (Box.qx HI2.out hX7 HN2.out)
  clear hR7 hX7 HR6 HQ6 HI1 HI2
  obtain ⟨l2, b0, b1, b2⟩ := Box.here3 HJ2.out
  go_wp2_with (fail)
  refine (crCommitment_any 1 t y other _ (by omega) HT.out HY.out G3.out).mono ?_
  rintro e w8 ⟨rfl, hq8⟩
  have HR8 := Lib.hid (Box.q HR7.out hq8)
  have HQ8 := Lib.hid (HQ7.out.trans hq8)
  have HI1 := Lib.hid (Box.q HJ1.out hq8)
  have HI2 := Lib.hid (Box.q HJ2.out hq8)
  clear hq8 HR7 HQ7 HJ1 HJ2 b0 b1 b2 l2
  have hE : revealE t 3 true (one1 c) 1 (y % 3 - 1) (y / 3 % 3 - 1) (y / 9) other = if comZ 1 t y other = c then 0 else 21 := by
    rw [revealE_code _ _ _ _ _ _ _ HY.out.1 HY.out.2]; simp [one1, getS]
  have hT : revealE t 3 true (one1 c) 1 (y % 3 - 1) (y / 3 % 3 - 1) (y / 9) other = 0 → revealT t 3 true (one1 c) 1 (y % 3 - 1) (y / 3 % 3 - 1) (y / 9) other = one2 c y := fun h => by
    rw [revealT_code _ _ _ _ _ _ _ h]; rfl
  have HE := Lib.hid hE
  have HTT := Lib.hid hT
  clear hE hT
  generalize hc2 : comZ 1 t y other = c2 at *
  clear hc2
  obtain ⟨l2, b0, b1, b2⟩ := Box.here3 HI2.out
  go_wp2_with (fail)
  refine (crReveal_any B t 3 1 _ _ _ other true (one1 c) _ HR8.out rfl (by omega) HSA.out G3.out HT.out).mono ?_
  rintro e w9 ⟨rfl, hR9, hX9⟩
  have HR9 := Lib.hid hR9
  have HQ9 := Lib.hid (HQ8.out.qx hX9 HB.out)
  have HJ1 := Lib.hid (Box.qx HI1.out hX9 HN1.out)
  clear hR9 hX9 HR8 HQ8 HI1 HI2 b0 b1 b2 l2
  obtain ⟨l1, b0, b1, b2⟩ := Box.here3 HJ1.out
  by_cases hc : c2 = c
  · have hE : revealE t 3 true (one1 c) 1 (y % 3 - 1) (y / 3 % 3 - 1) (y / 9) other = 0 := by rw [HE.out, if_pos hc]
    have hT := HTT.out hE
    rw [hE]
    rw [hT] at HR9
    have hcb : (c2 == c) = true := by simpa using hc
    clear hE hT hc
    go_wp2_with (fail)
    have hE4 : revealE t 3 true (one2 c y) 1 (x % 3 - 1) (x / 3 % 3 - 1) (x / 9) nonce = 4 := by
      rw [revealE_code _ _ _ _ _ _ _ HX.out.1 HX.out.2]; simp [one2, getS, st0]
    have HS2 : Sane (one2 c y) := by
      rw [show one2 c y = (one1 c).set 1 ⟨true, true, c, y⟩ from rfl]
      exact HSA.out.set _ _ (fun e => by cases e) HY.out HCU.out
    refine (crReveal_any B t 3 1 _ _ _ nonce true (one2 c y) _ HR9.out rfl (by omega) HS2 G1.out HT.out).mono ?_
    rintro e w10 ⟨rfl, hR10, hX10⟩
    have HQ10 := Lib.hid (HQ9.out.qx hX10 HB.out)
    rw [hE4]
    clear hE4 HS2 hR10 hX10 HQ9 HJ1 b0 b1 b2 l1
    go_wp2_with (fail)
    refine (lives31_any _).mono ?_
    rintro e w11 ⟨rfl, hq11⟩
    have HQ11 := Lib.hid (HQ10.out.trans hq11)
    clear hq11
    go_wp2
    go_ret
    exact ⟨rfl, HQ11.out⟩
  · have hE : revealE t 3 true (one1 c) 1 (y % 3 - 1) (y / 3 % 3 - 1) (y / 9) other = 21 := by rw [HE.out, if_neg hc]
    have hT := revealT_no _ _ _ _ _ _ _ _ _ (show revealE t 3 true (one1 c) 1 (y % 3 - 1) (y / 3 % 3 - 1) (y / 9) other ≠ 0 by rw [hE]; decide)
    rw [hE]
    rw [hT] at HR9
    have hcb : (c2 == c) = false := by simpa using hc
    clear hE hT hc
    go_wp2_with (fail)
    have hE2 : revealE t 3 true (one1 c) 2 (x % 3 - 1) (x / 3 % 3 - 1) (x / 9) nonce = 21 := by
      rw [revealE_code _ _ _ _ _ _ _ HX.out.1 HX.out.2]; simp [one1, getS, st0]
    have hT2 := revealT_no _ _ _ _ _ _ _ _ _ (show revealE t 3 true (one1 c) 2 (x % 3 - 1) (x / 3 % 3 - 1) (x / 9) nonce ≠ 0 by rw [hE2]; decide)
    refine (crReveal_any B t 3 2 _ _ _ nonce true (one1 c) _ HR9.out rfl (by omega) HSA.out G1.out HT.out).mono ?_
    rintro e w10 ⟨rfl, hR10, hX10⟩
    rw [hE2]
    rw [hT2] at hR10
    have HR10 := Lib.hid hR10
    have HQ10 := Lib.hid (HQ9.out.qx hX10 HB.out)
    have HI1 := Lib.hid (Box.qx HJ1.out hX10 HN1.out)
    clear hE2 hT2 hR10 hX10 HQ9 HJ1 HR9 b0 b1 b2 l1
    obtain ⟨l1, b0, b1, b2⟩ := Box.here3 HI1.out
    go_wp2_with (fail)
    have hE3 : revealE t 3 true (one1 c) 1 (x % 3 - 1) (x / 3 % 3 - 1) (x / 9) nonce = 0 := by
      rw [revealE_code _ _ _ _ _ _ _ HX.out.1 HX.out.2, HCC.out]; simp [one1, getS]
    have hT3 : revealT t 3 true (one1 c) 1 (x % 3 - 1) (x / 3 % 3 - 1) (x / 9) nonce = one2 c x := by
      rw [revealT_code _ _ _ _ _ _ _ hE3]; rfl
    have HS2 := Lib.hid (show Sane (one2 c x) by
      rw [show one2 c x = (one1 c).set 1 ⟨true, true, c, x⟩ from rfl]
      exact HSA.out.set _ _ (fun e => by cases e) HX.out HCU.out)
    refine (crReveal_any B t 3 1 _ _ _ nonce true (one1 c) _ HR10.out rfl (by omega) HSA.out G1.out HT.out).mono ?_
    rintro e w11 ⟨rfl, hR11, hX11⟩
    rw [hE3]
    rw [hT3] at hR11
    have HR11 := Lib.hid hR11
    have HQ11 := Lib.hid (HQ10.out.qx hX11 HB.out)
    have HJ1 := Lib.hid (Box.qx HI1.out hX11 HN1.out)
    clear hE3 hT3 hR11 hX11 HQ10 HI1 HR10 b0 b1 b2 l1
    obtain ⟨l1, b0, b1, b2⟩ := Box.here3 HJ1.out
    go_wp2_with (fail)
    have hE4 : revealE t 3 true (one2 c x) 1 (x % 3 - 1) (x / 3 % 3 - 1) (x / 9) nonce = 4 := by
      rw [revealE_code _ _ _ _ _ _ _ HX.out.1 HX.out.2]; simp [one2, getS, st0]
    have hT4 := revealT_no _ _ _ _ _ _ _ _ _ (show revealE t 3 true (one2 c x) 1 (x % 3 - 1) (x / 3 % 3 - 1) (x / 9) nonce ≠ 0 by rw [hE4]; decide)
    refine (crReveal_any B t 3 1 _ _ _ nonce true (one2 c x) _ HR11.out rfl (by omega) HS2.out G1.out HT.out).mono ?_
    rintro e w12 ⟨rfl, hR12, hX12⟩
    rw [hE4]
    rw [hT4] at hR12
    have HR12 := Lib.hid hR12
    have HQ12 := Lib.hid (HQ11.out.qx hX12 HB.out)
    have HI1 := Lib.hid (Box.qx HJ1.out hX12 HN1.out)
    clear hE4 hT4 hR12 hX12 HQ11 HJ1 HR11 b0 b1 b2 l1
    go_wp2_with (fail)
    refine (crResult_any B t 3 true (one2 c x) none 0 0 [] _ HR12.out rfl (by omega) ⟨rfl, Nat.le_refl _, by decide, fun _ => rfl, .inl rfl⟩ (by simp)).mono ?_
    rintro e w13 ⟨a1, c1, a2, c2', rfl, o1, o2, hq13⟩
    have r1 : resL (List.take 3 (one2 c x)) [] = [4, x, 4] := rfl
    have f1 : faultL (List.take 3 (one2 c x)) = [0, 2] := rfl
    rw [r1] at o1 ⊢
    rw [f1] at o2 ⊢
    have T1 := Lib.hid (Sl.of_own o1)
    have T2 := Lib.hid (Sl.of_own o2)
    have HQ13 := Lib.hid (HQ12.out.trans hq13)
    have HJ1 := Lib.hid (Box.q HI1.out hq13)
    clear o1 o2 hq13 r1 f1 HR12 HQ12 HI1
    go_wp2_with (fail)
    have HQ14 := Lib.hid HQ13.out.drew
    refine wp_region_mix [(0, true), (1, true), (2, true), (3, true), (4, true), (5, true), (6, true), (7, true), (8, true), (9, true), (10, true), (11, true), (12, false), (13, false), (14, true), (15, true), (16, false), (17, true), (18, true)] (by kernel_rfl) (by kernel_rfl) (fun _ _ _ _ _ h => h) ?_
    have T1d := Lib.hid (T1.out.q (Q.refl w13).drew)
    have T2d := Lib.hid (T2.out.q (Q.refl w13).drew)
    have HJd := Lib.hid (Box.q HJ1.out (Q.refl w13).drew)
    generalize w13.drew = W at *
    obtain ⟨b0, b1, b2⟩ := Box.soft3 HJd.out
    obtain ⟨g, go, rfl, hg, hcs⟩ := T1d.out.pos (by simp)
    have s0 : ∀ z : After W, z.w.cell? ⟨g, go + 3, none⟩ = some (.int .i64 (x % 3 - 1)) := fun z => (z.q.cells.1 _ _ hg).trans (hcs 3 _ rfl)
    have s1 : ∀ z : After W, z.w.cell? ⟨g, go + 3 + 1, none⟩ = some (.int .i64 (x / 3 % 3 - 1)) := fun z => (z.q.cells.1 _ _ hg).trans (hcs 4 _ rfl)
    have s2 : ∀ z : After W, z.w.cell? ⟨g, go + 3 + 2, none⟩ = some (.int .i64 (x / 9)) := fun z => (z.q.cells.1 _ _ hg).trans (hcs 5 _ rfl)
    clear hcs T1 T2 HJ1 T1d
    repeat (refine mix_val rfl rfl ?_; go_big_quiet_step (fail); refine wpQuiet_nil ?_)
    clear s0 s1 s2 b0 b1 b2 hg HJd
    refine mix_run rfl rfl ?_
    intro K hK
    go_wp2_with (fail)
    refine hK _ _ ((Q.refl _).alloc _) ?_
    clear hK K
    refine mix_run rfl rfl ?_
    intro K hK
    go_wp2_with (fail)
    refine (sameInts_any _ _ _ 2 _ _ [0, 2] [0, 2] _ (T2d.out.q ((Q.refl W).alloc _)) (sl_two W 0 2 _)).mono ?_
    rintro e w15 ⟨rfl, hq15⟩
    refine hK _ _ hq15 ?_
    clear hK K
    have HQ15 := Lib.hid (HQ14.out.trans (((Q.refl W).alloc _).trans hq15))
    rw [show sameL [0, 2] [0, 2] = true from rfl]
    clear hq15
    repeat (refine mix_val rfl rfl ?_; go_big_quiet_step (fail); refine wpQuiet_nil ?_)
    refine mix_run rfl rfl ?_
    intro K hK
    go_wp2_with (fail)
    refine (lives31_any _).mono ?_
    rintro e w16 ⟨rfl, hq16⟩
    refine hK _ _ hq16 ?_
    clear hK K
    have HQ16 := Lib.hid (HQ15.out.trans hq16)
    clear hq16
    repeat (refine mix_val rfl rfl ?_; go_big_quiet_step (fail); refine wpQuiet_nil ?_)
    refine mix_end ?_
    go_wp2
    go_ret
    exact ⟨rfl, HQ16.out⟩
end Go.Proofs.Ytcpicifnadoeoaa
