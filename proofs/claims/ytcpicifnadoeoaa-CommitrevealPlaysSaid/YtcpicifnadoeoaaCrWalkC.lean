/- The walk of CommitrevealAlone. -/
import Derived.Test.YtcpicifnadoeoaaCrO
namespace Go.Proofs.Ytcpicifnadoeoaa
open Go Go.RowKit Go.BigFrame

theorem rowI64' {w : World} {a : Option Addr} {len cap : Nat} {zs : List Int} (h : IsRow .i64 w a len cap zs) : ∀ z ∈ zs.take len, -9223372036854775808 ≤ z ∧ z ≤ 9223372036854775807 := by
  intro z hz
  rcases h with ⟨rfl, rfl, rfl, rfl⟩ | ⟨x, rfl, hl, hm, hzl, hc, hw⟩
  · simp at hz
  · exact wf_i64 (hw z (List.mem_of_mem_take hz))
theorem acC_len (a : Ac) : (acC a).length = 6 := rfl
theorem acsOf_len (zs : List Int) : (acsOf zs).length = zs.length := by simp [acsOf]
theorem acsOf_ok (zs : List Int) : ∀ a ∈ acsOf zs, AcOk a := by
  intro a ha
  obtain ⟨z, _, rfl⟩ := List.mem_map.1 ha
  exact acOf_ok _
/-- the cells of operation i -/
theorem own_ac {w : World} {C g og m cap : Nat} {ops : List Ac} (h : w.ownsRow C 49 6 (.slice (some ⟨g, og, none⟩) m cap) m (ops.flatMap acC)) (hm : 0 < m) (i : Nat) (hi : i < ops.length) (j : Nat) (hj : j < 6) (u : Value) (hu : (acC ops[i])[j]? = some u) : w.cell? ⟨g, og + i * 6 + j, none⟩ = some u := by
  obtain ⟨g', o', he, _, hc⟩ := (Sl.of_own h).pos hm
  cases he
  have := hc (i * 6 + j) u (by rw [flat_get acC 6 acC_len ops i j hi hj]; exact hu)
  rw [← Nat.add_assoc] at this
  exact this
/-- an operation that counts for player q has the same result for both -/
theorem doesE_both {t k : Int} {o : Bool} {s s' : List St} (a : Ac) (q : Int) (h : a.act = 2 ∨ a.p = q) (hg : getS s q = getS s' q) : doesE t k o s a = doesE t k o s' a := by
  rcases h with h | h
  · unfold doesE; rw [if_neg (by omega), if_neg (by omega), if_neg (by omega), if_neg (by omega)]
  · subst h; exact doesE_congr a hg
theorem doesT_both {t k : Int} {o : Bool} {s s' : List St} (a : Ac) (q : Int) (h : a.act = 2 ∨ a.p = q) (hg : getS s q = getS s' q) (hl : s.length = s'.length) (hk : k ≤ s.length) : getS (doesT t k o s a) q = getS (doesT t k o s' a) q := by
  rcases h with h | h
  · unfold doesT; rw [if_neg (by omega), if_neg (by omega), if_neg (by omega), if_neg (by omega)]; exact hg
  · subst h; exact doesT_congr a hg hl hk
theorem doesO_no (o : Bool) (a : Ac) (h : AcOk a) (h2 : a.act ≠ 2) : doesO o a = o := by
  have := h.k0
  have := h.k1
  unfold doesO
  by_cases h0 : a.act = 0
  · rw [if_pos h0]
  · rw [if_neg h0, if_pos (by omega)]
attribute [local go_sem ↓] eqIn_in
attribute [local go_sem] same3_refl
set_option maxRecDepth 100000 in
set_option maxHeartbeats 1000000 in
theorem alone_walk (a0 : Option Addr) (len0 cap0 : Nat) (z0 : List Int) (player : Int) (a2 : Option Addr) (len2 cap2 : Nat) (z2 : List Int) (w : World) (w0 : IsRow .i64 w a0 len0 cap0 z0) (w1 : (Lit.int .i64 player).wf = true) (w2 : IsRow .i64 w a2 len2 cap2 z2) :
    Calls Try.prog 6 #[.slice a0 len0 cap0, .int .i64 player, .slice a2 len2 cap2] w fun e w' => e = .returned (.bool true) ∧ Q w w' := by
  have S0 := Lib.hid (Sl.of_row w0)
  have R0 := Lib.hid (rowI64' w0)
  have S2 := Lib.hid (Sl.of_row w2)
  have R2 := Lib.hid (rowI64' w2)
  have G := Lib.hid (wf_i64 w1)
  clear w0 w1 w2
  generalize z0.take len0 = zl at *
  generalize z2.take len2 = zk at *
  go_enter Try.func6, Try.ntmps6
  go_wp2_with (fail)
  refine (around_any player 4 _ G.out (by omega)).mono ?_
  rintro e w1 ⟨rfl, rfl⟩
  have p0 := aroundZ_lo player 4 (by omega)
  have p1 := aroundZ_hi player 4 (by omega)
  obtain ⟨q, hq⟩ := Int.eq_ofNat_of_zero_le p0
  rw [hq] at p1 ⊢
  have hq4 : q < 4 := by omega
  have HQ4 := Lib.hid hq4
  clear hq p0 p1
  go_wp2_with (fail)
  refine (crNew_any 4 11 _).mono ?_
  rintro e w2 ⟨rfl, hRA, hqA⟩
  have HRA := Lib.hid hRA
  have HQA := Lib.hid hqA
  have hAlt := Lib.hid hRA.1
  have HA := Lib.hid (show w.heap.size ≤ w.heap.size from Nat.le_refl _)
  generalize hA : w.heap.size = A at *
  clear hRA hqA
  go_wp2_with (fail)
  refine (crNew_any 4 11 _).mono ?_
  rintro e w3 ⟨rfl, hRB, hqB⟩
  have HRB := Lib.hid hRB
  have HRA2 := Lib.hid (Box.q HRA.out hqB)
  have HQB := Lib.hid (HQA.out.trans hqB)
  have HAB := Lib.hid (show A < w2.heap.size from hAlt.out)
  have hBlt := Lib.hid hRB.1
  generalize hB : w2.heap.size = B at *
  clear hRB hqB HRA HQA hB
  go_wp2_with (fail)
  refine (acts_any a0 len0 cap0 zl _ (S0.out.q HQB.out) R0.out).mono ?_
  rintro e w4 ⟨a4, cap4, rfl, hown4, hq4'⟩
  have HO4 := Lib.hid hown4
  have HQ5 := Lib.hid (HQB.out.trans hq4')
  have HRA4 := Lib.hid (Box.q HRA2.out hq4')
  have HRB4 := Lib.hid (Box.q HRB.out hq4')
  have HBb := Lib.hid (show B < w3.heap.size from hBlt.out)
  have HLA := Lib.hid (show (acsOf (zl.take 24)).length = min len0 24 by
    have := S0.out.1
    simp at this
    rw [acsOf_len, List.length_take, this, Nat.min_comm])
  have HOK := Lib.hid (acsOf_ok (zl.take 24))
  have hm24 : min len0 24 ≤ 24 := Nat.min_le_right _ _
  generalize acsOf (zl.take 24) = ops at *
  generalize min len0 24 = m at *
  generalize w3.heap.size = C at *
  clear hown4 hq4' HQB HRA2 HRB hBlt
  have HAw := Lib.hid (show w.heap.size ≤ A by omega)
  have HBw := Lib.hid (show w.heap.size ≤ B by have := HAB.out; omega)
  have HNE := Lib.hid (show A ≠ B by have := HAB.out; omega)
  go_wp2_with (fail)
  go_loopw [11] (fun i wr => ∃ (k : Nat) (o : Bool) (sA sB : List St), k ≤ m ∧ i = .int .i64 k ∧ Q w wr ∧ Rd wr A 11 4 o sA ∧ Rd wr B 11 4 o sB ∧ wr.ownsRow C 49 6 (.slice a4 m cap4) m (ops.flatMap acC) ∧ sA.length = 8 ∧ sB.length = 8 ∧ Sane sA ∧ Sane sB ∧ getS sA q = getS sB q) (fun i _ => m - (intOf i).toNat)
  case atStart => exact ⟨0, false, _, _, by omega, rfl, HQ5.out, HRA4.out, HRB4.out, HO4.out, rfl, rfl, sane0 8, sane0 8, rfl⟩
  case round =>
    obtain ⟨k, o, sA, sB, hkm, rfl, hq, hRA, hRB, hown, hlA, hlB, hsA, hsB, hgq⟩ := hrel
    have HQ := Lib.hid hq
    have HRA := Lib.hid hRA
    have HRB := Lib.hid hRB
    have HO := Lib.hid hown
    have HSA := Lib.hid hsA
    have HSB := Lib.hid hsB
    have HGQ := hid_eq hgq
    have HLl := Lib.hid hlA
    have HLr := Lib.hid hlB
    clear hq hRA hRB hown hsA hsB hgq hlA hlB HRA4 HRB4 HO4 HQ5
    by_cases h1 : k < m
    · have hka : k < ops.length := by rw [HLA.out]; exact h1
      obtain ⟨g, og, rfl, hg, hcs⟩ := (Sl.of_own HO.out).pos (by omega)
      have hok := Lib.hid (HOK.out _ (List.getElem_mem hka))
      generalize hak : ops[k] = a at *
      have HAK := Lib.hid hak
      clear hcs hg hak
      have s0 := own_ac HO.out (by omega) k hka 0 (by omega) _ rfl
      have s1 := own_ac HO.out (by omega) k hka 1 (by omega) _ rfl
      have s2 := own_ac HO.out (by omega) k hka 2 (by omega) _ rfl
      have s3 := own_ac HO.out (by omega) k hka 3 (by omega) _ rfl
      have s4 := own_ac HO.out (by omega) k hka 4 (by omega) _ rfl
      have s5 := own_ac HO.out (by omega) k hka 5 (by omega) _ rfl
      rw [Nat.add_zero] at s0
      rw [HAK.out] at s0 s1 s2 s3 s4 s5
      go_wp2_with (fail)
      refine (does31_any A 11 4 o sA a _ HRA.out HLl.out (by omega) HSA.out hok.out (by omega)).mono ?_
      rintro e w5 ⟨rfl, hRA5, hX5⟩
      have HQ5 := Lib.hid (HQ.out.qx hX5 HAw.out)
      have HRA5 := Lib.hid hRA5
      have HRB5 := Lib.hid (Box.qx HRB.out hX5 HNE.out.symm)
      have HO5 := Lib.hid (own_qx HO.out hX5 (by have := HAB.out; have := HBb.out; omega))
      have HSA5 := Lib.hid (does_sane (t := 11) (k := 4) (o := o) a HSA.out)
      have HL5 := Lib.hid (show (doesT 11 4 o sA a).length = 8 by rw [does_len, HLl.out])
      clear hRA5 hX5 HQ HRA HRB s0 s1 s2 s3 s4 s5
      have s0 := own_ac HO5.out (by omega) k hka 0 (by omega) _ rfl
      have s1 := own_ac HO5.out (by omega) k hka 1 (by omega) _ rfl
      have s2 := own_ac HO5.out (by omega) k hka 2 (by omega) _ rfl
      have s3 := own_ac HO5.out (by omega) k hka 3 (by omega) _ rfl
      have s4 := own_ac HO5.out (by omega) k hka 4 (by omega) _ rfl
      have s5 := own_ac HO5.out (by omega) k hka 5 (by omega) _ rfl
      rw [Nat.add_zero] at s0
      rw [HAK.out] at s0 s1 s2 s3 s4 s5
      by_cases hrel : a.act = 2 ∨ a.p = q
      · have hE := doesE_both (t := 11) (k := 4) (o := o) a q hrel HGQ.out
        have HE := Lib.hid hE
        have HG5 := Lib.hid (doesT_both (t := 11) (k := 4) (o := o) a q hrel HGQ.out (by rw [HLl.out, HLr.out]) (by rw [HLl.out]; decide))
        have HL6 := Lib.hid (show (doesT 11 4 o sB a).length = 8 by rw [does_len, HLr.out])
        have HSB6 := Lib.hid (does_sane (t := 11) (k := 4) (o := o) a HSB.out)
        by_cases h2 : a.act = 2
        · have b2 : (a.act == 2) = true := by simpa using h2
          have hD := does31_any B 11 4 o sB a _ HRB5.out HLr.out (by omega) HSB.out hok.out (by omega)
          rw [h2] at hD s0
          have HD := Lib.hid hD
          clear hE hrel hD h2 b2
          go_wp2_with (fail)
          refine HD.out.mono ?_
          rintro e w6 ⟨rfl, hRB6, hX6⟩
          rw [HE.out]
          have HQ6 := Lib.hid (HQ5.out.qx hX6 HBw.out)
          have HRA6 := Lib.hid (Box.qx HRA5.out hX6 HNE.out)
          have HRB6 := Lib.hid hRB6
          have HO6 := Lib.hid (own_qx HO5.out hX6 HBb.out)
          clear hRB6 hX6 s0 s1 s2 s3 s4 s5 HD
          go_wp2_with (fail)
          go_roundw
          case rel => exact ⟨k + 1, _, _, _, by omega, by go_num, HQ6.out, HRA6.out, HRB6.out, HO6.out, HL5.out, HL6.out, HSA5.out, HSB6.out, HG5.out⟩
          case measure => simp [intOf]; omega
        · have hp : a.p = q := by rcases hrel with h | h; exact absurd h h2; exact h
          have b2 : (a.act == 2) = false := by simpa using h2
          have bp : (a.p == (q : Int)) = true := by simpa using hp
          have hD := does31_any B 11 4 o sB a _ HRB5.out HLr.out (by omega) HSB.out hok.out (by omega)
          rw [hp] at hD s1
          have HD := Lib.hid hD
          clear hE hrel hp hD bp h2
          go_wp2_with (fail)
          refine HD.out.mono ?_
          rintro e w6 ⟨rfl, hRB6, hX6⟩
          rw [HE.out]
          have HQ6 := Lib.hid (HQ5.out.qx hX6 HBw.out)
          have HRA6 := Lib.hid (Box.qx HRA5.out hX6 HNE.out)
          have HRB6 := Lib.hid hRB6
          have HO6 := Lib.hid (own_qx HO5.out hX6 HBb.out)
          clear hRB6 hX6 s0 s1 s2 s3 s4 s5 b2 HD
          go_wp2_with (fail)
          go_roundw
          case rel => exact ⟨k + 1, _, _, _, by omega, by go_num, HQ6.out, HRA6.out, HRB6.out, HO6.out, HL5.out, HL6.out, HSA5.out, HSB6.out, HG5.out⟩
          case measure => simp [intOf]; omega
      · have hn2 : a.act ≠ 2 := fun h => hrel (.inl h)
        have hnp : a.p ≠ q := fun h => hrel (.inr h)
        have b2 : (a.act == 2) = false := by simpa using hn2
        have bp : (a.p == (q : Int)) = false := by simpa using hnp
        have HG5 := Lib.hid ((does_other (t := 11) (k := 4) (o := o) (sts := sA) a q (by omega) hnp (by rw [HLl.out]; decide)).trans HGQ.out)
        have HOO := Lib.hid (doesO_no o a hok.out hn2)
        clear hrel hn2 hnp
        go_wp2_with (fail)
        go_roundw
        case rel => exact ⟨k + 1, o, _, _, by omega, by go_num, HQ5.out, by have h := HRA5.out; rw [HOO.out] at h; exact h, HRB5.out, HO5.out, HL5.out, HLr.out, HSA5.out, HSB.out, HG5.out⟩
        case measure => simp [intOf]; omega
    · clear hm24 HOK
      go_wp2_with (fail)
      refine (inputs_any a2 len2 cap2 4 zk _ (S2.out.q HQ.out) R2.out (by omega)).mono ?_
      rintro e w5 ⟨a5, cap5, rfl, hown5, hq5⟩
      have HK := Lib.hid (Sl.of_own hown5)
      have HKC := Lib.hid (codesOf_code (zk.take 4))
      have HQ5 := Lib.hid (HQ.out.trans hq5)
      have HRA5 := Lib.hid (Box.q HRA.out hq5)
      have HRB5 := Lib.hid (Box.q HRB.out hq5)
      generalize codesOf (zk.take 4) = known at *
      generalize min len2 4 = nk at *
      clear hown5 hq5 HQ HRA HRB HO
      go_wp2_with (fail)
      refine (crResult_any A 11 4 o sA _ _ _ known _ HRA5.out HLl.out (by omega) HK.out HKC.out).mono ?_
      rintro e w6 ⟨b1, c1, b2, c2, rfl, o1, o2, hq6⟩
      have hl1 : (resL (sA.take 4) known).length = 4 := by rw [resL_len, List.length_take, HLl.out]; rfl
      rw [hl1] at o1 ⊢
      have X1 := Lib.hid (Sl.of_own o1)
      have F1 := Lib.hid (Sl.of_own o2)
      have HQ6 := Lib.hid (HQ5.out.trans hq6)
      have HRB6 := Lib.hid (Box.q HRB5.out hq6)
      have HK6 := Lib.hid (HK.out.q hq6)
      clear o1 o2 hq6 HQ5 HRA5 HRB5 HK hl1
      go_wp2_with (fail)
      refine (crResult_any B 11 4 o sB _ _ _ known _ HRB6.out HLr.out (by omega) HK6.out HKC.out).mono ?_
      rintro e w7 ⟨b3, c3, b4, c4, rfl, o3, o4, hq7⟩
      have hl2 : (resL (sB.take 4) known).length = 4 := by rw [resL_len, List.length_take, HLr.out]; rfl
      rw [hl2] at o3 ⊢
      have X2 := Lib.hid (X1.out.q hq7)
      have F2 := Lib.hid (F1.out.q hq7)
      have Y2 := Lib.hid (Sl.of_own o3)
      have G2 := Lib.hid (Sl.of_own o4)
      have HQ7 := Lib.hid (HQ6.out.trans hq7)
      clear o3 o4 hq7 HQ6 HRB6 HK6 X1 F1 hl2
      have hx := resL_get (sA.take 4) known q (by rw [List.length_take, HLl.out]; omega)
      have hy := resL_get (sB.take 4) known q (by rw [List.length_take, HLr.out]; omega)
      rw [getS_take _ _ _ HQ4.out] at hx hy
      have hf := faultL_has (sA.take 4) q (by rw [List.length_take, HLl.out]; omega)
      have hg := faultL_has (sB.take 4) q (by rw [List.length_take, HLr.out]; omega)
      rw [getS_take _ _ _ HQ4.out] at hf hg
      rw [← HGQ.out] at hy hg
      generalize resC (getS sA q) known q = x at *
      generalize (!(getS sA q).rev) = fb at *
      have HF := Lib.hid hf
      have HG := Lib.hid hg
      generalize resL (sA.take 4) known = rA at *
      generalize resL (sB.take 4) known = rB at *
      generalize faultL (sA.take 4) = fA at *
      generalize faultL (sB.take 4) = fB at *
      have HX := Lib.hid hx
      have HY := Lib.hid hy
      clear hf hg hx hy HGQ HLl HLr HSA HSB
      go_wp2_with (fail)
      refine wp_region_mix [(0, true), (1, true), (2, true), (3, true), (4, true), (5, true), (6, true), (7, true), (8, true), (9, true), (10, true), (11, true), (13, true), (14, true), (12, false), (15, false), (16, true), (17, true), (18, true), (19, false), (20, true), (21, true)] (by kernel_rfl) (by kernel_rfl) (fun _ _ _ _ _ h => h) ?_
      have HQ8 := Lib.hid HQ7.out.drew
      have X3 := Lib.hid (X2.out.q (Q.refl w7).drew)
      have F3 := Lib.hid (F2.out.q (Q.refl w7).drew)
      have Y3 := Lib.hid (Y2.out.q (Q.refl w7).drew)
      have G3 := Lib.hid (G2.out.q (Q.refl w7).drew)
      generalize w7.drew = W at *
      obtain ⟨gx, ox, rfl, hgx, hcx⟩ := X3.out.pos (by omega)
      obtain ⟨gy, oy, rfl, hgy, hcy⟩ := Y3.out.pos (by omega)
      have hrA := (List.getElem?_eq_some_iff.1 HX.out).1
      have hrB := (List.getElem?_eq_some_iff.1 HY.out).1
      have ex := (List.getElem?_eq_some_iff.1 HX.out).2
      have ey := (List.getElem?_eq_some_iff.1 HY.out).2
      obtain ⟨x0, x1, x2⟩ := inCells_get rA q hrA
      obtain ⟨y0, y1, y2⟩ := inCells_get rB q hrB
      rw [ex] at x0 x1 x2
      rw [ey] at y0 y1 y2
      have s0 : ∀ z : After W, z.w.cell? ⟨gx, ox + q * 3, none⟩ = some (.int .i64 (x % 3 - 1)) := fun z => (z.q.cells.1 _ _ hgx).trans (hcx _ _ x0)
      have s1 : ∀ z : After W, z.w.cell? ⟨gx, ox + q * 3 + 1, none⟩ = some (.int .i64 (x / 3 % 3 - 1)) := fun z => (z.q.cells.1 _ _ hgx).trans (hcx _ _ x1)
      have s2 : ∀ z : After W, z.w.cell? ⟨gx, ox + q * 3 + 2, none⟩ = some (.int .i64 (x / 9)) := fun z => (z.q.cells.1 _ _ hgx).trans (hcx _ _ x2)
      have r0 : ∀ z : After W, z.w.cell? ⟨gy, oy + q * 3, none⟩ = some (.int .i64 (x % 3 - 1)) := fun z => (z.q.cells.1 _ _ hgy).trans (hcy _ _ y0)
      have r1 : ∀ z : After W, z.w.cell? ⟨gy, oy + q * 3 + 1, none⟩ = some (.int .i64 (x / 3 % 3 - 1)) := fun z => (z.q.cells.1 _ _ hgy).trans (hcy _ _ y1)
      have r2 : ∀ z : After W, z.w.cell? ⟨gy, oy + q * 3 + 2, none⟩ = some (.int .i64 (x / 9)) := fun z => (z.q.cells.1 _ _ hgy).trans (hcy _ _ y2)
      clear x0 x1 x2 y0 y1 y2 ex ey hrA hrB hcx hcy X2 F2 Y2 G2 HQ7 hgx hgy
      have hq4 := HQ4.out
      repeat (refine mix_val rfl rfl ?_; go_big_quiet_step (fail); refine wpQuiet_nil ?_)
      clear s0 s1 s2 r0 r1 r2
      refine mix_run rfl rfl ?_
      intro K hK
      go_wp2_with (fail)
      refine (has_any _ _ _ fA q _ F3.out).mono ?_
      rintro e w8 ⟨rfl, hq8⟩
      rw [HF.out]
      refine hK _ _ hq8 ?_
      clear hK K
      have HQ9 := Lib.hid (HQ8.out.trans hq8)
      have G4 := Lib.hid (G3.out.q hq8)
      clear hq8
      refine mix_run rfl rfl ?_
      intro K hK
      go_wp2_with (fail)
      refine (has_any _ _ _ fB q _ G4.out).mono ?_
      rintro e w9 ⟨rfl, hq9⟩
      rw [HG.out]
      refine hK _ _ hq9 ?_
      clear hK K
      have HQ10 := Lib.hid (HQ9.out.trans hq9)
      clear hq9
      repeat (refine mix_val rfl rfl ?_; go_big_quiet_step (fail); refine wpQuiet_nil ?_)
      refine mix_run rfl rfl ?_
      intro K hK
      go_wp2_with (fail)
      refine (lives31_any _).mono ?_
      rintro e w11 ⟨rfl, hq11⟩
      refine hK _ _ hq11 ?_
      clear hK K
      have HQ12 := Lib.hid (HQ10.out.trans hq11)
      clear hq11
      repeat (refine mix_val rfl rfl ?_; go_big_quiet_step (fail); refine wpQuiet_nil ?_)
      refine mix_end ?_
      go_wp2
      go_ret
      exact ⟨rfl, HQ12.out⟩
end Go.Proofs.Ytcpicifnadoeoaa
