/- The walk of JournalCorrupt. -/
import Derived.Test.YtfkbdiheccnohaaJWalkF
namespace Go.Proofs.Ytfkbdiheccnohaa
open Go Go.RowKit Go.BigFrame

theorem leUp8 (a : Int) : leUp a 8 = [a % 256, a / 256 % 256, a / 65536 % 256, a / 16777216 % 256, a / 4294967296 % 256, a / 1099511627776 % 256, a / 281474976710656 % 256, a / 72057594037927936 % 256] := by
  simp [leUp, List.range_succ]
theorem leUp_inj {a b : Int} (ha : U64 a) (hb : U64 b) (h : leUp a 8 = leUp b 8) : a = b := by
  rw [leUp8, leUp8] at h
  unfold U64 MM at ha hb
  simp only [List.cons.injEq, and_true] at h
  omega
theorem set_ne (l : List Int) (i : Nat) (v : Int) (hi : i < l.length) (hv : v ≠ l[i]) : l ≠ l.set i v := fun e => by
  have h : l[i]? = (l.set i v)[i]? := by rw [← e]
  rw [List.getElem?_set_self hi, List.getElem?_eq_getElem hi] at h
  injection h with h
  exact hv h.symm
theorem sumB_set {x : List Int} {i : Nat} {v : Int} (hi : i < x.length) (hx : Bys x) (hl : x.length ≤ 4000) (hv : 0 ≤ v ∧ v ≤ 255) (hne : v ≠ x[i]) : leUp (sumB (x.set i v)) 8 ≠ leUp (sumB x) 8 := fun e => by
  have h := leUp_inj (sumB_u64 _) (sumB_u64 _) e
  have hb : Bys (x.set i v) := fun b hb => by
    rcases List.mem_or_eq_of_mem_set hb with h | h
    · exact hx b h
    · rw [h]; exact hv
  have := bytesZ_near (strZ recS) (i / 8) hx hb (by omega) (by omega) (by simp) (by rw [List.take_set_of_le (by omega)]) (by rw [List.drop_set_of_lt (by omega)]) h.symm
  exact set_ne x i v hi hne this
theorem frame_set (x : List Int) (n : Nat) (v : Int) (h1 : (varZ x.length).length ≤ n) :
    (frameZ x).set n v = if n < (varZ x.length).length + 8 then varZ x.length ++ (leUp (sumB x) 8).set (n - (varZ x.length).length) v ++ x else varZ x.length ++ leUp (sumB x) 8 ++ x.set (n - (varZ x.length).length - 8) v := by
  unfold frameZ
  by_cases h : n < (varZ x.length).length + 8
  · rw [if_pos h, List.set_append, if_pos (by rw [List.length_append, leUp_len]; exact h), List.set_append, if_neg (by omega)]
  · rw [if_neg h, List.set_append, if_neg (by rw [List.length_append, leUp_len]; exact h), List.length_append, leUp_len, Nat.sub_add_eq]
theorem stepZ_set {x : List Int} {n : Nat} {v : Int} (t : List Int) (hx : Bys x) (hl : x.length ≤ 4000) (h1 : (varZ x.length).length ≤ n) (h2 : n < (frameZ x).length) (hv : 0 ≤ v ∧ v ≤ 255) {y : Int} (hy : (frameZ x)[n]? = some y) (hne : v ≠ y) (ht : t ≠ []) : stepZ ((frameZ x).set n v ++ t) = (26, [], 0) := by
  have hfl := frameZ_len x
  rw [frame_set x n v h1]
  by_cases h : n < (varZ x.length).length + 8
  · rw [if_pos h]
    refine stepZ_sum x.length _ x t rfl hl (by rw [List.length_set, leUp_len]) (fun e => ?_) ht
    have hi : n - (varZ x.length).length < (leUp (sumB x) 8).length := by rw [leUp_len]; omega
    refine set_ne _ _ v hi ?_ e
    have hg : (leUp (sumB x) 8)[n - (varZ x.length).length]? = some y := by
      rw [← hy]
      unfold frameZ
      rw [List.getElem?_append_left (by rw [List.length_append, leUp_len]; exact h), List.getElem?_append_right h1]
    rw [List.getElem?_eq_getElem hi] at hg
    injection hg with hg
    rw [hg]
    exact hne
  · rw [if_neg h]
    have hi : n - (varZ x.length).length - 8 < x.length := by omega
    refine stepZ_sum x.length _ _ t (by rw [List.length_set]) hl (leUp_len _ _) (sumB_set hi hx hl hv ?_) ht
    have hg : x[n - (varZ x.length).length - 8]? = some y := by
      rw [← hy]
      unfold frameZ
      rw [List.getElem?_append_right (by rw [List.length_append, leUp_len]; omega), List.length_append, leUp_len, Nat.sub_add_eq]
    rw [List.getElem?_eq_getElem hi] at hg
    injection hg with hg
    rw [hg]
    exact hne
theorem openZ_corrupt (rs : List (List Int)) (fr t : List Int) (h4 : Ok4 rs) (hb : Bys (bytesL rs ++ (fr ++ t))) (h0 : fr ++ t ≠ []) (hs : stepZ (fr ++ t) = (26, [], 0)) (f : Nat) (hf : (bytesL rs ++ (fr ++ t)).length ≤ f) : openZ f (bytesL rs ++ (fr ++ t)) [] = ([], 26) := by
  rw [openZ_fuel f (rs.length + (f + 1)) _ _ hb hf (by omega), openZ_bytes rs (f + 1) (fr ++ t) [] h4, openZ_bad h0 hs (by decide), if_neg (by decide)]
theorem Sl.dropV {w : World} {n cap g o : Nat} {vs : List Value} (h : Sl w 1 (some ⟨g, o, none⟩) n cap vs) (k : Nat) (hk : k ≤ n) : Sl w 1 (some ⟨g, o + k, none⟩) (n - k) (cap - k) (vs.drop k) := by
  obtain ⟨h1, h2, h3, h4, h5⟩ := h
  refine ⟨by rw [List.length_drop]; omega, by omega, by omega, (fun e => by cases e), ?_⟩
  rcases h5 with h5 | ⟨g', o', he, hg, hc⟩
  · exact .inl (by omega)
  · cases he
    refine .inr ⟨g, o + k, rfl, hg, fun j u hu => ?_⟩
    rw [Nat.add_assoc]
    refine hc (k + j) u ?_
    rwa [List.getElem?_drop] at hu
theorem Recs.drop {w : World} {C : Nat → Prop} {vs : List Value} {rs : List (List Int)} (h : Recs w C vs rs) (k : Nat) : Recs w C (vs.drop k) (rs.drop k) := by
  refine ⟨by rw [List.length_drop, List.length_drop, h.1], fun i x hx => ?_⟩
  rw [List.getElem?_drop] at hx
  obtain ⟨a, c, h1, h2⟩ := h.2 (k + i) x hx
  exact ⟨a, c, by rw [List.getElem?_drop]; exact h1, h2⟩
theorem SlR.drop {w : World} {C : Nat → Prop} {g o n cap : Nat} {rs : List (List Int)} (h : SlR w C (some ⟨g, o, none⟩) n cap rs) (k : Nat) (hk : k ≤ n) : SlR w C (some ⟨g, o + k, none⟩) (n - k) (cap - k) (rs.drop k) := by
  obtain ⟨h1, vs, h2, h3, h4⟩ := h
  exact ⟨by rw [List.length_drop]; omega, vs.drop k, h2.dropV k hk, (fun y hy => by cases hy; exact h3 ⟨g, o, none⟩ rfl), h4.drop k⟩
set_option maxRecDepth 100000 in
set_option maxHeartbeats 2000000 in
theorem jcorrupt_walk (a0 : Option Addr) (len0 cap0 : Nat) (z0 : List Int) (which at_ by_ : Int) (w : World) (w0 : IsRow .i64 w a0 len0 cap0 z0) (w1 : (Lit.int .i64 which).wf = true) (w2 : (Lit.int .i64 at_).wf = true) (w3 : (Lit.int .u8 by_).wf = true) :
    Calls Try.prog 5 #[.slice a0 len0 cap0, .int .i64 which, .int .i64 at_, .int .u8 by_] w fun e w' => e = .returned (.bool true) ∧ Q w w' := by
  obtain ⟨i0, hi, hz0, hz1, hz2⟩ := info_parts infoU8
  have HI := Lib.hid hi
  have s0 := Lib.hid (Sl.of_row w0)
  have r0 := Lib.hid (rowI64j w0)
  have r1 := Lib.hid (wf_i64 w1)
  have r2 := Lib.hid (wf_i64 w2)
  have r3 := Lib.hid (show 0 ≤ by_ ∧ by_ ≤ 255 from wf_u8 w3)
  clear w0 w1 w2 w3 hi
  go_enter Try.func5, Try.ntmps5
  go_wp2_with (fail)
  refine (rRecords34_any a0 len0 cap0 _ w s0.out r0.out).mono ?_
  rintro e w1 ⟨b1, cp1, vs1, rfl, hO1, hq1⟩
  have HOK := Lib.hid (recsOf_ok (z0.take len0))
  have HO4 := Lib.hid (recsOf_ok4 (z0.take len0))
  have hrl := recsOf_len (z0.take len0)
  have hbl := recsOf_bytes (z0.take len0)
  generalize recsOf (z0.take len0) = rs at *
  have HR1 := Lib.hid hO1.slr
  have HQ1 := Lib.hid hq1
  clear hO1 hq1
  by_cases h2 : rs.length < 2
  · have h2i : (rs.length : Int) < 2 := by omega
    go_wp2_with (fail)
    refine (lives34_any w1).mono ?_
    rintro e w2 ⟨rfl, hq2⟩
    have HQ2 := Lib.hid (HQ1.out.trans hq2)
    clear hq2
    go_wp2
    go_ret
    exact ⟨rfl, HQ2.out⟩
  · have h2i : ¬ (rs.length : Int) < 2 := by omega
    go_wp2_with (fail)
    refine (around_any _ _ _ r1.out (by omega)).mono ?_
    rintro e w2 ⟨rfl, rfl⟩
    have p0 := aroundZ_lo which ((rs.length : Int) - 1) (by omega)
    have p1 := aroundZ_hi which ((rs.length : Int) - 1) (by omega)
    generalize aroundZ which ((rs.length : Int) - 1) = m at *
    obtain ⟨k, rfl⟩ := Int.eq_ofNat_of_zero_le p0
    have hk : k + 1 < rs.length := by omega
    clear p0 p1 h2 h2i
    obtain ⟨g, o, d, dc, he, hcell, hsd, _⟩ := HR1.out.at k (by omega)
    subst he
    have hgl := World.block_lt_of_cell? _ _ hcell
    obtain ⟨hc1, hc2⟩ : rs.length ≤ cp1 ∧ cp1 ≤ maxLen := by
      obtain ⟨_, vsr, hslr, _, _⟩ := HR1.out
      exact ⟨hslr.2.1, hslr.2.2.1⟩
    unfold maxLen at hc2
    have HX := Lib.hid (HOK.out _ (List.getElem_mem (show k < rs.length by omega)))
    have HX4 := Lib.hid (HO4.out _ (List.getElem_mem (show k < rs.length by omega)))
    have hble := bytesL_le rs k
    have hblx := bytesL_le rs (k + 1)
    rw [bytesL_take rs k (by omega), List.length_append] at hblx
    have HSD := Lib.hid hsd
    clear hsd
    generalize rs[k] = x at *
    go_wp2_with (fail)
    refine (rBytes34_any _ _ k cp1 (rs.take k) w1 (HR1.out.take k (by omega)) (fun x hx => HOK.out x (List.mem_of_mem_take hx)) (by omega) (by omega)).mono ?_
    rintro e w2 ⟨b2, cp2, rfl, hown2, hq2⟩
    have HQ2 := Lib.hid (HQ1.out.trans hq2)
    have HQB2 := Lib.hid hq2
    have HR2 := Lib.hid (HR1.out.q hq2)
    have HO2 := Lib.hid hown2
    have HSD2 := Lib.hid (HSD.out.q hq2)
    have hcell2 := (hq2.cells.1 _ _ hgl).trans hcell
    have hgl2 := Nat.lt_of_lt_of_le hgl hq2.size
    obtain ⟨hl, hhl⟩ : ∃ hl, (bytesL (rs.take k)).length = hl := ⟨_, rfl⟩
    rw [hhl] at HO2 hble hblx ⊢
    have HHL := Lib.hid hhl
    clear hown2 hq2 hcell hgl hhl
    go_wp2_with (fail)
    refine (rFrame_any d x.length dc x w2 HSD2.out HX.out.2 (by have := HX.out.1; omega)).mono ?_
    rintro e w3 ⟨b3, cp3, rfl, hown3, hq3⟩
    have HQ3 := Lib.hid (HQ2.out.trans hq3)
    have HQB3 := Lib.hid (HQB2.out.trans hq3)
    have HR3 := Lib.hid (HR2.out.q hq3)
    have HO3 := Lib.hid (own_q HO2.out hq3)
    have HF3 := Lib.hid hown3
    have hcell3 := (hq3.cells.1 _ _ hgl2).trans hcell2
    have hgl3 := Nat.lt_of_lt_of_le hgl2 hq3.size
    have hb23 := hq3.size
    have HB1 := Lib.hid HQB2.out.size
    obtain ⟨fl, hfl⟩ : ∃ fl, (frameZ x).length = fl := ⟨_, rfl⟩
    obtain ⟨vl, hvl⟩ : ∃ vl, (varZ x.length).length = vl := ⟨_, rfl⟩
    obtain ⟨xl, hxl⟩ : ∃ xl, x.length = xl := ⟨_, rfl⟩
    have hfx := frameZ_len x
    rw [hfl, hvl, hxl] at hfx
    rw [hfl] at HF3 hblx ⊢
    rw [hxl] at hcell3
    have HFL := Lib.hid hfl
    have HVL := Lib.hid hvl
    have HXL := Lib.hid hxl
    obtain ⟨g3, he3, hg3b, hg3l⟩ := own_addr1 HF3.out (by omega)
    subst he3
    have hc3 := (Sl.of_own HF3.out).2.1
    have hm3 := (Sl.of_own HF3.out).2.2.1
    unfold maxLen at hm3
    clear hown3 hq3 hcell2 hgl2 hfl hvl hxl
    have hfirst : (fl : Int) - (xl : Int) - 8 = (vl : Int) := by omega
    have hvf : vl < fl := by omega
    have hff : fl ≤ 1500 := by omega
    have HFX := Lib.hid hfx
    clear hfx
    go_wp2_with (fail)
    refine (around_any _ _ _ r2.out (by omega)).mono ?_
    rintro e w4 ⟨rfl, rfl⟩
    have p0 := aroundZ_lo at_ ((fl : Int) - (vl : Int)) (by omega)
    have p1 := aroundZ_hi at_ ((fl : Int) - (vl : Int)) (by omega)
    generalize aroundZ at_ ((fl : Int) - (vl : Int)) = m at *
    obtain ⟨a, rfl⟩ := Int.eq_ofNat_of_zero_le p0
    obtain ⟨n, hn⟩ : ∃ n : Nat, (vl : Int) + (a : Int) = (n : Int) := ⟨vl + a, by omega⟩
    have hn1 : vl ≤ n := by omega
    have hn2 : n < fl := by omega
    clear p0 p1 hfirst
    obtain ⟨y, hy⟩ : ∃ y, (frameZ x)[n]? = some y := ⟨(frameZ x)[n]'(by rw [HFL.out]; exact hn2), by rw [List.getElem?_eq_getElem]⟩
    have hyb := frameZ_bys HX.out.2 (by have := HX.out.1; omega) y (List.mem_of_getElem? hy)
    have HY := Lib.hid hy
    obtain ⟨cy, fy⟩ := own_cell HF3.out n (.int .u8 y) (by rw [List.getElem?_map, hy]; rfl)
    have hy0 := hyb.1
    have hy1 := hyb.2
    have hby0 := r3.out.1
    have hby1 := r3.out.2
    have hbm0 : 0 ≤ by_ % 255 := by omega
    have hbm1 : by_ % 255 < 255 := by omega
    clear hyb hy
    go_upto_region 10 with (fail)
    have hv : 0 ≤ (y + 1 + by_ % 255) % 256 ∧ (y + 1 + by_ % 255) % 256 ≤ 255 := by omega
    have hvy : (y + 1 + by_ % 255) % 256 ≠ y := by omega
    generalize (y + 1 + by_ % 255) % 256 = v at *
    have HV := Lib.hid hv
    have HVY := Lib.hid hvy
    clear hv hvy hy0 hy1 hby0 hby1 hbm0 hbm1 cy fy hcell3 hgl3
    have hqs : QF (· = g3) w3 (w3.setCell ⟨g3, n, none⟩ (.int .u8 v)) := QF.set (F := (· = g3)) w3 g3 n _ rfl
    have hw12 := HB1.out
    have HQ4 := Lib.hid ((HQ3.out.setCell (p := ⟨g3, n, none⟩) (Nat.le_trans HQ2.out.size hg3b) (.int .u8 v)).drew)
    have HQB4 := Lib.hid ((HQB3.out.setCell (p := ⟨g3, n, none⟩) (Nat.le_trans hw12 hg3b) (.int .u8 v)).drew)
    have HR4 := Lib.hid ((HR3.out.qf hqs (fun b hb e => by omega)).q (Q.drew (Q.refl _)))
    have HF4 := Lib.hid (show (w3.setCell ⟨g3, n, none⟩ (.int .u8 v)).drew.ownsRow w2.heap.size 5 1 (.slice (some ⟨g3, 0, none⟩) fl cp3) fl (bV ((frameZ x).set n v)) by unfold bV; rw [List.map_set]; exact own_q (own_set HF3.out n _) (Q.drew (Q.refl _)))
    have HO4' := Lib.hid (own_q (own_qf HO3.out hqs (fun b hb e => by
      have h5 : b < w2.heap.size := (HO2.out.lt b hb).2
      omega)) (Q.drew (Q.refl _)))
    clear hqs HO3 HF3 HR3 HQ3 HQB3 HO2 HR2 HSD2
    refine wp_region_mixF (F := fun b => w1.heap.size ≤ b) [(0, true), (1, true), (3, true), (4, true), (5, true), (6, true), (2, false), (7, false), (8, false), (9, true)] (by kernel_rfl) (by kernel_rfl) (fun _ _ _ _ _ h => h) ?_
    generalize (w3.setCell ⟨g3, n, none⟩ (.int .u8 v)).drew = W at *
    have hkne : ¬ cp1 = k + 1 := by omega
    repeat (refine mixF_val rfl rfl ?_; go_big_quiet_step (fail); refine wpQuiet_nil ?_)
    refine mixF_run rfl rfl ?_
    intro K hK
    refine wp_append_sl _ _ 27 rfl w1.heap.size 5 i0 _ 1 1 Try.underlying27 HI.out hz0 hz1 hz2 rfl (by decide) _ hl _ rfl HO4'.out (some ⟨g3, 0, none⟩) fl cp3 (bV ((frameZ x).set n v)) rfl (Sl.of_own HF4.out) (bV_one _) (by omega) (by decide) HQB4.out.size ?_
    intro b5 cp5 w5 hown5 hgrow5 _
    have HG5 := Lib.hid (show QF (fun b => w1.heap.size ≤ b) W w5 from QF.grown hgrow5 (fun i hi => (HO4'.out.lt i hi).1))
    refine hK _ _ HG5.out ?_
    clear hK K
    have HO5 := Lib.hid hown5
    have HR5 := Lib.hid (HR4.out.qf HG5.out (fun b hb e => by omega))
    have HQ5 := Lib.hid (QF.q HQ4.out HG5.out (fun b hb => Nat.le_trans HQ1.out.size hb))
    have HQB5 := Lib.hid (QF.q HQB4.out HG5.out (fun b hb => hb))
    clear hown5 hgrow5
    refine mixF_run rfl rfl ?_
    intro K hK
    go_wp2_with (fail)
    obtain ⟨tl, htl⟩ : ∃ tl, (bytesL (rs.drop (k + 1))).length = tl := ⟨_, rfl⟩
    have htl2 : tl ≤ 1500 := by
      have h5 : bytesL rs = bytesL (rs.take (k + 1)) ++ bytesL (rs.drop (k + 1)) := by rw [← bytesL_append, List.take_append_drop]
      have h6 := congrArg List.length h5
      rw [List.length_append, htl] at h6
      omega
    refine (rBytes34_any _ _ _ _ (rs.drop (k + 1)) w5 (HR5.out.drop (k + 1) (by omega)) (fun x hx => HOK.out x (List.mem_of_mem_drop hx)) (by omega) (by omega)).mono ?_
    rintro e w6 ⟨b6, cp6, rfl, hown6, hq6⟩
    refine hK _ _ (QF.of hq6) ?_
    clear hK K
    rw [htl] at hown6 ⊢
    have HTL := Lib.hid htl
    have HQ6 := Lib.hid (HQ5.out.trans hq6)
    have HQB6 := Lib.hid (HQB5.out.trans hq6)
    have HO6 := Lib.hid (own_q HO5.out hq6)
    have HS6 := Lib.hid (Sl.of_own hown6)
    clear hown6 hq6 htl
    refine mixF_run rfl rfl ?_
    intro K hK
    refine wp_append_sl _ _ 27 rfl w1.heap.size 5 i0 _ 1 1 Try.underlying27 HI.out hz0 hz1 hz2 rfl (by decide) _ (hl + fl) _ rfl HO6.out b6 tl cp6 (bV (bytesL (rs.drop (k + 1)))) rfl HS6.out (bV_one _) (by omega) (by decide) HQB6.out.size ?_
    intro b7 cp7 w7 hown7 hgrow7 _
    have HG7 := Lib.hid (show QF (fun b => w1.heap.size ≤ b) w6 w7 from QF.grown hgrow7 (fun i hi => (HO6.out.lt i hi).1))
    refine hK _ _ HG7.out ?_
    clear hK K
    go_frame
    have HQ7 := Lib.hid (QF.q HQ6.out HG7.out (fun b hb => Nat.le_trans HQ1.out.size hb))
    have HS7 := Lib.hid (show Sl w7 1 b7 (hl + fl + tl) cp7 (bV (bytesL (rs.take k) ++ ((frameZ x).set n v ++ bytesL (rs.drop (k + 1))))) from by
      have h := Sl.of_own hown7
      unfold bV at h ⊢
      rw [List.map_append, List.map_append, ← List.append_assoc]
      exact h)
    have HP7 := Lib.hid (own_pos hown7)
    clear hown7 hgrow7
    repeat (refine mixF_val rfl rfl ?_; go_big_quiet_step (fail); refine wpQuiet_nil ?_)
    refine mixF_end ?_
    have hby : Bys (bytesL (rs.take k) ++ ((frameZ x).set n v ++ bytesL (rs.drop (k + 1)))) := bys_app (bytesL_bys (fun x hx => HOK.out x (List.mem_of_mem_take hx))) (bys_app (fun b hb => (List.mem_or_eq_of_mem_set hb).elim (frameZ_bys HX.out.2 (by have := HX.out.1; omega) b) (fun h => by rw [h]; exact HV.out)) (bytesL_bys (fun x hx => HOK.out x (List.mem_of_mem_drop hx))))
    have htn : bytesL (rs.drop (k + 1)) ≠ [] := by
      rw [List.drop_eq_getElem_cons hk, bytesL_cons]
      exact frame_ne _ _
    have hop := openZ_corrupt (rs.take k) ((frameZ x).set n v) (bytesL (rs.drop (k + 1))) (fun x hx => HO4.out x (List.mem_of_mem_take hx)) hby (fun e => htn (List.append_eq_nil_iff.1 e).2)
      (stepZ_set _ HX.out.2 HX4.out (by rw [HVL.out]; exact hn1) (by rw [HFL.out]; exact hn2) HV.out HY.out HVY.out htn) (hl + fl + tl) (by
        rw [List.length_append, List.length_append, List.length_set, HHL.out, HFL.out, HTL.out]; omega)
    have HBY := Lib.hid hby
    have HOP := Lib.hid hop
    clear hby htn hop
    generalize bytesL (rs.take k) ++ ((frameZ x).set n v ++ bytesL (rs.drop (k + 1))) = D at *
    go_wp2_with (fail)
    refine (jOpen_any b7 (hl + fl + tl) cp7 D w7 HS7.out HBY.out (by omega) (fun y hy => (HP7.out y hy).2.1)).mono ?_
    rw [HOP.out]
    rintro e w8 ⟨hq8, ⟨h0, _⟩ | ⟨_, rfl⟩⟩
    · exact absurd h0 (by decide)
    have HQ8 := Lib.hid (HQ7.out.trans hq8)
    clear hq8
    go_wp2_with (fail)
    refine (lives34_any w8).mono ?_
    rintro e w9 ⟨rfl, hq9⟩
    have HQ9 := Lib.hid (HQ8.out.trans hq9)
    clear hq9
    go_wp2
    go_ret
    exact ⟨rfl, HQ9.out⟩
end Go.Proofs.Ytfkbdiheccnohaa
