/- Contract: the reference's Bent. -/
import Derived.Test.YtcgnihgebifcjaaMkQ
namespace Go.Proofs.Ytcgnihgebifcjaa
open Go Go.RowKit Go.BigFrame

theorem bleaf_results {RB : Nat} {W : World} {x y z : Value} {tmps : Array Value} (hb : Box W RB [x, y, z]) (ht : tmps[6]? = some (.pointer (some ⟨RB, 0, none⟩))) : (results Try.f14 tmps).run Try.prog W = .ok (.agg #[x, y, z]) W := by
  have c0 := (hb.2 0 _ rfl).1
  have c1 := (hb.2 1 _ rfl).1
  have c2 := (hb.2 2 _ rfl).1
  simp [results, Try.results14, go_sem, ht, c0, c1, c2]
def bentD (by_ : Int) : Int := 1 + aroundZ by_ 1000000
def bentK (how : Int) (m : Nat) : Nat := (aroundZ how (2 + m)).toNat
def wrapU (z : Int) : Int := IntKind.u64.wrap z
def bentI (k : Nat) (d i : Int) : Int := if k = 0 then wrap64 (i + d) else i
def bentV (k : Nat) (d v : Int) : Int := if k = 1 then wrap64 (v + d) else v
def bentP (k : Nat) (d : Int) (p : List Int) : List Int := if 2 ≤ k then p.set (k - 2) (wrapU (p.getD (k - 2) 0 + d)) else p
theorem bentP_len (k : Nat) (d : Int) (p : List Int) : (bentP k d p).length = p.length := by unfold bentP; split <;> simp
set_option maxRecDepth 100000 in
set_option maxHeartbeats 2000000 in
theorem rBent_any (i v : Int) (a : Option Addr) (m cap : Nat) (proof : List Int) (how by_ : Int) (w : World) (hs : Sl w 1 a m cap (proof.map (Value.int .u64))) (hm : m ≤ 1000)
    (hi : -9223372036854775808 ≤ i ∧ i ≤ 9223372036854775807) (hv : -9223372036854775808 ≤ v ∧ v ≤ 9223372036854775807) (hh : -9223372036854775808 ≤ how ∧ how ≤ 9223372036854775807) (hb : -9223372036854775808 ≤ by_ ∧ by_ ≤ 9223372036854775807) :
    Calls Try.prog 14 #[.agg #[.int .i64 i, .int .i64 v, .slice a m cap], .int .i64 how, .int .i64 by_] w (LeafRet w (bentI (bentK how m) (bentD by_) i) (bentV (bentK how m) (bentD by_) v) (bentP (bentK how m) (bentD by_) proof)) := by
  obtain ⟨i0, hinf, hz0, hz1, hz2⟩ := info_parts infoU64m
  have hlen : proof.length = m := by have := hs.1; simpa using this
  have HLEN := Lib.hid hlen
  have HI := Lib.hid hinf
  have HS := Lib.hid hs
  have HH := Lib.hid hh
  have HBY := Lib.hid hb
  have HBP := Lib.hid (bentP_len (bentK how m) (bentD by_) proof)
  have hd0 : 1 ≤ bentD by_ ∧ bentD by_ ≤ 1000000 := by
    have h1 := aroundZ_lo by_ 1000000 (by omega)
    have h2 := aroundZ_hi by_ 1000000 (by omega)
    unfold bentD; omega
  have hk0 : ((bentK how m : Nat) : Int) = aroundZ how (2 + m) ∧ bentK how m < 2 + m := by
    have h1 := aroundZ_lo how (2 + m) (by omega)
    have h2 := aroundZ_hi how (2 + m) (by omega)
    unfold bentK; omega
  have HDD := Lib.hid (show 1 + aroundZ by_ 1000000 = bentD by_ from rfl)
  have HKK := Lib.hid hk0.1
  have hkm := hk0.2
  have HQ1 := Lib.hid (((Q.refl w).alloc (.cells #[.int .i64 i, .int .i64 v, .slice a m cap] 25)).alloc (.cells #[.int .i64 0, .int .i64 0, .slice none 0 0] 25))
  have HR1 := Lib.hid ((Box.new w [.int .i64 i, .int .i64 v, .slice a m cap] 25).alloc (.cells #[.int .i64 0, .int .i64 0, .slice none 0 0] 25))
  have HL1 := Lib.hid (Box.new (w.alloc (.cells #[.int .i64 i, .int .i64 v, .slice a m cap] 25)) [.int .i64 0, .int .i64 0, .slice none 0 0] 25)
  rw [World.size_alloc] at HL1
  have HSZ := Lib.hid (show ((w.alloc (.cells #[.int .i64 i, .int .i64 v, .slice a m cap] 25)).alloc (.cells #[.int .i64 0, .int .i64 0, .slice none 0 0] 25)).heap.size = w.heap.size + 1 + 1 by simp)
  clear hs hh hb hinf hlen hk0
  go_enter Try.func14, Try.ntmps14
  go_upto_region 1 with (fail)
  generalize (w.alloc (.cells #[.int .i64 i, .int .i64 v, .slice a m cap] 25)).alloc (.cells #[.int .i64 0, .int .i64 0, .slice none 0 0] 25) = W0 at *
  generalize hPB : w.heap.size = PB at *
  have HPB := Lib.hid hPB
  clear hPB
  obtain ⟨r0, s0⟩ := HR1.out.2 0 _ rfl
  obtain ⟨r1, s1⟩ := HR1.out.2 1 _ rfl
  obtain ⟨r2, s2⟩ := HR1.out.2 2 _ rfl
  have hrl := HR1.out.1
  go_wp2_with (at_builtin; refine stopAt ?_)
  refine goOn ?_
  refine wpList_append_sl rfl _ _ 23 rfl W0.heap.size 22 i0 _ 1 8 Try.underlying23 HI.out hz0 hz1 hz2 rfl (by decide) _ 0 [] rfl (World.ownsRow_made W0 #[] 0 (Nat.le_refl _) (by decide) rfl) a m cap _ rfl ((HS.out.q HQ1.out).q ((Q.refl W0).alloc _)) (fun u hu => by obtain ⟨b, _, rfl⟩ := List.mem_map.1 hu; rfl) (by omega) (by decide) (by simp) ?_
  intro a' cap' w' hown hgrow _
  have hO5 : w'.ownsRow W0.heap.size 22 1 (.slice a' m cap') m (proof.map (Value.int .u64)) := by rw [Nat.zero_add] at hown; exact hown
  have HO5 := Lib.hid hO5
  rw [Nat.zero_add]

  have HQ05 := Lib.hid (((Q.refl W0).alloc (.cells #[] 22)).grown hgrow (fun k hk => by cases hk; exact Nat.le_refl _))
  clear hown hO5 hgrow r0 s0 r1 s1 r2 s2 hrl
  have HQ5 := Lib.hid (HQ1.out.trans HQ05.out)
  have HR5 := Lib.hid (HR1.out.q HQ05.out)
  have HL5 := Lib.hid (HL1.out.q HQ05.out)
  obtain ⟨r2, s2⟩ := HR5.out.2 2 _ rfl
  have hrl := HR5.out.1
  go_wp2_with (fail)
  have hst : QF (· = PB) w' (w'.setCell ⟨PB, 2, none⟩ (.slice a' m cap')) := QF.set (F := (· = PB)) w' PB 2 _ rfl
  have HR6 := Lib.hid (show Box (w'.setCell ⟨PB, 2, none⟩ (.slice a' m cap')) PB [.int .i64 i, .int .i64 v, .slice a' m cap'] from Box.setC HR5.out 2 _ (show 2 < 3 by decide))
  have HL6 := Lib.hid (HL5.out.qf hst (fun e => by omega))
  have HO6 := Lib.hid (own_qf HO5.out hst (fun b hb e => by have := (HO5.out.lt b hb).1; have := HSZ.out; omega))
  have HQ6 := Lib.hid (QF.q HQ5.out hst (fun b e => by have := HPB.out; omega))
  clear hst r2 s2 hrl
  generalize w'.setCell ⟨PB, 2, none⟩ (.slice a' m cap') = w6 at *
  obtain ⟨r0, s0⟩ := HR6.out.2 0 _ rfl
  obtain ⟨r1, s1⟩ := HR6.out.2 1 _ rfl
  obtain ⟨r2, s2⟩ := HR6.out.2 2 _ rfl
  have hrl := HR6.out.1
  refine (around_any by_ 1000000 _ HBY.out (by omega)).mono ?_
  rintro e w7 ⟨rfl, rfl⟩
  generalize hE : aroundZ by_ 1000000 = e0 at *
  have hE0 : 0 ≤ e0 ∧ e0 < 1000000 := by rw [← hE]; exact ⟨aroundZ_lo _ _ (by omega), aroundZ_hi _ _ (by omega)⟩
  clear hE
  go_wp2_with (fail)
  refine (around_any how (2 + m) _ HH.out (by omega)).mono ?_
  rintro e w7 ⟨rfl, rfl⟩
  rw [← HKK.out]
  have HSL := Lib.hid (Sl.of_own HO6.out)
  have HPL := Lib.hid (show (bentP (bentK how m) (bentD by_) proof).length = m by rw [HBP.out, HLEN.out])
  have hdd := HDD.out
  clear HKK HBP HDD
  generalize bentK how m = k at *
  generalize bentD by_ = d at *
  by_cases hk0 : k = 0
  · have HEI := Lib.hid (show bentI k d i = wrap64 (i + d) from if_pos hk0)
    have HEV := Lib.hid (show bentV k d v = v from if_neg (by omega))
    have HEP := Lib.hid (show bentP k d proof = proof from if_neg (by omega))
    have b0 : ((k : Int) == 0) = true := by simp; omega
    rw [HEI.out, HEV.out]
    rw [HEP.out] at HPL ⊢
    clear hk0 hkm
    go_upto_region 9 with (fail)
    have hst0 : QF (· = PB) w6 (w6.setCell ⟨PB, 0, none⟩ (.int .i64 (wrap64 (i + d)))) := QF.set (F := (· = PB)) w6 PB 0 _ rfl
    have HR9 := Lib.hid (show Box (w6.setCell ⟨PB, 0, none⟩ (.int .i64 (wrap64 (i + d)))) PB [.int .i64 (wrap64 (i + d)), .int .i64 v, .slice a' m cap'] from Box.setC HR6.out 0 _ (show 0 < 3 by decide))
    have HL9 := Lib.hid (HL6.out.qf hst0 (fun e => by omega))
    have HO9 := Lib.hid (own_qf HO6.out hst0 (fun b hb e => by have := (HO6.out.lt b hb).1; have := HSZ.out; omega))
    have HQ9 := Lib.hid (QF.q HQ6.out hst0 (fun b e => by have := HPB.out; omega))
    clear hst0 r0 s0 r1 s1 r2 s2 hrl
    generalize w6.setCell ⟨PB, 0, none⟩ (.int .i64 (wrap64 (i + d))) = w9 at *
    generalize wrap64 (i + d) = I at *
    generalize v = V at *
    obtain ⟨r0, s0⟩ := HR9.out.2 0 _ rfl
    obtain ⟨r1, s1⟩ := HR9.out.2 1 _ rfl
    obtain ⟨r2, s2⟩ := HR9.out.2 2 _ rfl
    have hrl := HR9.out.1
    obtain ⟨l0, t0⟩ := HL9.out.2 0 _ rfl
    obtain ⟨l1, t1⟩ := HL9.out.2 1 _ rfl
    obtain ⟨l2, t2⟩ := HL9.out.2 2 _ rfl
    have hll := HL9.out.1
    go_wp2
    (try simp only [Exit.inBlock, Exit.then])
    have hst : QF (· = PB + 1) w9 (((w9.setCell ⟨PB + 1, 0, none⟩ (.int .i64 I)).setCell ⟨PB + 1, 1, none⟩ (.int .i64 V)).setCell ⟨PB + 1, 2, none⟩ (.slice a' m cap')) :=
      ((QF.set (F := (· = PB + 1)) w9 (PB + 1) 0 _ rfl).trans (QF.set (F := (· = PB + 1)) _ (PB + 1) 1 _ rfl) (fun _ h => .inl h)).trans (QF.set (F := (· = PB + 1)) _ (PB + 1) 2 _ rfl) (fun _ h => .inl h)
    have hbx : Box (((w9.setCell ⟨PB + 1, 0, none⟩ (.int .i64 I)).setCell ⟨PB + 1, 1, none⟩ (.int .i64 V)).setCell ⟨PB + 1, 2, none⟩ (.slice a' m cap')) (PB + 1) [.int .i64 I, .int .i64 V, .slice a' m cap'] :=
      Box.setC (Box.setC (Box.setC HL9.out 0 _ (show 0 < 3 by decide)) 1 _ (show 1 < 3 by decide)) 2 _ (show 2 < 3 by decide)
    refine bodyPost_ret (bleaf_results hbx rfl) rfl ⟨a', cap', ?_, ?_, ?_⟩
    · rw [HEI.out, HEV.out, HEP.out, HPL.out]
    · rw [HEP.out, HPL.out]
      exact own_mono (own_qf HO9.out hst (fun b hb e => by have := (HO9.out.lt b hb).1; have := HSZ.out; have := HPB.out; omega)) (by have := HSZ.out; have := HPB.out; omega)
    · exact QF.q HQ9.out hst (fun b e => by have := HPB.out; omega)
  · by_cases hk1 : k = 1
    · have HEI := Lib.hid (show bentI k d i = i from if_neg (by omega))
      have HEV := Lib.hid (show bentV k d v = wrap64 (v + d) from if_pos hk1)
      have HEP := Lib.hid (show bentP k d proof = proof from if_neg (by omega))
      have b0 : ((k : Int) == 0) = false := by simp; omega
      have b1 : ((k : Int) == 1) = true := by simp; omega
      rw [HEI.out, HEV.out]
      rw [HEP.out] at HPL ⊢
      clear hk0 hk1 hkm
      go_upto_region 9 with (fail)
      have hst0 : QF (· = PB) w6 (w6.setCell ⟨PB, 1, none⟩ (.int .i64 (wrap64 (v + d)))) := QF.set (F := (· = PB)) w6 PB 1 _ rfl
      have HR9 := Lib.hid (show Box (w6.setCell ⟨PB, 1, none⟩ (.int .i64 (wrap64 (v + d)))) PB [.int .i64 i, .int .i64 (wrap64 (v + d)), .slice a' m cap'] from Box.setC HR6.out 1 _ (show 1 < 3 by decide))
      have HL9 := Lib.hid (HL6.out.qf hst0 (fun e => by omega))
      have HO9 := Lib.hid (own_qf HO6.out hst0 (fun b hb e => by have := (HO6.out.lt b hb).1; have := HSZ.out; omega))
      have HQ9 := Lib.hid (QF.q HQ6.out hst0 (fun b e => by have := HPB.out; omega))
      clear hst0 r0 s0 r1 s1 r2 s2 hrl
      generalize w6.setCell ⟨PB, 1, none⟩ (.int .i64 (wrap64 (v + d))) = w9 at *
      generalize wrap64 (v + d) = V at *
      generalize i = I at *
      obtain ⟨r0, s0⟩ := HR9.out.2 0 _ rfl
      obtain ⟨r1, s1⟩ := HR9.out.2 1 _ rfl
      obtain ⟨r2, s2⟩ := HR9.out.2 2 _ rfl
      have hrl := HR9.out.1
      obtain ⟨l0, t0⟩ := HL9.out.2 0 _ rfl
      obtain ⟨l1, t1⟩ := HL9.out.2 1 _ rfl
      obtain ⟨l2, t2⟩ := HL9.out.2 2 _ rfl
      have hll := HL9.out.1
      go_wp2
      (try simp only [Exit.inBlock, Exit.then])
      have hst : QF (· = PB + 1) w9 (((w9.setCell ⟨PB + 1, 0, none⟩ (.int .i64 I)).setCell ⟨PB + 1, 1, none⟩ (.int .i64 V)).setCell ⟨PB + 1, 2, none⟩ (.slice a' m cap')) :=
        ((QF.set (F := (· = PB + 1)) w9 (PB + 1) 0 _ rfl).trans (QF.set (F := (· = PB + 1)) _ (PB + 1) 1 _ rfl) (fun _ h => .inl h)).trans (QF.set (F := (· = PB + 1)) _ (PB + 1) 2 _ rfl) (fun _ h => .inl h)
      have hbx : Box (((w9.setCell ⟨PB + 1, 0, none⟩ (.int .i64 I)).setCell ⟨PB + 1, 1, none⟩ (.int .i64 V)).setCell ⟨PB + 1, 2, none⟩ (.slice a' m cap')) (PB + 1) [.int .i64 I, .int .i64 V, .slice a' m cap'] :=
        Box.setC (Box.setC (Box.setC HL9.out 0 _ (show 0 < 3 by decide)) 1 _ (show 1 < 3 by decide)) 2 _ (show 2 < 3 by decide)
      refine bodyPost_ret (bleaf_results hbx rfl) rfl ⟨a', cap', ?_, ?_, ?_⟩
      · rw [HEI.out, HEV.out, HEP.out, HPL.out]
      · rw [HEP.out, HPL.out]
        exact own_mono (own_qf HO9.out hst (fun b hb e => by have := (HO9.out.lt b hb).1; have := HSZ.out; have := HPB.out; omega)) (by have := HSZ.out; have := HPB.out; omega)
      · exact QF.q HQ9.out hst (fun b e => by have := HPB.out; omega)
    · have HEI := Lib.hid (show bentI k d i = i from if_neg hk0)
      have HEV := Lib.hid (show bentV k d v = v from if_neg hk1)
      obtain ⟨j, hj⟩ : ∃ j, k = j + 2 := ⟨k - 2, by omega⟩
      have hjm : j < m := by omega
      obtain ⟨y, hy⟩ : ∃ y, proof[j]? = some y := ⟨proof[j]'(by rw [HLEN.out]; exact hjm), by rw [List.getElem?_eq_getElem]⟩
      have HEP := Lib.hid (show bentP k d proof = proof.set j (wrapU (y + d)) from by
        unfold bentP
        rw [if_pos (by omega), show k - 2 = j by omega, List.getD_eq_getElem?_getD, hy]; rfl)
      have b0 : ((k : Int) == 0) = false := by simp; omega
      have b1 : ((k : Int) == 1) = false := by simp; omega
      have b2 : (k : Int) - 2 = (j : Int) := by omega
      obtain ⟨g, hga, hg1, hg2⟩ := own_addr1 HO6.out (by omega)
      subst hga
      have HYV := Lib.hid (show (proof.map (Value.int .u64))[j]? = some (.int .u64 y) by rw [List.getElem?_map, hy]; rfl)
      rw [HEI.out, HEV.out]
      rw [HEP.out] at HPL ⊢
      clear hk0 hk1 hkm hj hy r0 s0 r1 s1 r2 s2 hrl
      go_upto_region 8 with (fail)
      refine wp_region_mixS (F := fun _ => False) 14 [(0, true), (1, true), (2, true), (3, true), (4, true), (5, true), (6, true), (7, true), (8, true), (9, true), (10, true), (11, true), (12, true), (13, true), (14, false)] (by kernel_rfl) (by kernel_rfl) (fun _ _ _ _ _ h => h) ?_
      have HR7 := Lib.hid (HR6.out.q (Q.drew (Q.refl w6)))
      have HL7 := Lib.hid (HL6.out.q (Q.drew (Q.refl w6)))
      have HO7 := Lib.hid (own_q HO6.out (Q.drew (Q.refl w6)))
      have HQ7 := Lib.hid (HQ6.out.drew)
      have HOC7 := Lib.hid (own_cell HO7.out j (.int .u64 y) HYV.out)
      generalize w6.drew = W1 at *
      have y0 : ∀ z : AfterF (fun _ => False) W1, z.w.cell? ⟨PB, 2, none⟩ = some (.slice (some ⟨g, 0, none⟩) m cap') := Box.sF HR7.out (fun e => e) 2 _ rfl
      have y1 : ∀ z : AfterF (fun _ => False) W1, z.w.cell? ⟨g, j, none⟩ = some (.int .u64 y) := fun z => (own_cell (own_qf HO7.out z.q (fun b hb e => e)) j _ HYV.out).1
      repeat (refine mixS_val rfl rfl ?_; go_big_quiet_step (fail); refine wpQuiet_nil ?_)
      clear y0 y1
      refine mixS_last rfl rfl ?_
      intro K hK
      obtain ⟨c0, f0⟩ := HOC7.out
      go_wp2_with (fail)
      refine mixS_end ?_
      have hst0 : QF (· = g) W1 (W1.setCell ⟨g, j, none⟩ (.int .u64 (IntKind.u64.wrap (y + d)))) := QF.set (F := (· = g)) W1 g j _ rfl
      have hgw : W0.heap.size ≤ g := hg1
      have HR9 := Lib.hid (HR7.out.qf hst0 (fun e => by have := HSZ.out; omega))
      have HL9 := Lib.hid (HL7.out.qf hst0 (fun e => by have := HSZ.out; omega))
      have hO9 : (W1.setCell ⟨g, j, none⟩ (.int .u64 (IntKind.u64.wrap (y + d)))).ownsRow W0.heap.size 22 1 (.slice (some ⟨g, 0, none⟩) m cap') m ((proof.set j (wrapU (y + d))).map (Value.int .u64)) := by
        rw [List.map_set]; exact own_set HO7.out j _
      have HO9 := Lib.hid hO9
      have HQ9 := Lib.hid (QF.q HQ7.out hst0 (fun b e => by have := HPB.out; have := HSZ.out; omega))
      clear hst0 hO9 c0 f0 b0 b1 b2
      generalize W1.setCell ⟨g, j, none⟩ (.int .u64 (IntKind.u64.wrap (y + d))) = w9 at *
      generalize v = V at *
      generalize i = I at *
      obtain ⟨r0, s0⟩ := HR9.out.2 0 _ rfl
      obtain ⟨r1, s1⟩ := HR9.out.2 1 _ rfl
      obtain ⟨r2, s2⟩ := HR9.out.2 2 _ rfl
      have hrl := HR9.out.1
      obtain ⟨l0, t0⟩ := HL9.out.2 0 _ rfl
      obtain ⟨l1, t1⟩ := HL9.out.2 1 _ rfl
      obtain ⟨l2, t2⟩ := HL9.out.2 2 _ rfl
      have hll := HL9.out.1
      go_wp2
      (try simp only [Exit.inBlock, Exit.then])
      have hst : QF (· = PB + 1) w9 (((w9.setCell ⟨PB + 1, 0, none⟩ (.int .i64 I)).setCell ⟨PB + 1, 1, none⟩ (.int .i64 V)).setCell ⟨PB + 1, 2, none⟩ (.slice (some ⟨g, 0, none⟩) m cap')) :=
        ((QF.set (F := (· = PB + 1)) w9 (PB + 1) 0 _ rfl).trans (QF.set (F := (· = PB + 1)) _ (PB + 1) 1 _ rfl) (fun _ h => .inl h)).trans (QF.set (F := (· = PB + 1)) _ (PB + 1) 2 _ rfl) (fun _ h => .inl h)
      have hbx : Box (((w9.setCell ⟨PB + 1, 0, none⟩ (.int .i64 I)).setCell ⟨PB + 1, 1, none⟩ (.int .i64 V)).setCell ⟨PB + 1, 2, none⟩ (.slice (some ⟨g, 0, none⟩) m cap')) (PB + 1) [.int .i64 I, .int .i64 V, .slice (some ⟨g, 0, none⟩) m cap'] :=
        Box.setC (Box.setC (Box.setC HL9.out 0 _ (show 0 < 3 by decide)) 1 _ (show 1 < 3 by decide)) 2 _ (show 2 < 3 by decide)
      refine bodyPost_ret (bleaf_results hbx rfl) rfl ⟨some ⟨g, 0, none⟩, cap', ?_, ?_, ?_⟩
      · rw [HEI.out, HEV.out, HEP.out, HPL.out]
      · rw [HEP.out, HPL.out]
        exact own_mono (own_qf HO9.out hst (fun b hb e => by have := (HO9.out.lt b hb).1; have := HSZ.out; have := HPB.out; omega)) (by have := HSZ.out; have := HPB.out; omega)
      · exact QF.q HQ9.out hst (fun b e => by have := HPB.out; omega)
end Go.Proofs.Ytcgnihgebifcjaa
