/- The walk of CommitrevealPlays. -/
import Derived.Test.YtcpicifnadoeoaaCrT
import Derived.Test.YtcpicifnadoeoaaCrWalkA
import Derived.Test.YtcpicifnadoeoaaCrWalkC
import Derived.Test.YtcpicifnadoeoaaTree
import Derived.Deep.DeepCutAuto
namespace Go.Proofs.Ytcpicifnadoeoaa
open Go Go.RowKit Go.BigFrame

theorem commitE_take (k : Nat) (o : Bool) (sts : List St) (p : Int) : commitE k o (sts.take k) p = commitE k o sts p := by
  unfold commitE
  split
  · rfl
  · rename_i h
    obtain ⟨q, rfl⟩ := Int.eq_ofNat_of_zero_le (show 0 ≤ p by omega)
    rw [getS_take _ _ _ (by omega)]
theorem commitT_take (k : Nat) (o : Bool) (sts : List St) (p c : Int) : (commitT k o sts p c).take k = commitT k o (sts.take k) p c := by
  unfold commitT
  rw [commitE_take]
  split
  · rw [List.take_set]
  · rfl
theorem revealE_take (t : Int) (k : Nat) (o : Bool) (sts : List St) (p a b f n : Int) : revealE t k o (sts.take k) p a b f n = revealE t k o sts p a b f n := by
  unfold revealE
  split
  · rfl
  · rename_i h
    obtain ⟨q, rfl⟩ := Int.eq_ofNat_of_zero_le (show 0 ≤ p by omega)
    rw [getS_take _ _ _ (by omega)]
theorem revealT_take (t : Int) (k : Nat) (o : Bool) (sts : List St) (p a b f n : Int) : (revealT t k o sts p a b f n).take k = revealT t k o (sts.take k) p a b f n := by
  unfold revealT
  rw [revealE_take]
  split
  · rename_i h
    obtain ⟨p0, p1, _⟩ := revealE_zero h
    obtain ⟨q, rfl⟩ := Int.eq_ofNat_of_zero_le p0
    rw [List.take_set, getS_take _ _ _ (by omega)]
  · rfl
theorem doesE_take (t : Int) (k : Nat) (o : Bool) (sts : List St) (a : Ac) : doesE t k o (sts.take k) a = doesE t k o sts a := by
  unfold doesE; rw [commitE_take, revealE_take]
theorem doesT_take (t : Int) (k : Nat) (o : Bool) (sts : List St) (a : Ac) : (doesT t k o sts a).take k = doesT t k o (sts.take k) a := by
  unfold doesT
  split
  · exact commitT_take _ _ _ _ _
  · split
    · exact revealT_take _ _ _ _ _ _ _ _ _
    · rfl
theorem infoAct' : (Try.prog.info? 49).map (fun i => (i.zero, i.size, i.bytes)) = some (some (.agg #[.int .i64 0, .int .i64 0, .int .i64 0, .int .i64 0, .int .i64 0, .int .u64 0]), 6, 48) := infoAct
/-- Close, as an operation -/
def acClose : Ac := ⟨2, 0, 4, false, 0⟩
theorem acClose_ok : AcOk acClose := ⟨by decide, by decide, by decide, by decide, by decide, by decide, by decide, by decide⟩

theorem sane_take {sts : List St} (k : Nat) (h : Sane sts) : Sane (sts.take k) :=
  ⟨fun s hs hc => h.fresh s (List.mem_of_mem_take hs) hc, fun s hs => h.code s (List.mem_of_mem_take hs), fun s hs => h.hash s (List.mem_of_mem_take hs)⟩
/-- what the law has made, and what the two rounds never touch -/
def Kept (w wr : World) (BW : Nat) (v5 : Value) (kl : Nat) (kn : List Int) (v7 : Value) (n : Nat) (acl : List Ac) (raw : List Value) : Prop :=
  Q w wr ∧ wr.ownsRow (BW + 1) 25 3 v5 kl (inCells kn) ∧ wr.ownsRow (BW + 1) 49 6 v7 n (acl.flatMap acC) ∧ Box wr w.heap.size raw
theorem Kept.qx {w wr w' : World} {BW kl n C : Nat} {v5 v7 : Value} {kn : List Int} {acl : List Ac} {raw : List Value} (h : Kept w wr BW v5 kl kn v7 n acl raw) (q : QX C wr w') (h1 : w.heap.size < C) (h2 : C ≤ BW) : Kept w w' BW v5 kl kn v7 n acl raw :=
  ⟨h.1.qx q (by omega), own_qx h.2.1 q (by omega), own_qx h.2.2.1 q (by omega), Box.qx h.2.2.2 q (by omega)⟩
theorem Kept.q {w wr w' : World} {BW kl n : Nat} {v5 v7 : Value} {kn : List Int} {acl : List Ac} {raw : List Value} (h : Kept w wr BW v5 kl kn v7 n acl raw) (q : Q wr w') : Kept w w' BW v5 kl kn v7 n acl raw :=
  ⟨h.1.trans q, own_qx h.2.1 (QX.of (B := 0) q) (by omega), own_qx h.2.2.1 (QX.of (B := 0) q) (by omega), Box.q h.2.2.2 q⟩
/-- the reference's round beside the round -/
def Pair (wr : World) (B BW k : Nat) (o : Bool) (sts : List St) (b : Option Addr) (cb : Nat) : Prop :=
  Rd wr B 30 k o sts ∧ Box wr BW [.int .i64 30, .slice b k cb, .bool o] ∧ Sl wr 6 b k cb ((sts.take k).flatMap oneC) ∧ (∀ x, b = some x → x.block ≠ B ∧ x.block ≠ BW) ∧ sts.length = 8 ∧ Sane sts
theorem Pair.q {wr w' : World} {B BW k cb : Nat} {o : Bool} {sts : List St} {b : Option Addr} (h : Pair wr B BW k o sts b cb) (q : Q wr w') : Pair w' B BW k o sts b cb :=
  ⟨Box.q h.1 q, Box.q h.2.1 q, Sl.q h.2.2.1 q, h.2.2.2⟩
set_option maxRecDepth 100000 in
set_option maxHeartbeats 2000000 in
theorem plays_walk (players : Int) (a1 : Option Addr) (len1 cap1 : Nat) (z1 : List Int) (a2 : Option Addr) (len2 cap2 : Nat) (z2 : List Int) (c r0 r1 r2 nonce : Int) (w : World) (w0 : (Lit.int .i64 players).wf = true) (w1 : IsRow .i64 w a1 len1 cap1 z1) (w2 : IsRow .i64 w a2 len2 cap2 z2)
    (w3 : (Lit.int .u64 c).wf = true) (_w40 : (Lit.int .i64 r0).wf = true) (_w41 : (Lit.int .i64 r1).wf = true) (_w42 : (Lit.int .i64 r2).wf = true) (w5 : (Lit.int .u64 nonce).wf = true) :
    Calls Try.prog 8 #[.int .i64 players, .slice a1 len1 cap1, .slice a2 len2 cap2, .int .u64 c, .agg #[.int .i64 r0, .int .i64 r1, .int .i64 r2], .int .u64 nonce] w fun e w' => e = .returned (.bool true) ∧ Q w w' := by
  obtain ⟨i0, hi, hz0, hz1, hz2⟩ := info_parts infoAct'
  have HI := Lib.hid hi
  have S1 := Lib.hid (Sl.of_row w1)
  have R1 := Lib.hid (rowI64' w1)
  have S2 := Lib.hid (Sl.of_row w2)
  have R2 := Lib.hid (rowI64' w2)
  have GP := Lib.hid (wf_i64 w0)
  have GC := Lib.hid (u64_wf w3)
  have GN := Lib.hid (u64_wf w5)
  clear w0 w1 w2 w3 _w40 _w41 _w42 w5 hi
  generalize z1.take len1 = zl at *
  generalize z2.take len2 = zk at *
  have HQ0 := Lib.hid ((Q.refl w).alloc (.cells #[.int .i64 r0, .int .i64 r1, .int .i64 r2] 25))
  have HBI := Lib.hid (Box.new w [.int .i64 r0, .int .i64 r1, .int .i64 r2] 25)
  go_enter Try.func8, Try.ntmps8
  go_wp2_with (fail)
  have HBI' : Hid (Box (w.alloc (.cells #[.int .i64 r0, .int .i64 r1, .int .i64 r2] 25)) w.heap.size [.int .i64 r0, .int .i64 r1, .int .i64 r2]) := HBI
  clear HBI
  generalize w.alloc (.cells #[.int .i64 r0, .int .i64 r1, .int .i64 r2] 25) = w1 at *
  refine (around_any players 5 _ GP.out (by omega)).mono ?_
  rintro e w2 ⟨rfl, rfl⟩
  have p0 := aroundZ_lo players 5 (by omega)
  have p1 := aroundZ_hi players 5 (by omega)
  obtain ⟨k0, hk0⟩ := Int.eq_ofNat_of_zero_le p0
  rw [hk0] at p1 ⊢
  have hkz : (1 : Int) + k0 = ((k0 + 1 : Nat) : Int) := by omega
  have hk5 : k0 + 1 ≤ 5 := by omega
  have hk1 : 1 ≤ k0 + 1 := by omega
  generalize k0 + 1 = k at *
  clear hk0 p0
  go_wp2_with (fail)
  refine (crNew_any k 30 _).mono ?_
  rintro e w2 ⟨rfl, hR, hq2⟩
  have HR2 := Lib.hid hR
  have HQ2 := Lib.hid (HQ0.out.trans hq2)
  have HBI2 := Lib.hid (Box.q HBI'.out hq2)
  have HIB := Lib.hid (show w.heap.size ≠ w1.heap.size by have := HBI'.out.1; omega)
  have HBw := Lib.hid HQ0.out.size
  generalize w1.heap.size = B at *
  have HBl := Lib.hid hR.1
  clear hR hq2 HBI'
  go_wp2_with (fail)
  refine (rNew31_any k 30 _ (by omega)).mono ?_
  rintro e w3 ⟨b3, cb3, rfl, hown3, hq3⟩
  have HU3 := Lib.hid (Sl.of_own hown3)
  have HU3b := Lib.hid (show ∀ x, b3 = some x → x.block < w3.heap.size ∧ B < x.block from fun x hx => by
    obtain ⟨g, hg, h1, h2⟩ := own_addr6 hown3 (by omega)
    rw [hg] at hx
    cases hx
    have := HBl.out
    exact ⟨h2, by simp; omega⟩)
  have HQ3 := Lib.hid (HQ2.out.trans hq3)
  have HR3 := Lib.hid (Box.q HR2.out hq3)
  have HBI3 := Lib.hid (Box.q HBI2.out hq3)
  have HB3 := Lib.hid (show B < w3.heap.size from (Box.q HR2.out hq3).1)
  clear hown3 hq3 HR2 HQ2 HBI2
  go_wp2_with (fail)
  have HBI4 : Hid (Box (w3.alloc (.cells #[.int .i64 30, .slice b3 k cb3, .bool false] 56)) w.heap.size [.int .i64 r0, .int .i64 r1, .int .i64 r2]) := Lib.hid (HBI3.out.alloc _)
  have HBW4 := Lib.hid (Box.new w3 [.int .i64 30, .slice b3 k cb3, .bool false] 56)
  have HR4 := Lib.hid (Box.alloc HR3.out (.cells #[.int .i64 30, .slice b3 k cb3, .bool false] 56))
  have HU4 := Lib.hid (Sl.q HU3.out ((Q.refl w3).alloc (.cells #[.int .i64 30, .slice b3 k cb3, .bool false] 56)))
  have HQ4 := Lib.hid (HQ3.out.alloc (.cells #[.int .i64 30, .slice b3 k cb3, .bool false] 56))
  have HW4 := Lib.hid (show B < w3.heap.size ∧ (∀ x, b3 = some x → x.block ≠ B ∧ x.block ≠ w3.heap.size) from ⟨HB3.out, fun x hx => by have := HU3b.out x hx; omega⟩)
  have HS4 := Lib.hid (show w3.heap.size < (w3.alloc (.cells #[.int .i64 30, .slice b3 k cb3, .bool false] 56)).heap.size by rw [World.size_alloc]; omega)
  clear HBI3 HR3 HU3 HQ3 HB3 HU3b
  generalize w3.alloc (.cells #[.int .i64 30, .slice b3 k cb3, .bool false] 56) = w4 at *
  generalize w3.heap.size = BW at *
  refine (inputs_any a2 len2 cap2 4 zk _ (S2.out.q HQ4.out) R2.out (by omega)).mono ?_
  rintro e w5 ⟨a5, cap5, rfl, hown5, hq5⟩
  have HKC := Lib.hid (codesOf_code (zk.take 4))
  generalize codesOf (zk.take 4) = kn at *
  have HK5 := Lib.hid (own_le hown5 (show BW + 1 ≤ w4.heap.size from HS4.out))
  generalize min len2 4 = kl at *
  have HB5 := Lib.hid (show w4.heap.size ≤ w5.heap.size from hq5.size)
  have HBI5 := Lib.hid (Box.q HBI4.out hq5)
  have HBW5 := Lib.hid (Box.q HBW4.out hq5)
  have HR5 := Lib.hid (Box.q HR4.out hq5)
  have HU5 := Lib.hid (Sl.q HU4.out hq5)
  have HQ5 := Lib.hid (HQ4.out.trans hq5)
  have S15 := Lib.hid (S1.out.q (HQ4.out.trans hq5))
  clear HBI4 HBW4 HR4 HU4 HQ4 hown5 hq5
  go_wp2_with (fail)
  refine (acts_any a1 len1 cap1 zl _ S15.out R1.out).mono ?_
  rintro e w6 ⟨a6, cap6, rfl, hown6, hq6⟩
  have HLZ := Lib.hid (show (acsOf (zl.take 24)).length = min len1 24 by
    have := S1.out.1
    simp at this
    simp [acsOf, this, Nat.min_comm])
  have HAO := Lib.hid (acsOf_ok (zl.take 24))
  have hm24 : min len1 24 ≤ 24 := Nat.min_le_right _ _
  have HO6 := Lib.hid hown6
  have HQ6 := Lib.hid hq6
  have HB6 := Lib.hid hq6.size
  clear hown6 hq6
  generalize acsOf (zl.take 24) = al at *
  generalize min len1 24 = m at *
  go_wp2_with (at_builtin; refine append_one rfl _ _ 45 rfl w5.heap.size 49 i0 _ 6 48 Try.underlying45 HI.out hz0 hz1 hz2 rfl (by decide) _ m _ rfl HO6.out 1 _ rfl [.int .i64 2, .int .i64 0, .int .i64 0, .int .i64 0, .int .i64 0, .int .u64 0] rfl rfl (by simp [Value.oneCell']) (by omega) (by decide) HB6.out ?_; intro g7 cap7 w7 hown7 hq7)
  have HQ57 := Lib.hid (hq7 _ HQ6.out (Nat.le_refl _))
  have HO7 := Lib.hid (own_le hown7 (show BW + 1 ≤ w5.heap.size from by have := HS4.out; have := HB5.out; omega))
  have hfl : al.flatMap acC ++ [.int .i64 2, .int .i64 0, .int .i64 0, .int .i64 0, .int .i64 0, .int .u64 0] = (al ++ [acClose]).flatMap acC := by rw [List.flatMap_append]; rfl
  have HKE := Lib.hid (show Kept w w7 BW (.slice a5 kl cap5) kl kn (.slice (some ⟨g7, 0, none⟩) (m + 1) cap7) (m + 1) (al ++ [acClose]) [.int .i64 r0, .int .i64 r1, .int .i64 r2] from
    ⟨HQ5.out.trans HQ57.out, own_qx HK5.out (QX.of (B := 0) HQ57.out) (by omega), by rw [← hfl]; exact HO7.out, Box.q HBI5.out HQ57.out⟩)
  have HPA := Lib.hid (show Pair w7 B BW k false (List.replicate 8 st0) b3 cb3 from
    ⟨Box.q HR5.out HQ57.out, Box.q HBW5.out HQ57.out, by
      have : (List.replicate 8 st0).take k = List.replicate k st0 := by rw [List.take_replicate]; congr 1; omega
      rw [this]; exact Sl.q HU5.out HQ57.out, HW4.out.2, rfl, sane0 8⟩)
  have HBB := Lib.hid (show w.heap.size < B ∧ B < BW from ⟨by have := HIB.out; have := HBw.out; omega, HW4.out.1⟩)
  have HOK := Lib.hid (show ∀ a ∈ al ++ [acClose], AcOk a from fun a ha => by
    rcases List.mem_append.1 ha with h | h
    · exact HAO.out a h
    · rw [List.mem_singleton.1 h]; exact acClose_ok)
  have HLC := Lib.hid (show ∀ j (h : j < (al ++ [acClose]).length), j + 1 = m + 1 → ((al ++ [acClose])[j]).act = 2 from fun j h e => by
    have hj : j = al.length := by rw [HLZ.out]; omega
    subst hj
    simp [acClose])
  have HLN := Lib.hid (show (al ++ [acClose]).length = m + 1 by rw [List.length_append, HLZ.out]; rfl)
  clear hfl HIB HBw HBl HW4 HS4 HK5 HB5 HBI5 HBW5 HR5 HU5 HQ5 S15 HQ6 HB6 HAO HLZ HO6 hown7 hq7 HQ57 HO7 HQ0 hkz
  generalize al ++ [acClose] = acl at *
  generalize hn : m + 1 = n at *
  have hn1 : 1 ≤ n := by omega
  have hn25 : n ≤ 25 := by omega
  clear hn hm24
  go_wp2_with (fail)
  go_loopw [18] (fun v wr => ∃ i : Nat, i ≤ n ∧ v = .int .i64 i ∧ ∃ o sts b cb, (i = n → o = true) ∧ Pair wr B BW k o sts b cb ∧ Kept w wr BW (.slice a5 kl cap5) kl kn (.slice (some ⟨g7, 0, none⟩) n cap7) n acl [.int .i64 r0, .int .i64 r1, .int .i64 r2]) (fun v _ => n - (intOf v).toNat)
  case atStart => exact ⟨0, by omega, rfl, _, _, _, _, fun h => by omega, HPA.out, HKE.out⟩
  case round =>
    obtain ⟨i, hin, rfl, o, sts, b, cb, hio, hpa, hke⟩ := hrel
    have HPr := Lib.hid hpa
    have HKr := Lib.hid hke
    have HIO := Lib.hid hio
    clear hpa hke hio HPA HKE
    by_cases hi : i < n
    · have hi' : (i : Int) < n := by omega
      have HAI := Lib.hid (HOK.out _ (List.getElem_mem (show i < acl.length by rw [HLN.out]; exact hi)))
      have HAL := Lib.hid (HLC.out i (by rw [HLN.out]; exact hi))
      have hcell : ∀ j, j < 6 → ∀ u, (acC (acl[i]'(by rw [HLN.out]; exact hi)))[j]? = some u → wr.cell? ⟨g7, i * 6 + j, none⟩ = some u := fun j hj u hu =>
        (own_there HKr.out.2.2.1 (i * 6 + j) u (by rw [flat_get acC 6 (fun _ => rfl) acl i j (by rw [HLN.out]; exact hi) hj]; exact hu)).1
      have s0 := hcell 0 (by omega) _ rfl
      rw [Nat.add_zero] at s0
      have s1 := hcell 1 (by omega) _ rfl
      have s2 := hcell 2 (by omega) _ rfl
      have s3 := hcell 3 (by omega) _ rfl
      have s4 := hcell 4 (by omega) _ rfl
      have s5 := hcell 5 (by omega) _ rfl
      clear hcell
      generalize acl[i]'(by rw [HLN.out]; exact hi) = ac at *
      go_upto_if 63 with (fail)
      have HAC : Hid (Box (wr.alloc (.cells #[.int .i64 ac.act, .int .i64 ac.p, .int .i64 (ac.x % 3 - 1), .int .i64 (ac.x / 3 % 3 - 1), .int .i64 ac.f, .int .u64 ac.n] 49)) wr.heap.size (acC ac)) := Lib.hid (Box.new wr (acC ac) 49)
      have HP8 := Lib.hid (HPr.out.q ((Q.refl wr).alloc (.cells #[.int .i64 ac.act, .int .i64 ac.p, .int .i64 (ac.x % 3 - 1), .int .i64 (ac.x / 3 % 3 - 1), .int .i64 ac.f, .int .u64 ac.n] 49)))
      have HK8 := Lib.hid (HKr.out.q ((Q.refl wr).alloc (.cells #[.int .i64 ac.act, .int .i64 ac.p, .int .i64 (ac.x % 3 - 1), .int .i64 (ac.x / 3 % 3 - 1), .int .i64 ac.f, .int .u64 ac.n] 49)))
      have HG8 := Lib.hid (show BW < wr.heap.size from HPr.out.2.1.1)
      clear HPr HKr s0 s1 s2 s3 s4 s5
      generalize wr.alloc (.cells #[.int .i64 ac.act, .int .i64 ac.p, .int .i64 (ac.x % 3 - 1), .int .i64 (ac.x / 3 % 3 - 1), .int .i64 ac.f, .int .u64 ac.n] 49) = w8 at *
      generalize wr.heap.size = G at *
      go_cut [20, 21, 22, 23, 24, 25] (fun s20 s21 s22 s23 s24 s25 wx => ∃ b' cb', s20 = .int .i64 (doesE 30 k o sts ac) ∧ Rd wx B 30 k o sts ∧ Box wx BW [.int .i64 30, .slice b' k cb', .bool (doesO o ac)] ∧ Sl wx 6 b' k cb' (((doesT 30 k o sts ac).take k).flatMap oneC) ∧ (∀ x, b' = some x → x.block ≠ B ∧ x.block ≠ BW) ∧ Kept w wx BW (.slice a5 kl cap5) kl kn (.slice (some ⟨g7, 0, none⟩) n cap7) n acl [.int .i64 r0, .int .i64 r1, .int .i64 r2] ∧ Box wx G (acC ac))
      case first =>
        rcases (show ac.act = 0 ∨ ac.act = 1 ∨ ac.act = 2 by have h0 := HAI.out.k0; have h1 := HAI.out.k1; omega) with h | h | h
        · have HE := Lib.hid (show doesE 30 k o sts ac = commitE k o sts ac.p by unfold doesE; rw [h]; rfl)
          have hT0 : doesT 30 k o sts ac = commitT k o sts ac.p (comZ ac.p 30 ac.c ac.n) := by unfold doesT; rw [if_pos h]
          generalize hcz : comZ ac.p 30 ac.c ac.n = cz at *
          have HZ := Lib.hid hcz
          have HT := Lib.hid hT0
          clear hcz hT0
          have HO := Lib.hid (show doesO o ac = o by unfold doesO; rw [h]; rfl)
          have t0 := (HAC.out.2 0 _ rfl).1
          have t1 := (HAC.out.2 1 _ rfl).1
          have t2 := (HAC.out.2 2 _ rfl).1
          have t3 := (HAC.out.2 3 _ rfl).1
          have t4 := (HAC.out.2 4 _ rfl).1
          have t5 := (HAC.out.2 5 _ rfl).1
          go_wp2_with (fail)
          have HNI : Hid (Box (w8.alloc (.cells #[.int .i64 (ac.x % 3 - 1), .int .i64 (ac.x / 3 % 3 - 1), .int .i64 ac.f] 25)) w8.heap.size [.int .i64 (ac.x % 3 - 1), .int .i64 (ac.x / 3 % 3 - 1), .int .i64 ac.f]) := Lib.hid (Box.new w8 [.int .i64 (ac.x % 3 - 1), .int .i64 (ac.x / 3 % 3 - 1), .int .i64 ac.f] 25)
          have HQA := Lib.hid ((Q.refl w8).alloc (.cells #[.int .i64 (ac.x % 3 - 1), .int .i64 (ac.x / 3 % 3 - 1), .int .i64 ac.f] 25))
          generalize w8.alloc (.cells #[.int .i64 (ac.x % 3 - 1), .int .i64 (ac.x / 3 % 3 - 1), .int .i64 ac.f] 25) = wa at *
          refine (rValidate_any (ac.x % 3 - 1) (ac.x / 3 % 3 - 1) ac.f _).mono ?_
          rintro e w9 ⟨rfl, hq9⟩
          rw [Ac.err ac HAI.out]
          generalize he1 : (if ac.bad = true then (1 : Int) else 0) = e1 at *
          have HE1 := Lib.hid he1
          clear he1
          have HQ9 := Lib.hid (HQA.out.trans hq9)
          have HN9 := Lib.hid (Box.q HNI.out hq9)
          have HS8 := Lib.hid (show G < w8.heap.size from HAC.out.1)
          have HS9 := Lib.hid (Nat.le_refl w8.heap.size)
          clear hq9 HQA HNI t0 t1 t2 t3 t4 t5
          generalize hGI : w8.heap.size = GI at *
          have HGI := Lib.hid hGI
          clear hGI
          go_upto_if 68 with (fail)
          go_cut [21] (fun s21 wx => s21 = .pointer (some ⟨GI, 0, none⟩) ∧ Q w8 wx ∧ Box wx GI [.int .i64 (ac.c % 3 - 1), .int .i64 (ac.c / 3 % 3 - 1), .int .i64 (ac.c / 9)])
          case first =>
            by_cases hb : ac.bad = true
            · have he1 : e1 = 1 := by rw [← HE1.out, hb]; rfl
              subst he1
              clear HE1
              have c0 := (HN9.out.2 0 _ rfl).1
              have c1 := (HN9.out.2 1 _ rfl).1
              have c2 := (HN9.out.2 2 _ rfl).1
              have f0 := (HN9.out.2 0 _ rfl).2
              have f1 := (HN9.out.2 1 _ rfl).2
              have f2 := (HN9.out.2 2 _ rfl).2
              go_wp2_with (fail)
              go_meet
              refine ⟨rfl, ?_, ?_⟩
              · exact ((HQ9.out.setCell (p := ⟨GI, 0, none⟩) (by rw [HGI.out]; exact Nat.le_refl _) (.int .i64 0)).setCell (p := ⟨GI, 1, none⟩) (by rw [HGI.out]; exact Nat.le_refl _) (.int .i64 0)).setCell (p := ⟨GI, 2, none⟩) (by rw [HGI.out]; exact Nat.le_refl _) (.int .i64 0)
              · have hc : ac.c = 4 := by unfold Ac.c; rw [hb]; rfl
                rw [hc]
                exact Box.set (Box.set (Box.set HN9.out 0 (.int .i64 0) (show 0 < 3 by decide)) 1 (.int .i64 0) (show 1 < 3 by decide)) 2 (.int .i64 0) (show 2 < 3 by decide)
            · have he1 : e1 = 0 := by rw [← HE1.out, if_neg hb]
              subst he1
              clear HE1
              have hc : ac.c = ac.x := by unfold Ac.c; rw [if_neg hb]
              have hf : ac.f = ac.x / 9 := by unfold Ac.f; rw [if_neg hb]
              have HB9 := HN9.out
              rw [hf, ← hc] at HB9
              have HB10 := Lib.hid HB9
              clear HB9 hc hf
              go_wp2_with (fail)
              go_meet
              exact ⟨rfl, HQ9.out, HB10.out⟩
          case rest =>
            obtain ⟨rfl, hqc, hbx⟩ := hcut
            have HQC := Lib.hid hqc
            have HIC := Lib.hid hbx
            clear hqc hbx HQ9 HN9
            go_wp2_with (fail)
            go_cut [22, 23] (fun s22 s23 wx => ∃ b9 cb9 GN, s22 = .pointer (some ⟨GN, 0, none⟩) ∧ s23 = .int .i64 (commitE k o sts ac.p) ∧ Q w8 wx ∧ Box wx GN [.int .i64 30, .slice b9 k cb9, .bool o] ∧ GI ≤ GN ∧ Sl wx 6 b9 k cb9 ((commitT k o (sts.take k) ac.p cz).flatMap oneC) ∧ (∀ x, b9 = some x → x.block ≠ B ∧ x.block ≠ BW))
            case first =>
              refine wp_region_tree (fun w'' => ∃ x : After wc.drew, w'' = x.w) (.val 0 (.val 1 (.val 2 (.val 3 (.val 4 (.val 5 (.val 6 (.val 7 (.two 8 (.two 9 (.val 10 (.val 11 (.val 12 (.one 13 (.one 14 (.val 15 (.fin))))))) 13 (.one 9 (.val 10 (.val 11 (.val 12 (.one 14 (.val 15 (.fin)))))))) 13 (.one 8 (.one 9 (.val 10 (.val 11 (.val 12 (.one 14 (.val 15 (.fin)))))))))))))))) ) (by kernel_rfl) (by kernel_rfl) (fun _ _ _ _ _ h => h) ⟨⟨_, Q.refl _⟩, rfl⟩ ?_
              have HQW := Lib.hid (HQC.out.drew)
              have HIW := Lib.hid (Box.q HIC.out (Q.refl _).drew)
              have HS0 := Lib.hid (show GI ≤ wc.drew.heap.size from by have := HQW.out.size; have := HGI.out; omega)
              clear HQC HIC
              generalize wc.drew = W at *
              have HAW := Lib.hid (Box.q HAC.out HQW.out)
              have HPW := Lib.hid (HP8.out.q HQW.out)
              have t1 := Box.soft HAW.out 1 _ rfl
              have t5 := Box.soft HAW.out 5 _ rfl
              have i0 := Box.soft HIW.out 0 _ rfl
              have i1 := Box.soft HIW.out 1 _ rfl
              have i2 := Box.soft HIW.out 2 _ rfl
              have v0 := Box.soft HPW.out.2.1 0 _ rfl
              have v1 := Box.soft HPW.out.2.1 1 _ rfl
              have v2 := Box.soft HPW.out.2.1 2 _ rfl
              repeat (refine tree_val rfl rfl ?_; go_big_quiet_step (fail); refine wpQuiet_nil ?_)
              clear t1 t5 i0 i1 i2 v0 v1 v2
              refine tree_two ?_ ?_
              · refine tree_one rfl rfl ?_
                intro K hK
                go_wp2_with (fail)
                refine (rCommitment_any ac.p 30 ac.c ac.n _ (by have := HAI.out.p0; have := HAI.out.p1; omega) (by omega) (Ac.c_range ac HAI.out) (ac_nonce HAI.out)).mono ?_
                rintro e wd ⟨rfl, hqd⟩
                rw [HZ.out]
                refine hK _ _ ⟨⟨_, hqd⟩, rfl⟩ ?_
                clear hK K
                refine tree_two ?_ ?_
                · refine tree_one rfl rfl ?_
                  intro K hK
                  go_wp2_with (fail)
                  refine (rCommit31_any 30 cz ac.p b k cb o (sts.take k) _ (Sl.q HPW.out.2.2.1 hqd) (by omega) (by rw [List.length_take, HP8.out.2.2.2.2.1]; omega)).mono ?_
                  rintro e we ⟨be, cbe, rfl, hse, hqe, hbe⟩
                  rw [commitE_take]
                  refine hK _ _ ⟨⟨_, hqd.trans hqe⟩, rfl⟩ ?_
                  clear hK K
                  repeat (refine tree_val rfl rfl ?_; go_big_quiet_step (fail); refine wpQuiet_nil ?_)
                  have HNB := Lib.hid (show ∀ x, be = some x → x.block ≠ B ∧ x.block ≠ BW from fun x hx => by
                    rcases hbe with rfl | hbe
                    · exact HP8.out.2.2.2.1 x hx
                    · have h1 := hbe x hx
                      have h2 := hqd.size
                      have h3 := HG8.out
                      have h4 := HBB.out
                      have h5 := HS0.out
                      have h6 := HS8.out
                      have h7 := HGI.out
                      omega)
                  have HGB := Lib.hid (show ∀ x, be = some x → x.block ≠ we.heap.size from fun x hx => by
                    obtain ⟨g, og, hg, hlt, _⟩ := Sl.pos hse (by omega)
                    rw [hg] at hx
                    cases hx
                    exact Nat.ne_of_lt hlt)
                  refine tree_one rfl rfl ?_
                  intro K hK
                  go_wp2_with (fail)
                  refine hK _ _ ⟨⟨_, (hqd.trans hqe).alloc _⟩, rfl⟩ ?_
                  clear hK K
                  have HQF := Lib.hid ((hqd.trans hqe).alloc (.cells #[.int .i64 0, .slice none 0 0, .bool false] 56))
                  have HNZ : Hid (Box (we.alloc (.cells #[.int .i64 0, .slice none 0 0, .bool false] 56)) we.heap.size [.int .i64 0, .slice none 0 0, .bool false]) := Lib.hid (Box.new we [.int .i64 0, .slice none 0 0, .bool false] 56)
                  have HGN := Lib.hid (show W.heap.size ≤ we.heap.size from (hqd.trans hqe).size)
                  have HSF := Lib.hid (Sl.q hse ((Q.refl we).alloc (.cells #[.int .i64 0, .slice none 0 0, .bool false] 56)))
                  clear hse hqe hbe hqd
                  generalize we.alloc (.cells #[.int .i64 0, .slice none 0 0, .bool false] 56) = wf at *
                  generalize we.heap.size = GN at *
                  have n0 := (HNZ.out.2 0 _ rfl).1
                  have n1 := (HNZ.out.2 1 _ rfl).1
                  have n2 := (HNZ.out.2 2 _ rfl).1
                  have f0 := (HNZ.out.2 0 _ rfl).2
                  have f1 := (HNZ.out.2 1 _ rfl).2
                  have f2 := (HNZ.out.2 2 _ rfl).2
                  refine tree_one rfl rfl ?_
                  intro K hK
                  go_wp2_with (fail)
                  refine hK _ _ ⟨⟨_, ((HQF.out.setCell (p := ⟨GN, 0, none⟩) HGN.out _).setCell (p := ⟨GN, 1, none⟩) HGN.out _).setCell (p := ⟨GN, 2, none⟩) HGN.out _⟩, rfl⟩ ?_
                  clear hK K n0 n1 n2 f0 f1 f2
                  repeat (refine tree_val rfl rfl ?_; go_big_quiet_step (fail); refine wpQuiet_nil ?_)
                  refine tree_end ?_
                  go_wp2_with (fail)
                  go_meet
                  refine ⟨be, cbe, GN, rfl, rfl, ?_, ?_, ?_, ?_, HNB.out⟩
                  · exact (((HQW.out.trans HQF.out).setCell (p := ⟨GN, 0, none⟩) (Nat.le_trans HQW.out.size HGN.out) _).setCell (p := ⟨GN, 1, none⟩) (Nat.le_trans HQW.out.size HGN.out) _).setCell (p := ⟨GN, 2, none⟩) (Nat.le_trans HQW.out.size HGN.out) _
                  · exact Box.set (Box.set (Box.set HNZ.out 0 (.int .i64 30) (show 0 < 3 by decide)) 1 (.slice be k cbe) (show 1 < 3 by decide)) 2 (.bool o) (show 2 < 3 by decide)
                  · exact Nat.le_trans HS0.out HGN.out
                  · exact Sl.qx HSF.out ((QX.set _ GN 0 (.int .i64 30)).trans ((QX.set _ GN 1 (.slice be k cbe)).trans (QX.set _ GN 2 (.bool o)))) HGB.out
                · refine tree_one rfl rfl ?_
                  intro K hK
                  go_wp2_with (fail)
                  refine hK _ _ ⟨⟨_, hqd.alloc _⟩, rfl⟩ ?_
                  clear hK K
                  have HQF := Lib.hid (hqd.alloc (.cells #[.int .i64 0, .slice none 0 0, .bool false] 56))
                  have HNZ : Hid (Box (wd.alloc (.cells #[.int .i64 0, .slice none 0 0, .bool false] 56)) wd.heap.size [.int .i64 0, .slice none 0 0, .bool false]) := Lib.hid (Box.new wd [.int .i64 0, .slice none 0 0, .bool false] 56)
                  have HGN := Lib.hid (show W.heap.size ≤ wd.heap.size from hqd.size)
                  clear hqd
                  generalize wd.alloc (.cells #[.int .i64 0, .slice none 0 0, .bool false] 56) = wf at *
                  generalize wd.heap.size = GN at *
                  refine tree_one rfl rfl ?_
                  intro K hK
                  go_wp2_with (fail)
                  refine (rCommit31_any 30 cz ac.p b k cb o (sts.take k) _ (Sl.q HPW.out.2.2.1 HQF.out) (by omega) (by rw [List.length_take, HP8.out.2.2.2.2.1]; omega)).mono ?_
                  rintro e we ⟨be, cbe, rfl, hse, hqe, hbe⟩
                  rw [commitE_take]
                  refine hK _ _ ⟨⟨_, HQF.out.trans hqe⟩, rfl⟩ ?_
                  clear hK K
                  repeat (refine tree_val rfl rfl ?_; go_big_quiet_step (fail); refine wpQuiet_nil ?_)
                  have HNB := Lib.hid (show ∀ x, be = some x → x.block ≠ B ∧ x.block ≠ BW from fun x hx => by
                    rcases hbe with rfl | hbe
                    · exact HP8.out.2.2.2.1 x hx
                    · have h1 := hbe x hx
                      have h2 := HQF.out.size
                      have h3 := HG8.out
                      have h4 := HBB.out
                      have h5 := HS0.out
                      have h6 := HS8.out
                      have h7 := HGI.out
                      omega)
                  have HGB := Lib.hid (show ∀ x, be = some x → x.block ≠ GN from fun x hx => by
                    rcases hbe with rfl | hbe
                    · obtain ⟨g, og, hg, hlt, _⟩ := Sl.pos HPW.out.2.2.1 (by omega)
                      rw [hg] at hx
                      cases hx
                      have := HGN.out
                      exact Nat.ne_of_lt (Nat.lt_of_lt_of_le hlt this)
                    · have h1 := hbe x hx
                      have h2 := HNZ.out.1
                      omega)
                  have HQE := Lib.hid (HQF.out.trans hqe)
                  have HNE := Lib.hid (Box.q HNZ.out hqe)
                  have HSF := Lib.hid hse
                  clear hse hqe hbe
                  have n0 := (HNE.out.2 0 _ rfl).1
                  have n1 := (HNE.out.2 1 _ rfl).1
                  have n2 := (HNE.out.2 2 _ rfl).1
                  have f0 := (HNE.out.2 0 _ rfl).2
                  have f1 := (HNE.out.2 1 _ rfl).2
                  have f2 := (HNE.out.2 2 _ rfl).2
                  refine tree_one rfl rfl ?_
                  intro K hK
                  go_wp2_with (fail)
                  refine hK _ _ ⟨⟨_, ((HQE.out.setCell (p := ⟨GN, 0, none⟩) HGN.out _).setCell (p := ⟨GN, 1, none⟩) HGN.out _).setCell (p := ⟨GN, 2, none⟩) HGN.out _⟩, rfl⟩ ?_
                  clear hK K n0 n1 n2 f0 f1 f2
                  repeat (refine tree_val rfl rfl ?_; go_big_quiet_step (fail); refine wpQuiet_nil ?_)
                  refine tree_end ?_
                  go_wp2_with (fail)
                  go_meet
                  refine ⟨be, cbe, GN, rfl, rfl, ?_, ?_, ?_, ?_, HNB.out⟩
                  · exact (((HQW.out.trans HQE.out).setCell (p := ⟨GN, 0, none⟩) (Nat.le_trans HQW.out.size HGN.out) _).setCell (p := ⟨GN, 1, none⟩) (Nat.le_trans HQW.out.size HGN.out) _).setCell (p := ⟨GN, 2, none⟩) (Nat.le_trans HQW.out.size HGN.out) _
                  · exact Box.set (Box.set (Box.set HNE.out 0 (.int .i64 30) (show 0 < 3 by decide)) 1 (.slice be k cbe) (show 1 < 3 by decide)) 2 (.bool o) (show 2 < 3 by decide)
                  · exact Nat.le_trans HS0.out HGN.out
                  · exact Sl.qx HSF.out ((QX.set _ GN 0 (.int .i64 30)).trans ((QX.set _ GN 1 (.slice be k cbe)).trans (QX.set _ GN 2 (.bool o)))) HGB.out
              · refine tree_one rfl rfl ?_
                intro K hK
                go_wp2_with (fail)
                refine hK _ _ ⟨⟨_, (Q.refl W).alloc _⟩, rfl⟩ ?_
                clear hK K
                have HQF := Lib.hid ((Q.refl W).alloc (.cells #[.int .i64 0, .slice none 0 0, .bool false] 56))
                have HNZ : Hid (Box (W.alloc (.cells #[.int .i64 0, .slice none 0 0, .bool false] 56)) W.heap.size [.int .i64 0, .slice none 0 0, .bool false]) := Lib.hid (Box.new W [.int .i64 0, .slice none 0 0, .bool false] 56)
                have HGN := Lib.hid (show W.heap.size ≤ W.heap.size from (Q.refl W).size)
                generalize W.alloc (.cells #[.int .i64 0, .slice none 0 0, .bool false] 56) = wf at *
                clear HGN
                generalize hGN : W.heap.size = GN at HNZ ⊢
                have HGN := Lib.hid (show W.heap.size ≤ GN from by rw [hGN]; exact Nat.le_refl _)
                clear hGN
                refine tree_one rfl rfl ?_
                intro K hK
                go_wp2_with (fail)
                refine (rCommitment_any ac.p 30 ac.c ac.n _ (by have := HAI.out.p0; have := HAI.out.p1; omega) (by omega) (Ac.c_range ac HAI.out) (ac_nonce HAI.out)).mono ?_
                rintro e wd ⟨rfl, hqd⟩
                rw [HZ.out]
                refine hK _ _ ⟨⟨_, HQF.out.trans hqd⟩, rfl⟩ ?_
                clear hK K
                have HQD := Lib.hid (HQF.out.trans hqd)
                have HND := Lib.hid (Box.q HNZ.out hqd)
                clear hqd
                refine tree_one rfl rfl ?_
                intro K hK
                go_wp2_with (fail)
                refine (rCommit31_any 30 cz ac.p b k cb o (sts.take k) _ (Sl.q HPW.out.2.2.1 HQD.out) (by omega) (by rw [List.length_take, HP8.out.2.2.2.2.1]; omega)).mono ?_
                rintro e we ⟨be, cbe, rfl, hse, hqe, hbe⟩
                rw [commitE_take]
                refine hK _ _ ⟨⟨_, HQD.out.trans hqe⟩, rfl⟩ ?_
                clear hK K
                repeat (refine tree_val rfl rfl ?_; go_big_quiet_step (fail); refine wpQuiet_nil ?_)
                have HNB := Lib.hid (show ∀ x, be = some x → x.block ≠ B ∧ x.block ≠ BW from fun x hx => by
                  rcases hbe with rfl | hbe
                  · exact HP8.out.2.2.2.1 x hx
                  · have h1 := hbe x hx
                    have h2 := HQD.out.size
                    have h3 := HG8.out
                    have h4 := HBB.out
                    have h5 := HS0.out
                    have h6 := HS8.out
                    have h7 := HGI.out
                    omega)
                have HGB := Lib.hid (show ∀ x, be = some x → x.block ≠ GN from fun x hx => by
                  rcases hbe with rfl | hbe
                  · obtain ⟨g, og, hg, hlt, _⟩ := Sl.pos HPW.out.2.2.1 (by omega)
                    rw [hg] at hx
                    cases hx
                    have := HGN.out
                    exact Nat.ne_of_lt (Nat.lt_of_lt_of_le hlt this)
                  · have h1 := hbe x hx
                    have h2 := HND.out.1
                    omega)
                have HQE := Lib.hid (HQD.out.trans hqe)
                have HNE := Lib.hid (Box.q HND.out hqe)
                have HSF := Lib.hid hse
                clear hse hqe hbe
                have n0 := (HNE.out.2 0 _ rfl).1
                have n1 := (HNE.out.2 1 _ rfl).1
                have n2 := (HNE.out.2 2 _ rfl).1
                have f0 := (HNE.out.2 0 _ rfl).2
                have f1 := (HNE.out.2 1 _ rfl).2
                have f2 := (HNE.out.2 2 _ rfl).2
                refine tree_one rfl rfl ?_
                intro K hK
                go_wp2_with (fail)
                refine hK _ _ ⟨⟨_, ((HQE.out.setCell (p := ⟨GN, 0, none⟩) HGN.out _).setCell (p := ⟨GN, 1, none⟩) HGN.out _).setCell (p := ⟨GN, 2, none⟩) HGN.out _⟩, rfl⟩ ?_
                clear hK K n0 n1 n2 f0 f1 f2
                repeat (refine tree_val rfl rfl ?_; go_big_quiet_step (fail); refine wpQuiet_nil ?_)
                refine tree_end ?_
                go_wp2_with (fail)
                go_meet
                refine ⟨be, cbe, GN, rfl, rfl, ?_, ?_, ?_, ?_, HNB.out⟩
                · exact (((HQW.out.trans HQE.out).setCell (p := ⟨GN, 0, none⟩) (Nat.le_trans HQW.out.size HGN.out) _).setCell (p := ⟨GN, 1, none⟩) (Nat.le_trans HQW.out.size HGN.out) _).setCell (p := ⟨GN, 2, none⟩) (Nat.le_trans HQW.out.size HGN.out) _
                · exact Box.set (Box.set (Box.set HNE.out 0 (.int .i64 30) (show 0 < 3 by decide)) 1 (.slice be k cbe) (show 1 < 3 by decide)) 2 (.bool o) (show 2 < 3 by decide)
                · exact Nat.le_trans HS0.out HGN.out
                · exact Sl.qx HSF.out ((QX.set _ GN 0 (.int .i64 30)).trans ((QX.set _ GN 1 (.slice be k cbe)).trans (QX.set _ GN 2 (.bool o)))) HGB.out
            case rest =>
              obtain ⟨b9, cb9, GN, rfl, rfl, hqe, hbn, hgn, hsn, hnb⟩ := hcut
              have PBA := Lib.hid (Box.q HP8.out.2.1 hqe)
              have HQE := Lib.hid hqe
              have HBN := Lib.hid hbn
              have HSN := Lib.hid hsn
              have HNB := Lib.hid hnb
              clear hqe hbn hgn hsn hnb
              have v0 := (HBN.out.2 0 _ rfl).1
              have v1 := (HBN.out.2 1 _ rfl).1
              have v2 := (HBN.out.2 2 _ rfl).1
              have c0 := (PBA.out.2 0 _ rfl).1
              have c1 := (PBA.out.2 1 _ rfl).1
              have c2 := (PBA.out.2 2 _ rfl).1
              have f0 := (PBA.out.2 0 _ rfl).2
              have f1 := (PBA.out.2 1 _ rfl).2
              have f2 := (PBA.out.2 2 _ rfl).2
              rw [← HE.out]
              go_wp2_with (fail)
              go_meet
              have hX := Lib.hid ((QX.of (B := BW) HQE.out).trans ((QX.set wc BW 0 (.int .i64 30)).trans ((QX.set _ BW 1 (.slice b9 k cb9)).trans (QX.set _ BW 2 (.bool o)))))
              refine ⟨b9, cb9, rfl, Box.qx HP8.out.1 hX.out (by have := HBB.out; omega), ?_, ?_, HNB.out, HK8.out.qx hX.out (by have := HBB.out; omega) (Nat.le_refl _), Box.qx HAC.out hX.out (by have := HG8.out; omega)⟩
              · rw [HO.out]; exact Box.set (Box.set (Box.set PBA.out 0 (.int .i64 30) (show 0 < 3 by decide)) 1 (.slice b9 k cb9) (show 1 < 3 by decide)) 2 (.bool o) (show 2 < 3 by decide)
              · rw [HT.out, commitT_take]
                exact Sl.qx HSN.out ((QX.set wc BW 0 (.int .i64 30)).trans ((QX.set _ BW 1 (.slice b9 k cb9)).trans (QX.set _ BW 2 (.bool o)))) (fun x hx => (HNB.out x hx).2)
        · have HE := Lib.hid (show doesE 30 k o sts ac = revealE 30 k o sts ac.p (ac.x % 3 - 1) (ac.x / 3 % 3 - 1) ac.f ac.n by unfold doesE; rw [h]; rfl)
          have HT := Lib.hid (show doesT 30 k o sts ac = revealT 30 k o sts ac.p (ac.x % 3 - 1) (ac.x / 3 % 3 - 1) ac.f ac.n by unfold doesT; rw [h]; rfl)
          have HO := Lib.hid (show doesO o ac = o by unfold doesO; rw [h]; rfl)
          have t0 := (HAC.out.2 0 _ rfl).1
          have t1 := (HAC.out.2 1 _ rfl).1
          have t2 := (HAC.out.2 2 _ rfl).1
          have t3 := (HAC.out.2 3 _ rfl).1
          have t4 := (HAC.out.2 4 _ rfl).1
          have t5 := (HAC.out.2 5 _ rfl).1
          have v0 := (HP8.out.2.1.2 0 _ rfl).1
          have v1 := (HP8.out.2.1.2 1 _ rfl).1
          have v2 := (HP8.out.2.1.2 2 _ rfl).1
          go_wp2_with (fail)
          refine (rReveal31_any 30 ac.p (ac.x % 3 - 1) (ac.x / 3 % 3 - 1) ac.f ac.n b k cb o (sts.take k) _ HP8.out.2.2.1 (by omega) (by rw [List.length_take, HP8.out.2.2.2.2.1]; omega) (ac_nonce HAI.out) (by omega)).mono ?_
          rintro e w9 ⟨b9, cb9, rfl, hs9, hq9, hb9⟩
          rw [revealE_take, ← HE.out]
          have HE9 := Lib.hid (show Sl w9 6 b9 k cb9 (((doesT 30 k o sts ac).take k).flatMap oneC) by rw [HT.out, revealT_take]; exact hs9)
          have HQ9 := Lib.hid hq9
          have HNB := Lib.hid (show ∀ x, b9 = some x → x.block ≠ B ∧ x.block ≠ BW from fun x hx => by
            rcases hb9 with rfl | hb9
            · exact HP8.out.2.2.2.1 x hx
            · have h1 := hb9 x hx
              have h2 := HAC.out.1
              have h3 := HG8.out
              have h4 := HBB.out
              omega)
          have PB9 := Lib.hid (Box.q HP8.out.2.1 hq9)
          generalize doesE 30 k o sts ac = E9 at *
          clear hs9 hq9 hb9 v0 v1 v2 t0 t1 t2 t3 t4 t5
          go_upto_region 22 with (fail)
          have hqa : Q w8 (w9.alloc (.cells #[.int .i64 30, .slice b9 k cb9, .bool o] 56)) := HQ9.out.alloc _
          have HQA := Lib.hid hqa
          have HNW : Hid (Box (w9.alloc (.cells #[.int .i64 30, .slice b9 k cb9, .bool o] 56)) w9.heap.size [.int .i64 30, .slice b9 k cb9, .bool o]) := Lib.hid (Box.new w9 [.int .i64 30, .slice b9 k cb9, .bool o] 56)
          have HEA := Lib.hid (Sl.q HE9.out ((Q.refl w9).alloc (.cells #[.int .i64 30, .slice b9 k cb9, .bool o] 56)))
          clear hqa HE9 HQ9 PB9
          generalize w9.alloc (.cells #[.int .i64 30, .slice b9 k cb9, .bool o] 56) = wa at *
          generalize w9.heap.size = G9 at *
          have PBA := Lib.hid (Box.q HP8.out.2.1 HQA.out)
          have v0 := (HNW.out.2 0 _ rfl).1
          have v1 := (HNW.out.2 1 _ rfl).1
          have v2 := (HNW.out.2 2 _ rfl).1
          have c0 := (PBA.out.2 0 _ rfl).1
          have c1 := (PBA.out.2 1 _ rfl).1
          have c2 := (PBA.out.2 2 _ rfl).1
          have f0 := (PBA.out.2 0 _ rfl).2
          have f1 := (PBA.out.2 1 _ rfl).2
          have f2 := (PBA.out.2 2 _ rfl).2
          go_wp2_with (fail)
          go_meet
          have hX := Lib.hid (((QX.of (B := BW) HQA.out).trans (QX.set wa BW 0 (.int .i64 30))).trans ((QX.set _ BW 1 (.slice b9 k cb9)).trans (QX.set _ BW 2 (.bool o))))
          refine ⟨b9, cb9, rfl, Box.qx HP8.out.1 hX.out (by have := HBB.out; omega), ?_, ?_, HNB.out, HK8.out.qx hX.out (by have := HBB.out; omega) (Nat.le_refl _), Box.qx HAC.out hX.out (by have := HG8.out; omega)⟩
          · rw [HO.out]; exact Box.set (Box.set (Box.set PBA.out 0 (.int .i64 30) (show 0 < 3 by decide)) 1 (.slice b9 k cb9) (show 1 < 3 by decide)) 2 (.bool o) (show 2 < 3 by decide)
          · exact Sl.qx HEA.out ((QX.set wa BW 0 (.int .i64 30)).trans ((QX.set _ BW 1 (.slice b9 k cb9)).trans (QX.set _ BW 2 (.bool o)))) (fun x hx => (HNB.out x hx).2)
        · have HE := Lib.hid (show doesE 30 k o sts ac = 0 by unfold doesE; rw [h]; rfl)
          have HT := Lib.hid (show doesT 30 k o sts ac = sts by unfold doesT; rw [h]; rfl)
          have HO := Lib.hid (show doesO o ac = true by unfold doesO; rw [h]; rfl)
          have t0 := (HAC.out.2 0 _ rfl).1
          have v2 := HP8.out.2.1.2 2 _ rfl
          have v20 := v2.1
          have v21 := v2.2
          clear v2
          go_wp2_with (fail)
          go_meet
          have hX := Lib.hid (QX.set w8 BW 2 (.bool true))
          refine ⟨b, cb, by rw [HE.out], Box.qx HP8.out.1 hX.out (by have := HBB.out; omega), ?_, ?_, HP8.out.2.2.2.1, HK8.out.qx hX.out (by have := HBB.out; omega) (Nat.le_refl _), Box.qx HAC.out hX.out (by have := HG8.out; omega)⟩
          · rw [HO.out]; exact Box.set HP8.out.2.1 2 _ (show 2 < 3 by decide)
          · rw [HT.out]; exact Sl.qx HP8.out.2.2.1 hX.out (fun x hx => (HP8.out.2.2.2.1 x hx).2)
      case rest =>
        obtain ⟨b9, cb9, rfl, hR, hBW, hSl, hnb, hK, hBG⟩ := hcut
        have HRc := Lib.hid hR
        have HBc := Lib.hid hBW
        have HSc := Lib.hid hSl
        have HNc := Lib.hid hnb
        have HKc := Lib.hid hK
        have HGc := Lib.hid hBG
        have HL8 := Lib.hid HP8.out.2.2.2.2
        clear hR hBW hSl hnb hK hBG HP8 HK8 HAC
        go_wp2_with (fail)
        refine wp_region_mixX (B := B) [(0, true), (1, true), (3, true), (2, false), (4, true), (5, true), (6, true), (8, true), (9, true), (7, false), (10, true), (11, true)] (by kernel_rfl) (by kernel_rfl) (fun _ _ _ _ _ h => h) ?_
        have HQd := Lib.hid (show Q wc wc.drew from (Q.refl wc).drew)
        generalize wc.drew = W at *
        have hGB : G ≠ B := by have := HG8.out; have := HBB.out; omega
        have hWB : BW ≠ B := by have := HBB.out; omega
        have HGW := Lib.hid (Box.q HGc.out HQd.out)
        have HBW := Lib.hid (Box.q HBc.out HQd.out)
        have t0 := Box.softX HGW.out hGB 0 _ rfl
        have t1 := Box.softX HGW.out hGB 1 _ rfl
        have t2 := Box.softX HGW.out hGB 2 _ rfl
        have t3 := Box.softX HGW.out hGB 3 _ rfl
        have t4 := Box.softX HGW.out hGB 4 _ rfl
        have t5 := Box.softX HGW.out hGB 5 _ rfl
        repeat (refine mixX_val rfl rfl ?_; go_big_quiet_step (fail); refine wpQuiet_nil ?_)
        clear t0 t1 t2 t3 t4 t5
        refine mixX_run rfl rfl ?_
        intro K hK
        go_wp2_with (fail)
        refine (does31_any B 30 k o sts ac _ (Box.q HRc.out HQd.out) HL8.out.1 (by omega) HL8.out.2 HAI.out (by omega)).mono ?_
        rintro e w5 ⟨rfl, hR5, hX5⟩
        refine hK _ _ hX5 ?_
        clear hK K
        have HR5 := Lib.hid hR5
        have HX5 := Lib.hid hX5
        have HB5 := Lib.hid (Box.qx HBW.out hX5 hWB)
        have HLT := Lib.hid (show (doesT 30 k o sts ac).length = 8 by rw [does_len]; exact HL8.out.1)
        have HST := Lib.hid (does_sane (t := 30) (k := k) (o := o) ac HL8.out.2)
        have HOT := Lib.hid (show i + 1 = n → doesO o ac = true from fun e => by unfold doesO; rw [HAL.out e]; rfl)
        clear hR5 hX5
        generalize doesE 30 k o sts ac = E5 at *
        generalize doesT 30 k o sts ac = st5 at *
        generalize doesO o ac = o5 at *
        have v2 := Box.softX HB5.out hWB 2 _ rfl
        repeat (refine mixX_val rfl rfl ?_; go_big_quiet_step (fail); refine wpQuiet_nil ?_)
        clear v2
        refine mixX_run rfl rfl ?_
        intro K hK
        go_wp2_with (fail)
        refine (crOpen_any B 30 k o5 st5 _ HR5.out).mono ?_
        rintro e w6 ⟨rfl, rfl⟩
        refine hK _ _ (QX.refl B _) ?_
        clear hK K
        repeat (refine mixX_val rfl rfl ?_; go_big_quiet_step (fail); refine wpQuiet_nil ?_)
        refine mixX_end ?_
        have HK5 := Lib.hid ((HKc.out.q HQd.out).qx HX5.out HBB.out.1 (by have := HBB.out; omega))
        have HS5 := Lib.hid (Sl.qx (Sl.q HSc.out HQd.out) HX5.out (fun x hx => (HNc.out x hx).1))
        clear HX5 HQd HGW HBW HRc HBc HSc HKc HGc HL8
        go_wp2_with (fail)
        refine (crResult_any B 30 k o5 st5 a5 kl cap5 kn _ HR5.out HLT.out (by omega) (Sl.of_own HK5.out.2.1) HKC.out).mono ?_
        rintro e w7 ⟨ra, rc, rb, rd, rfl, hra, hrb, hq7⟩
        have HK7 := Lib.hid (HK5.out.q hq7)
        have HR7 := Lib.hid (Box.q HR5.out hq7)
        have HS7 := Lib.hid (Sl.q HS5.out hq7)
        have HB7 := Lib.hid (Box.q HB5.out hq7)
        have HRA := Lib.hid (Sl.of_own hra)
        have HRB := Lib.hid (Sl.of_own hrb)
        clear hra hrb hq7 HK5 HR5 HS5 HB5
        have v0 := (HB7.out.2 0 _ rfl).1
        have v1 := (HB7.out.2 1 _ rfl).1
        have v2 := (HB7.out.2 2 _ rfl).1
        go_wp2_with (fail)
        refine (rResult31_any 30 b9 k cb9 o5 (st5.take k) a5 kl cap5 kn _ HS7.out (by omega) (by rw [List.length_take, HLT.out]; omega) (Sl.of_own HK7.out.2.1) HKC.out).mono ?_
        rintro e w8 ⟨sa, sc, sb, sd, rfl, hsa, hsb, hq8⟩
        have HK8 := Lib.hid (HK7.out.q hq8)
        have HR8 := Lib.hid (Box.q HR7.out hq8)
        have HS8 := Lib.hid (Sl.q HS7.out hq8)
        have HB8 := Lib.hid (Box.q HB7.out hq8)
        have HRA8 := Lib.hid (Sl.q HRA.out hq8)
        have HRB8 := Lib.hid (Sl.q HRB.out hq8)
        have HSA := Lib.hid (Sl.of_own hsa)
        have HSB := Lib.hid (Sl.of_own hsb)
        have HCO := Lib.hid (resL_code (st5.take k) kn (sane_take k HST.out))
        clear hsa hsb hq8 HK7 HR7 HS7 HB7 HRA HRB v0 v1 v2
        generalize resL (st5.take k) kn = rl at *
        generalize faultL (st5.take k) = fl at *
        go_wp2_with (fail)
        refine (equal_any _ _ _ _ _ _ rl rl _ HRA8.out HSA.out HCO.out HCO.out).mono ?_
        rintro e w9 ⟨rfl, hq9⟩
        rw [show eqB rl rl = true by simp [eqB]]
        have HRB9 := Lib.hid (Sl.q HRB8.out hq9)
        have HSB9 := Lib.hid (Sl.q HSB.out hq9)
        have HQ9 := Lib.hid hq9
        clear hq9 HRA8 HSA HRB8 HSB
        go_wp2_with (fail)
        refine (sameInts_any _ _ _ _ _ _ fl fl _ HRB9.out HSB9.out).mono ?_
        rintro e wa ⟨rfl, hqa⟩
        rw [show sameL fl fl = true by simp [sameL]]
        have HQA := Lib.hid (HQ9.out.trans hqa)
        clear hqa HQ9 HRB9 HSB9
        go_wp2_with (fail)
        go_roundw
        case rel => exact ⟨i + 1, by omega, by go_num, o5, st5, b9, cb9, HOT.out, ⟨Box.q HR8.out HQA.out, Box.q HB8.out HQA.out, Sl.q HS8.out HQA.out, HNc.out, HLT.out, HST.out⟩, HK8.out.q HQA.out⟩
        case measure => simp [intOf]; omega
    · have hi' : ¬ (i : Int) < n := by omega
      have HOE := Lib.hid (show o = true from HIO.out (by omega))
      have HPL := Lib.hid (show Pair wr B BW k true sts b cb by have h := HPr.out; rw [HOE.out] at h; exact h)
      clear HPr HIO HOE hin
      go_wp2_with (fail)
      go_loopw [30] (fun v wx => ∃ p : Int, -1 ≤ p ∧ p ≤ k + 1 ∧ v = .int .i64 p ∧ ∃ st' : List St, st'.length = 8 ∧ Sane st' ∧ (∀ q, p ≤ q → getS st' q = getS sts q) ∧ Rd wx B 30 k true st' ∧ Box wx BW [.int .i64 30, .slice b k cb, .bool true] ∧ Sl wx 6 b k cb ((sts.take k).flatMap oneC) ∧ Kept w wx BW (.slice a5 kl cap5) kl kn (.slice (some ⟨g7, 0, none⟩) n cap7) n acl [.int .i64 r0, .int .i64 r1, .int .i64 r2]) (fun v _ => ((k : Int) + 1 - intOf v).toNat)
      case atStart => exact ⟨-1, by omega, by omega, rfl, sts, HPL.out.2.2.2.2.1, HPL.out.2.2.2.2.2, fun _ _ => rfl, HPL.out.1, HPL.out.2.1, HPL.out.2.2.1, HKr.out⟩
      case round =>
        obtain ⟨p, hp0, hp1, rfl, st', hl', hs', hg', hR', hB', hS', hK'⟩ := hrel
        have HRx := Lib.hid hR'
        have HBx := Lib.hid hB'
        have HSx := Lib.hid hS'
        have HKx := Lib.hid hK'
        have HLx := Lib.hid hl'
        have HTx := Lib.hid hs'
        have HGx := Lib.hid hg'
        clear hR' hB' hS' hK' hl' hs' hg'
        by_cases hp : p ≤ k
        · have v0 := (HBx.out.2 0 _ rfl).1
          have v1 := (HBx.out.2 1 _ rfl).1
          have v2 := (HBx.out.2 2 _ rfl).1
          go_wp2_with (fail)
          refine (rCommit31_any 30 c p b k cb true (sts.take k) _ HSx.out (by omega) (by rw [List.length_take, HPL.out.2.2.2.2.1]; omega)).mono ?_
          rintro e w8 ⟨b8, cb8, rfl, _, hq8, _⟩
          rw [commitE_take]
          have HE1 : commitE k true sts p = commitE k true st' p := commitE_congr (HGx.out p (Int.le_refl _)).symm
          rw [HE1]
          have HQ8 := Lib.hid hq8
          clear hq8 v0 v1 v2 HE1
          generalize hcE : commitE k true st' p = cE at *
          have HCE := Lib.hid hcE
          clear hcE
          go_upto_region 35 with (fail)
          have HQa := Lib.hid (HQ8.out.alloc (.cells #[.int .i64 30, .slice b8 k cb8, .bool true] 56))
          clear HQ8
          generalize w8.alloc (.cells #[.int .i64 30, .slice b8 k cb8, .bool true] 56) = wa at *
          have HBa := Lib.hid (Box.q HBx.out HQa.out)
          have HIa := Lib.hid (Box.q HKx.out.2.2.2 HQa.out)
          have v0 := (HBa.out.2 0 _ rfl).1
          have v1 := (HBa.out.2 1 _ rfl).1
          have v2 := (HBa.out.2 2 _ rfl).1
          have i0 := (HIa.out.2 0 _ rfl).1
          have i1 := (HIa.out.2 1 _ rfl).1
          have i2 := (HIa.out.2 2 _ rfl).1
          go_wp2_with (fail)
          refine (rReveal31_any 30 p r0 r1 r2 nonce b k cb true (sts.take k) _ (Sl.q HSx.out HQa.out) (by omega) (by rw [List.length_take, HPL.out.2.2.2.2.1]; omega) GN.out (by omega)).mono ?_
          rintro e wb ⟨bb, cbb, rfl, _, hqb, _⟩
          rw [revealE_take]
          have HE1 : revealE 30 k true sts p r0 r1 r2 nonce = revealE 30 k true st' p r0 r1 r2 nonce := revealE_congr (HGx.out p (Int.le_refl _)).symm
          rw [HE1]
          have HQb := Lib.hid (HQa.out.trans hqb)
          clear hqb v0 v1 v2 i0 i1 i2 HE1 HBa HIa HQa
          generalize hrE : revealE 30 k true st' p r0 r1 r2 nonce = rE at *
          have HRE := Lib.hid hrE
          clear hrE
          go_upto_region 36 with (fail)
          have HQc := Lib.hid (HQb.out.alloc (.cells #[.int .i64 30, .slice bb k cbb, .bool true] 56))
          clear HQb
          generalize wb.alloc (.cells #[.int .i64 30, .slice bb k cbb, .bool true] 56) = wd at *
          have HKd := Lib.hid (HKx.out.q HQc.out)
          have HBd := Lib.hid (Box.q HBx.out HQc.out)
          have HSd := Lib.hid (Sl.q HSx.out HQc.out)
          go_wp2_with (fail)
          refine (crCommit_any B 30 k p c true st' _ (Box.q HRx.out HQc.out) HLx.out (by omega) HTx.out).mono ?_
          rintro e wf ⟨rfl, hRf, hXf⟩
          have hct : commitT k true st' p c = st' := by
            unfold commitT
            rw [if_neg]
            intro h
            have := (commitE_zero h).2.2.1
            cases this
          rw [hct] at hRf
          rw [HCE.out]
          have HRf := Lib.hid hRf
          have HKf := Lib.hid (HKd.out.qx hXf HBB.out.1 (by have := HBB.out; omega))
          have HBf := Lib.hid (Box.qx HBd.out hXf (by have := HBB.out; omega))
          have HSf := Lib.hid (Sl.qx HSd.out hXf (fun x hx => (HPL.out.2.2.2.1 x hx).1))
          clear hRf hXf hct HKd HBd HSd HQc HRx HKx HBx HSx
          have i0 := (HKf.out.2.2.2.2 0 _ rfl).1
          have i1 := (HKf.out.2.2.2.2 1 _ rfl).1
          have i2 := (HKf.out.2.2.2.2 2 _ rfl).1
          go_wp2_with (fail)
          refine (crReveal_any B 30 k p r0 r1 r2 nonce true st' _ HRf.out HLx.out (by omega) HTx.out GN.out (by omega)).mono ?_
          rintro e wg ⟨rfl, hRg, hXg⟩
          rw [HRE.out]
          have HRg := Lib.hid hRg
          have HKg := Lib.hid (HKf.out.qx hXg HBB.out.1 (by have := HBB.out; omega))
          have HBg := Lib.hid (Box.qx HBf.out hXg (by have := HBB.out; omega))
          have HSg := Lib.hid (Sl.qx HSf.out hXg (fun x hx => (HPL.out.2.2.2.1 x hx).1))
          clear hRg hXg i0 i1 i2 HRf HKf HBf HSf
          go_wp2_with (fail)
          go_roundw
          case rel =>
            refine ⟨p + 1, by omega, by omega, rfl, _, by rw [reveal_len]; exact HLx.out, sane_reveal HTx.out, fun q hq => ?_, HRg.out, HBg.out, HSg.out, HKg.out⟩
            rw [← HGx.out q (by omega)]
            unfold revealT
            split
            · rename_i hz
              obtain ⟨z0, z1, _⟩ := revealE_zero hz
              obtain ⟨j, rfl⟩ := Int.eq_ofNat_of_zero_le z0
              rw [getS_set _ _ _ _ (by rw [HLx.out]; omega), if_neg (by omega)]
            · rfl
          case measure => simp [intOf]; omega
        · have hp' : p = k + 1 := by omega
          have hp2 : ¬ (p : Int) ≤ k := hp
          go_wp2_with (fail)
          refine (lives31_any _).mono ?_
          rintro e w7 ⟨rfl, hq7⟩
          have HQ7 := Lib.hid (HKx.out.1.trans hq7)
          clear hq7
          go_wp2
          go_ret
          exact ⟨rfl, HQ7.out⟩
end Go.Proofs.Ytcpicifnadoeoaa
