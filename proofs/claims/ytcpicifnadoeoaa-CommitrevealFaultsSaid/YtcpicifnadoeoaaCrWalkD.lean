/- The walk of CommitrevealFaults. -/
import Derived.Test.YtcpicifnadoeoaaCrWalkC
import Derived.Test.YtcpicifnadoeoaaOwnSet
import Derived.Deep.Cut
namespace Go.Proofs.Ytcpicifnadoeoaa
open Go Go.RowKit Go.BigFrame

theorem fault_set (y : St) : ∀ (l : List St) (i b : Nat) (hi : i < l.length), (faultFrom (l.set i y) b).length + (if y.rev then 1 else 0) = (faultFrom l b).length + (if l[i].rev then 1 else 0)
  | [], i, b, hi => by simp at hi
  | s :: r, 0, b, hi => by
    change (faultFrom (y :: r) b).length + (if y.rev then 1 else 0) = (faultFrom (s :: r) b).length + (if s.rev then 1 else 0)
    simp only [faultFrom]
    by_cases hy : y.rev = true <;> by_cases hs : s.rev = true <;> simp [hy, hs]
  | s :: r, i + 1, b, hi => by
    have := fault_set y r i (b + 1) (by simpa using hi)
    simp only [List.set_cons_succ, faultFrom, List.getElem_cons_succ]
    cases s.rev <;> simp <;> omega
theorem fault_take_set (sts : List St) (i n : Nat) (y : St) (hi : i < n) (hn : n ≤ sts.length) : (faultL ((sts.set i y).take n)).length + (if y.rev then 1 else 0) = (faultL (sts.take n)).length + (if (getS sts i).rev then 1 else 0) := by
  have hl : i < (sts.take n).length := by rw [List.length_take]; omega
  have := fault_set y (sts.take n) i 0 hl
  rw [List.take_set, show getS sts i = (sts.take n)[i] by rw [getS_nat sts i (by omega)]; simp]
  exact this
/-- an operation that is no successful reveal -/
theorem does_no {t k : Int} {o : Bool} {sts : List St} (a : Ac) (n : Nat) (hk : k = n) (hn : n ≤ sts.length) (hs : Sane sts) (h : ¬ (doesE t k o sts a = 0 ∧ a.act = 1)) :
    (∀ i : Nat, (getS (doesT t k o sts a) i).rev = (getS sts i).rev) ∧ (faultL ((doesT t k o sts a).take n)).length = (faultL (sts.take n)).length := by
  unfold doesT
  split
  · unfold commitT
    split
    · rename_i h0 hc
      obtain ⟨p0, p1, _, hcm⟩ := commitE_zero hc
      have hmem : getS sts a.p ∈ sts := by
        obtain ⟨j, hj⟩ := Int.eq_ofNat_of_zero_le p0
        rw [hj, getS_nat sts j (by omega)]
        exact List.getElem_mem _
      have hst := hs.fresh _ hmem hcm
      have hp : a.p.toNat < n := by omega
      refine ⟨fun i => ?_, ?_⟩
      · rw [getS_set _ _ _ _ (by omega)]
        split
        · rename_i hi
          have : (i : Int) = a.p := by omega
          rw [this, hst]; rfl
        · rfl
      · have := fault_take_set sts a.p.toNat n ⟨true, false, comZ a.p t a.c a.n, 4⟩ hp hn
        rw [show ((a.p.toNat : Nat) : Int) = a.p by omega, hst] at this
        simpa [st0] using this
    · exact ⟨fun _ => rfl, rfl⟩
  · split
    · rename_i h0 h1
      have hne : revealE t k o sts a.p (a.x % 3 - 1) (a.x / 3 % 3 - 1) a.f a.n ≠ 0 := by
        intro e
        refine h ⟨?_, h1⟩
        unfold doesE
        rw [if_neg h0, if_pos h1]
        exact e
      unfold revealT
      rw [if_neg hne]
      exact ⟨fun _ => rfl, rfl⟩
    · exact ⟨fun _ => rfl, rfl⟩
/-- a successful reveal -/
theorem does_yes {t k : Int} {o : Bool} {sts : List St} (a : Ac) (n : Nat) (hk : k = n) (hn : n ≤ sts.length) (h : doesE t k o sts a = 0) (h1 : a.act = 1) :
    0 ≤ a.p ∧ a.p < n ∧ (getS sts a.p).rev = false ∧ (∀ i : Nat, (getS (doesT t k o sts a) i).rev = if (i : Int) = a.p then true else (getS sts i).rev) ∧ (faultL ((doesT t k o sts a).take n)).length + 1 = (faultL (sts.take n)).length := by
  have h0 : a.act ≠ 0 := by omega
  unfold doesE at h
  rw [if_neg h0, if_pos h1] at h
  obtain ⟨p0, p1, hc, hr⟩ := revealE_zero h
  have hp : a.p.toNat < n := by omega
  refine ⟨p0, by omega, hr, fun i => ?_, ?_⟩
  · unfold doesT
    rw [if_neg h0, if_pos h1]
    unfold revealT
    rw [if_pos h, getS_set _ _ _ _ (by omega)]
    by_cases hi : (i : Int) = a.p
    · rw [if_pos (by omega), if_pos hi]
    · rw [if_neg (by omega), if_neg hi]
  · unfold doesT
    rw [if_neg h0, if_pos h1]
    unfold revealT
    rw [if_pos h]
    have := fault_take_set sts a.p.toNat n ⟨true, true, (getS sts a.p).c, codeOf (a.x % 3 - 1) (a.x / 3 % 3 - 1) a.f⟩ hp hn
    rw [show ((a.p.toNat : Nat) : Int) = a.p by omega, hr] at this
    simpa using this
theorem hasL_snoc (rv : List Int) (p z : Int) : hasL (rv ++ [p]) z = (hasL rv z || (z == p)) := by
  unfold hasL
  rw [Bool.eq_iff_iff]
  simp

/-- what lies below the base of the row that grows is kept -/
theorem low_keep {w w' : World} {C : Nat} (hC : C ≤ w.heap.size) (h : ∀ w0, Q w0 w → w0.heap.size ≤ C → Q w0 w') : ∀ j, j < C → w'.heap[j]? = w.heap[j]? := by
  intro j hj
  have hs : (w.heap.extract 0 C).size = C := by simp; omega
  have q : Q { w with heap := w.heap.extract 0 C } w := by
    refine ⟨rfl, rfl, rfl, ?_, fun k hk => ?_⟩
    · show (w.heap.extract 0 C).size ≤ w.heap.size
      omega
    · have hk' : k < C := by rw [← hs]; exact hk
      show w.heap[k]? = (w.heap.extract 0 C)[k]?
      rw [Array.getElem?_extract]
      simp
      omega
  have q2 := h _ q (by show (w.heap.extract 0 C).size ≤ C; omega)
  have e1 := Below.block q2 j (by show j < (w.heap.extract 0 C).size; omega)
  have e2 := Below.block q j (by show j < (w.heap.extract 0 C).size; omega)
  exact e1.trans e2.symm
theorem low_size {w w' : World} {C : Nat} (h : ∀ w0, Q w0 w → w0.heap.size ≤ C → Q w0 w') (hC : C ≤ w.heap.size) : C ≤ w'.heap.size := by
  have hs : (w.heap.extract 0 C).size = C := by simp; omega
  have q : Q { w with heap := w.heap.extract 0 C } w := by
    refine ⟨rfl, rfl, rfl, ?_, fun k hk => ?_⟩
    · show (w.heap.extract 0 C).size ≤ w.heap.size
      omega
    · have hk' : k < C := by rw [← hs]; exact hk
      show w.heap[k]? = (w.heap.extract 0 C)[k]?
      rw [Array.getElem?_extract]
      simp
      omega
  have q2 := (h _ q (by show (w.heap.extract 0 C).size ≤ C; omega)).size
  have : (w.heap.extract 0 C).size ≤ w'.heap.size := q2
  omega
theorem Box.low {w w' : World} {B C : Nat} {vs : List Value} (b : Box w B vs) (hB : B < C) (hC : C ≤ w.heap.size) (h : ∀ w0, Q w0 w → w0.heap.size ≤ C → Q w0 w') (hs : C ≤ w'.heap.size) : Box w' B vs := by
  have hb := low_keep hC h B hB
  refine ⟨Nat.lt_of_lt_of_le hB hs, fun k v hv => ?_⟩
  exact ⟨(World.cell?_of_block (a := ⟨B, k, none⟩) hb).trans (b.2 k v hv).1, (World.frozen?_of_block (a := ⟨B, k, none⟩) hb).trans (b.2 k v hv).2⟩
attribute [local go_sem ↓] eqIn_in
attribute [local go_sem] same3_refl
set_option maxRecDepth 100000 in
set_option maxHeartbeats 1000000 in
theorem faults_walk (a0 : Option Addr) (len0 cap0 : Nat) (z0 : List Int) (a2 : Option Addr) (len2 cap2 : Nat) (z2 : List Int) (w : World) (w0 : IsRow .i64 w a0 len0 cap0 z0) (w2 : IsRow .i64 w a2 len2 cap2 z2) :
    Calls Try.prog 7 #[.slice a0 len0 cap0, .slice a2 len2 cap2] w fun e w' => e = .returned (.bool true) ∧ Q w w' := by
  obtain ⟨i0, hi, hz0, hz1, hz2⟩ := info_parts infoInt
  have HI := Lib.hid hi
  have S0 := Lib.hid (Sl.of_row w0)
  have R0 := Lib.hid (rowI64' w0)
  have S2 := Lib.hid (Sl.of_row w2)
  have R2 := Lib.hid (rowI64' w2)
  clear w0 w2 hi
  generalize z0.take len0 = zl at *
  generalize z2.take len2 = zk at *
  go_enter Try.func7, Try.ntmps7
  go_wp2_with (fail)
  refine (crNew_any 5 2 _).mono ?_
  rintro e w2 ⟨rfl, hRA, hqA⟩
  have HRA := Lib.hid hRA
  have HQA := Lib.hid hqA
  have hAlt := Lib.hid hRA.1
  generalize hA : w.heap.size = A at *
  have HAw := Lib.hid (Nat.le_of_eq hA)
  clear hRA hqA
  go_wp2_with (fail)
  refine (acts_any a0 len0 cap0 zl _ (S0.out.q HQA.out) R0.out).mono ?_
  rintro e w4 ⟨a4, cap4, rfl, hown4, hq4'⟩
  have HO4 := Lib.hid hown4
  have HQ5 := Lib.hid (HQA.out.trans hq4')
  have HRA4 := Lib.hid (Box.q HRA.out hq4')
  have HLA := Lib.hid (show (acsOf (zl.take 24)).length = min len0 24 by
    have := S0.out.1
    simp at this
    rw [acsOf_len, List.length_take, this, Nat.min_comm])
  have HOK := Lib.hid (acsOf_ok (zl.take 24))
  have hm24 : min len0 24 ≤ 24 := Nat.min_le_right _ _
  generalize acsOf (zl.take 24) = ops at *
  generalize min len0 24 = m at *
  have HCw := Lib.hid (show w2.heap.size ≤ w4.heap.size from hq4'.size)
  generalize hC : w2.heap.size = C at *
  have HAC := Lib.hid (show A < C from hAlt.out)
  clear hown4 hq4' HQA HRA hC hAlt
  go_wp2_with (fail)
  go_loopw [6, 8] (fun v i wr => ∃ (k nr cr : Nat) (ar : Option Addr) (o : Bool) (sA : List St) (rv : List Int), k ≤ m ∧ i = .int .i64 k ∧ v = .slice ar nr cr ∧ nr ≤ k ∧ Q w wr ∧ Rd wr A 2 5 o sA ∧ wr.ownsRow C 49 6 (.slice a4 m cap4) m (ops.flatMap acC) ∧ wr.ownsRow C 3 1 (.slice ar nr cr) nr (rv.map (Value.int .i64)) ∧ sA.length = 8 ∧ Sane sA ∧ (∀ i : Nat, i < 5 → hasL rv i = (getS sA i).rev) ∧ (faultL (sA.take 5)).length + rv.length = 5) (fun _ i _ => m - (intOf i).toNat)
  case atStart => exact ⟨0, 0, 0, none, false, _, [], by omega, rfl, rfl, by omega, HQ5.out, HRA4.out, HO4.out, World.ownsRow_nil _ _ _ _, rfl, sane0 8, fun i hi => by rcases (show i = 0 ∨ i = 1 ∨ i = 2 ∨ i = 3 ∨ i = 4 by omega) with rfl | rfl | rfl | rfl | rfl <;> rfl, rfl⟩
  case round =>
    obtain ⟨k, nr, cr, ar, o, sA, rv, hkm, rfl, rfl, hnr, hq, hRA, hown, hownr, hlA, hsA, hrv, hcnt⟩ := hrel
    have HQ := Lib.hid hq
    have HRA := Lib.hid hRA
    have HO := Lib.hid hown
    have HR := Lib.hid hownr
    have HSA := Lib.hid hsA
    have HLl := Lib.hid hlA
    have HRV := Lib.hid hrv
    have HCNT := Lib.hid hcnt
    clear hq hRA hown hownr hsA hlA hrv hcnt HRA4 HO4 HQ5
    by_cases h1 : k < m
    · have hka : k < ops.length := by rw [HLA.out]; exact h1
      obtain ⟨g, og, rfl, hg, hcs⟩ := (Sl.of_own HO.out).pos (by omega)
      have hok := Lib.hid (HOK.out _ (List.getElem_mem hka))
      generalize hak : ops[k] = a at *
      have HAK := Lib.hid hak
      clear hcs hg hak
      have s0 := own_ac HO.out (by omega) k hka 0 (by omega) _ rfl
      have s1 := own_ac HO.out (by omega) k hka 1 (by omega) _ rfl
      have s2 := own_ac HO.out (by omega) k hka 2 (by omega) _ rfl
      have s3 := own_ac HO.out (by omega) k hka 3 (by omega) _ rfl
      have s4 := own_ac HO.out (by omega) k hka 4 (by omega) _ rfl
      have s5 := own_ac HO.out (by omega) k hka 5 (by omega) _ rfl
      rw [Nat.add_zero] at s0
      rw [HAK.out] at s0 s1 s2 s3 s4 s5
      go_wp2_with (fail)
      refine (does31_any A 2 5 o sA a _ HRA.out HLl.out (by omega) HSA.out hok.out (by omega)).mono ?_
      rintro e w5 ⟨rfl, hRA5, hX5⟩
      have HQ5 := Lib.hid (HQ.out.qx hX5 HAw.out)
      have HRA5 := Lib.hid hRA5
      have HO5 := Lib.hid (own_qx HO.out hX5 HAC.out)
      have HR5 := Lib.hid (own_qx HR.out hX5 HAC.out)
      have HSA5 := Lib.hid (does_sane (t := 2) (k := 5) (o := o) a HSA.out)
      have HL5 := Lib.hid (show (doesT 2 5 o sA a).length = 8 by rw [does_len, HLl.out])
      have hnrl : rv.length = nr := by have := HR.out.1; simpa using this
      clear hRA5 hX5 HQ HRA HR s0 s1 s2 s3 s4 s5
      have s0 := own_ac HO5.out (by omega) k hka 0 (by omega) _ rfl
      have s1 := own_ac HO5.out (by omega) k hka 1 (by omega) _ rfl
      have s2 := own_ac HO5.out (by omega) k hka 2 (by omega) _ rfl
      have s3 := own_ac HO5.out (by omega) k hka 3 (by omega) _ rfl
      have s4 := own_ac HO5.out (by omega) k hka 4 (by omega) _ rfl
      have s5 := own_ac HO5.out (by omega) k hka 5 (by omega) _ rfl
      rw [Nat.add_zero] at s0
      rw [HAK.out] at s0 s1 s2 s3 s4 s5
      by_cases hyes : doesE 2 5 o sA a = 0 ∧ a.act = 1
      · obtain ⟨hE, hA1⟩ := hyes
        obtain ⟨p0, p1, hrf, hri, hfl⟩ := does_yes (t := 2) (k := 5) (o := o) (sts := sA) a 5 rfl (by rw [HLl.out]; decide) hE hA1
        obtain ⟨pn, hpn⟩ := Int.eq_ofNat_of_zero_le p0
        have hp5 : pn < 5 := by omega
        have hhas : hasL rv a.p = false := by rw [hpn, HRV.out pn hp5, ← hpn, hrf]
        have HHAS := Lib.hid hhas
        have HRV5 := Lib.hid (show ∀ i : Nat, i < 5 → hasL (rv ++ [a.p]) i = (getS (doesT 2 5 o sA a) i).rev from fun i hi => by
          rw [hasL_snoc, HRV.out i hi, hri i]
          by_cases h : (i : Int) = a.p
          · rw [if_pos h, h]; simp
          · rw [if_neg h]; simp [h])
        have HC5 := Lib.hid (show (faultL ((doesT 2 5 o sA a).take 5)).length + (rv ++ [a.p]).length = 5 by
          have := HCNT.out
          rw [List.length_append]
          simp
          omega)
        rw [hE]
        rw [hA1] at s0
        clear hE hA1 p0 p1 hrf hri hfl hpn hp5 hhas
        go_wp2_with (fail)
        refine (has_any _ _ _ rv a.p _ (Sl.of_own HR5.out)).mono ?_
        rintro e w6 ⟨rfl, hq6⟩
        rw [HHAS.out]
        have HQ6 := Lib.hid (HQ5.out.trans hq6)
        have HRA6 := Lib.hid (Box.q HRA5.out hq6)
        have HO6 := Lib.hid (own_q HO5.out hq6)
        have HR6 := Lib.hid (own_q HR5.out hq6)
        have HB6 := Lib.hid (show C ≤ w6.heap.size from by
          obtain ⟨g', _, h1, h2⟩ := own_addr1 HO6.out (by omega)
          omega)
        clear hq6 s0 s1 s2 s3 s4 s5 HQ5 HRA5 HO5 HR5
        have s0 := own_ac HO6.out (by omega) k hka 0 (by omega) _ rfl
        have s1 := own_ac HO6.out (by omega) k hka 1 (by omega) _ rfl
        have s2 := own_ac HO6.out (by omega) k hka 2 (by omega) _ rfl
        have s3 := own_ac HO6.out (by omega) k hka 3 (by omega) _ rfl
        have s4 := own_ac HO6.out (by omega) k hka 4 (by omega) _ rfl
        have s5 := own_ac HO6.out (by omega) k hka 5 (by omega) _ rfl
        rw [Nat.add_zero] at s0
        rw [HAK.out] at s0 s1 s2 s3 s4 s5
        go_wp2_with (at_builtin; refine append_two rfl _ _ 30 rfl C 3 i0 _ 1 8 Try.underlying30 HI.out hz0 hz1 hz2 rfl (by decide) _ nr _ rfl HR6.out 1 _ rfl [.int .i64 a.p] rfl rfl (by simp [Value.oneCell']) (by omega) (by decide) HB6.out ?_; intro g7 cap7 w7 hown7 hq7 hk7)
        have HRA7 := Lib.hid (Box.low HRA6.out HAC.out HB6.out hq7 (low_size hq7 HB6.out))
        have HQ7 := Lib.hid (hq7 w HQ6.out (by have := HAw.out; have := HAC.out; omega))
        have HO7 := Lib.hid (hk7.own (by decide) HO6.out)
        have HR7 := Lib.hid (show w7.ownsRow C 3 1 (.slice (some ⟨g7, 0, none⟩) (nr + 1) cap7) (nr + 1) ((rv ++ [a.p]).map (Value.int .i64)) by rw [List.map_append]; exact hown7)
        clear hq7 hk7 hown7
        go_wp2_with (fail)
        go_roundw
        case rel => exact ⟨k + 1, nr + 1, cap7, _, _, _, rv ++ [a.p], by omega, by go_num, rfl, by omega, HQ7.out, HRA7.out, HO7.out, HR7.out, HL5.out, HSA5.out, HRV5.out, HC5.out⟩
        case measure => simp [intOf]; omega
      · obtain ⟨hr5, hf5⟩ := does_no (t := 2) (k := 5) (o := o) (sts := sA) a 5 rfl (by rw [HLl.out]; decide) HSA.out hyes
        have HRV5 := Lib.hid (show ∀ i : Nat, i < 5 → hasL rv i = (getS (doesT 2 5 o sA a) i).rev from fun i hi => by rw [HRV.out i hi, hr5 i])
        have HC5 := Lib.hid (show (faultL ((doesT 2 5 o sA a).take 5)).length + rv.length = 5 by rw [hf5]; exact HCNT.out)
        clear hr5 hf5
        by_cases hE : doesE 2 5 o sA a = 0
        · have hA1 : a.act ≠ 1 := fun h => hyes ⟨hE, h⟩
          have b1 : (a.act == 1) = false := by simpa using hA1
          rw [hE]
          clear hE hA1 hyes
          go_wp2_with (fail)
          go_roundw
          case rel => exact ⟨k + 1, nr, cr, ar, _, _, rv, by omega, by go_num, rfl, by omega, HQ5.out, HRA5.out, HO5.out, HR5.out, HL5.out, HSA5.out, HRV5.out, HC5.out⟩
          case measure => simp [intOf]; omega
        · have b1 : (doesE 2 5 o sA a == 0) = false := by simpa using hE
          clear hyes hE
          go_wp2_with (fail)
          go_roundw
          case rel => exact ⟨k + 1, nr, cr, ar, _, _, rv, by omega, by go_num, rfl, by omega, HQ5.out, HRA5.out, HO5.out, HR5.out, HL5.out, HSA5.out, HRV5.out, HC5.out⟩
          case measure => simp [intOf]; omega
    · have hnrl : rv.length = nr := by have := HR.out.1; simpa using this
      clear hm24 HOK
      go_wp2_with (fail)
      refine (inputs_any a2 len2 cap2 5 zk _ (S2.out.q HQ.out) R2.out (by omega)).mono ?_
      rintro e w5 ⟨a5, cap5, rfl, hown5, hq5⟩
      have HK := Lib.hid (Sl.of_own hown5)
      have HKC := Lib.hid (codesOf_code (zk.take 5))
      have HKL := Lib.hid (show (codesOf (zk.take 5)).length = min len2 5 by
        have := S2.out.1
        simp at this
        rw [codesOf_len, List.length_take, this, Nat.min_comm])
      have hnk : min len2 5 ≤ 5 := Nat.min_le_right _ _
      have HQ5 := Lib.hid (HQ.out.trans hq5)
      have HRA5 := Lib.hid (Box.q HRA.out hq5)
      have HR5 := Lib.hid ((Sl.of_own HR.out).q hq5)
      generalize codesOf (zk.take 5) = known at *
      generalize min len2 5 = nk at *
      clear hown5 hq5 HQ HRA HR HO
      go_wp2_with (fail)
      refine (crResult_any A 2 5 o sA _ _ _ known _ HRA5.out HLl.out (by omega) HK.out HKC.out).mono ?_
      rintro e w6 ⟨b1, c1, b2, c2, rfl, o1, o2, hq6⟩
      have hl1 : (resL (sA.take 5) known).length = 5 := by rw [resL_len, List.length_take, HLl.out]; rfl
      rw [hl1] at o1 ⊢
      have X1 := Lib.hid (Sl.of_own o1)
      have F1 := Lib.hid (Sl.of_own o2)
      have HQ6 := Lib.hid (HQ5.out.trans hq6)
      have HK6 := Lib.hid (HK.out.q hq6)
      have HR6 := Lib.hid (HR5.out.q hq6)
      have hcnt : ((faultL (sA.take 5)).length : Int) + (nr : Int) = 5 := by have := HCNT.out; omega
      have HFH := Lib.hid (show ∀ i : Nat, i < 5 → hasL (faultL (sA.take 5)) i = !(getS sA i).rev from fun i hi => by
        have := faultL_has (sA.take 5) i (by rw [List.length_take, HLl.out]; omega)
        rwa [getS_take _ _ _ hi] at this)
      have HRG := Lib.hid (show ∀ i : Nat, i < 5 → (resL (sA.take 5) known)[i]? = some (resC (getS sA i) known i) from fun i hi => by
        have := resL_get (sA.take 5) known i (by rw [List.length_take, HLl.out]; omega)
        rwa [getS_take _ _ _ hi] at this)
      have hfl5 : (faultL (sA.take 5)).length ≤ 5 := by omega
      generalize resL (sA.take 5) known = rA at *
      generalize faultL (sA.take 5) = fA at *
      generalize hfn : fA.length = nf at *
      clear o1 o2 hq6 HQ5 HRA5 HK HR5 HCNT hfn hnrl
      go_wp2_with (fail)
      go_loopw [12] (fun i wr => ∃ k : Nat, k ≤ 5 ∧ i = .int .i64 k ∧ Q w6 wr) (fun i _ => 5 - (intOf i).toNat)
      case atStart => exact ⟨0, by omega, rfl, Q.refl _⟩
      case round =>
        obtain ⟨k, hk5, rfl, hq⟩ := hrel
        by_cases h5 : k < 5
        · have h5' : (k : Int) < 5 := by omega
          have HRX0 := HRG.out k h5
          generalize hx : resC (getS sA k) known k = x at *
          have HX := Lib.hid hx
          have HRX := Lib.hid HRX0
          clear hx HRX0
          cases hrev : (getS sA k).rev with
          | true =>
            have hat : (!(getS sA k).rev) = false := by rw [hrev]; rfl
            have HFk := Lib.hid ((HFH.out k (by omega)).trans hat)
            have HRk := Lib.hid ((HRV.out k (by omega)).trans hrev)
            have HXC := Lib.hid (show 0 ≤ x ∧ x < 36 by rw [← HX.out]; unfold resC; rw [if_pos hrev]; exact HSA.out.code _ (by rw [getS_nat sA k (by rw [HLl.out]; omega)]; exact List.getElem_mem _))
            clear hat hrev
            go_wp2_with (fail)
            refine (has_any _ _ _ fA k _ (F1.out.q hq)).mono ?_
            rintro e w7 ⟨rfl, hq7⟩
            rw [HFk.out]
            have HQ7 := Lib.hid (hq.trans hq7)
            clear hq7
            go_wp2_with (fail)
            refine (has_any _ _ _ rv k _ (HR6.out.q HQ7.out)).mono ?_
            rintro e w8 ⟨rfl, hq8⟩
            rw [HRk.out]
            have HQ8 := Lib.hid (HQ7.out.trans hq8)
            have HBI := Lib.hid (Box.new w8 [.int .i64 0, .int .i64 0, .int .i64 0] 25)
            have HQI := Lib.hid (HQ8.out.alloc (.cells #[.int .i64 0, .int .i64 0, .int .i64 0] 25))
            have HWI := Lib.hid HQ8.out.size
            clear hq8 hq
            by_cases hkn : k < nk
            · have hkn' : (k : Int) < nk := by omega
              have hzl : k < known.length := by rw [HKL.out]; exact hkn
              obtain ⟨gk, ok, rfl, hgk, hck⟩ := (HK6.out.q HQI.out).pos (by omega)
              obtain ⟨y0, y1, y2⟩ := inCells_get known k hzl
              have k0 : (w8.alloc (.cells #[.int .i64 0, .int .i64 0, .int .i64 0] 25)).cell? ⟨gk, ok + k * 3, none⟩ = some _ := hck _ _ y0
              have k1 : (w8.alloc (.cells #[.int .i64 0, .int .i64 0, .int .i64 0] 25)).cell? ⟨gk, ok + k * 3 + 1, none⟩ = some _ := hck _ _ y1
              have k2 : (w8.alloc (.cells #[.int .i64 0, .int .i64 0, .int .i64 0] 25)).cell? ⟨gk, ok + k * 3 + 2, none⟩ = some _ := hck _ _ y2
              have hcc := HKC.out _ (List.getElem_mem hzl)
              generalize known[k] = c at *
              clear y0 y1 y2 hck hzl hgk
              go_upto_region 26 with fail
              have HQW' := Lib.hid (HQ8.out.alloc (.cells #[.int .i64 (c % 3 - 1), .int .i64 (c / 3 % 3 - 1), .int .i64 (c / 9)] 25))
              have HBW' : Hid (Box (w8.alloc (.cells #[.int .i64 (c % 3 - 1), .int .i64 (c / 3 % 3 - 1), .int .i64 (c / 9)] 25)) w8.heap.size [.int .i64 (c % 3 - 1), .int .i64 (c / 3 % 3 - 1), .int .i64 (c / 9)]) := Lib.hid (Box.new w8 [.int .i64 (c % 3 - 1), .int .i64 (c / 3 % 3 - 1), .int .i64 (c / 9)] 25)
              clear HBI HQI k0 k1 k2
              generalize w8.alloc (.cells #[.int .i64 (c % 3 - 1), .int .i64 (c / 3 % 3 - 1), .int .i64 (c / 9)] 25) = W at *
              have HQW := Lib.hid HQW'.out
              have HBW := Lib.hid HBW'.out
              clear HQW' HBW'
              have HQD := Lib.hid HQW.out.drew
              have hbd := Box.q HBW.out (Q.refl W).drew
              refine wp_region_mix [(0, true), (1, true), (2, true), (3, true), (4, true), (5, true), (6, true), (7, false), (8, true), (9, true), (10, true), (11, true), (12, true), (13, true), (14, true), (15, false), (16, true), (17, true)] (by kernel_rfl) (by kernel_rfl) (fun _ _ _ _ _ h => h) ?_
              generalize W.drew = V at *
              obtain ⟨d0, d1, d2⟩ := Box.soft3 hbd
              obtain ⟨gx, ox, rfl, hgx, hcx⟩ := (X1.out.q HQD.out).pos (by omega)
              have hrA := (List.getElem?_eq_some_iff.1 HRX.out).1
              have ex := (List.getElem?_eq_some_iff.1 HRX.out).2
              obtain ⟨x0, x1, x2⟩ := inCells_get rA k hrA
              rw [ex] at x0 x1 x2
              have s0 : ∀ z : After V, z.w.cell? ⟨gx, ox + k * 3, none⟩ = some (.int .i64 (x % 3 - 1)) := fun z => (z.q.cells.1 _ _ hgx).trans (hcx _ _ x0)
              have s1 : ∀ z : After V, z.w.cell? ⟨gx, ox + k * 3 + 1, none⟩ = some (.int .i64 (x / 3 % 3 - 1)) := fun z => (z.q.cells.1 _ _ hgx).trans (hcx _ _ x1)
              have s2 : ∀ z : After V, z.w.cell? ⟨gx, ox + k * 3 + 2, none⟩ = some (.int .i64 (x / 9)) := fun z => (z.q.cells.1 _ _ hgx).trans (hcx _ _ x2)
              have HEV := Lib.hid (errV_code x HXC.out.1 HXC.out.2)
              clear x0 x1 x2 ex hrA hcx hgx hbd
              repeat (refine mix_val rfl rfl ?_; go_big_quiet_step (fail); refine wpQuiet_nil ?_)
              refine mix_pass rfl rfl ?_; simp only [Act.put, List.setIfInBounds_toArray, List.set_cons_succ, List.set_cons_zero]
              repeat (refine mix_val rfl rfl ?_; go_big_quiet_step (fail); refine wpQuiet_nil ?_)
              refine mix_run rfl rfl ?_
              intro K hK
              go_wp2_with (fail)
              refine (iValidate_any _ _ _ _).mono ?_
              rintro e w9 ⟨rfl, hq9⟩
              rw [HEV.out]
              refine hK _ _ hq9 ?_
              clear hK K
              have HQ9 := Lib.hid (HQD.out.trans hq9)
              clear hq9
              repeat (refine mix_val rfl rfl ?_; go_big_quiet_step (fail); refine wpQuiet_nil ?_)
              refine mix_end ?_
              go_wp2_with (fail)
              go_roundw
              case rel => exact ⟨k + 1, by omega, by go_num, HQ9.out⟩
              case measure => simp [intOf]; omega
            · have hkn' : ¬ (k : Int) < nk := by omega
              go_upto_region 26 with fail
              have HQW' := Lib.hid (HQ8.out.alloc (.cells #[.int .i64 0, .int .i64 0, .int .i64 0] 25))
              have HBW' : Hid (Box (w8.alloc (.cells #[.int .i64 0, .int .i64 0, .int .i64 0] 25)) w8.heap.size [.int .i64 0, .int .i64 0, .int .i64 0]) := Lib.hid (Box.new w8 [.int .i64 0, .int .i64 0, .int .i64 0] 25)
              clear HBI HQI
              generalize w8.alloc (.cells #[.int .i64 0, .int .i64 0, .int .i64 0] 25) = W at *
              have HQW := Lib.hid HQW'.out
              have HBW := Lib.hid HBW'.out
              clear HQW' HBW'
              have HQD := Lib.hid HQW.out.drew
              have hbd := Box.q HBW.out (Q.refl W).drew
              refine wp_region_mix [(0, true), (1, true), (2, true), (3, true), (4, true), (5, true), (6, true), (7, false), (8, true), (9, true), (10, true), (11, true), (12, true), (13, true), (14, true), (15, false), (16, true), (17, true)] (by kernel_rfl) (by kernel_rfl) (fun _ _ _ _ _ h => h) ?_
              generalize W.drew = V at *
              obtain ⟨d0, d1, d2⟩ := Box.soft3 hbd
              obtain ⟨gx, ox, rfl, hgx, hcx⟩ := (X1.out.q HQD.out).pos (by omega)
              have hrA := (List.getElem?_eq_some_iff.1 HRX.out).1
              have ex := (List.getElem?_eq_some_iff.1 HRX.out).2
              obtain ⟨x0, x1, x2⟩ := inCells_get rA k hrA
              rw [ex] at x0 x1 x2
              have s0 : ∀ z : After V, z.w.cell? ⟨gx, ox + k * 3, none⟩ = some (.int .i64 (x % 3 - 1)) := fun z => (z.q.cells.1 _ _ hgx).trans (hcx _ _ x0)
              have s1 : ∀ z : After V, z.w.cell? ⟨gx, ox + k * 3 + 1, none⟩ = some (.int .i64 (x / 3 % 3 - 1)) := fun z => (z.q.cells.1 _ _ hgx).trans (hcx _ _ x1)
              have s2 : ∀ z : After V, z.w.cell? ⟨gx, ox + k * 3 + 2, none⟩ = some (.int .i64 (x / 9)) := fun z => (z.q.cells.1 _ _ hgx).trans (hcx _ _ x2)
              have HEV := Lib.hid (errV_code x HXC.out.1 HXC.out.2)
              clear x0 x1 x2 ex hrA hcx hgx hbd
              repeat (refine mix_val rfl rfl ?_; go_big_quiet_step (fail); refine wpQuiet_nil ?_)
              refine mix_pass rfl rfl ?_; simp only [Act.put, List.setIfInBounds_toArray, List.set_cons_succ, List.set_cons_zero]
              repeat (refine mix_val rfl rfl ?_; go_big_quiet_step (fail); refine wpQuiet_nil ?_)
              refine mix_run rfl rfl ?_
              intro K hK
              go_wp2_with (fail)
              refine (iValidate_any _ _ _ _).mono ?_
              rintro e w9 ⟨rfl, hq9⟩
              rw [HEV.out]
              refine hK _ _ hq9 ?_
              clear hK K
              have HQ9 := Lib.hid (HQD.out.trans hq9)
              clear hq9
              repeat (refine mix_val rfl rfl ?_; go_big_quiet_step (fail); refine wpQuiet_nil ?_)
              refine mix_end ?_
              go_wp2_with (fail)
              go_roundw
              case rel => exact ⟨k + 1, by omega, by go_num, HQ9.out⟩
              case measure => simp [intOf]; omega
          | false =>
            have hat : (!(getS sA k).rev) = true := by rw [hrev]; rfl
            have HFk := Lib.hid ((HFH.out k (by omega)).trans hat)
            have HRk := Lib.hid ((HRV.out k (by omega)).trans hrev)
            have HXG := Lib.hid (show x = (known.getD k 4) % 9 by rw [← HX.out]; unfold resC; rw [if_neg (by rw [hrev]; decide)])
            clear hat hrev
            go_wp2_with (fail)
            refine (has_any _ _ _ fA k _ (F1.out.q hq)).mono ?_
            rintro e w7 ⟨rfl, hq7⟩
            rw [HFk.out]
            have HQ7 := Lib.hid (hq.trans hq7)
            clear hq7
            go_wp2_with (fail)
            refine (has_any _ _ _ rv k _ (HR6.out.q HQ7.out)).mono ?_
            rintro e w8 ⟨rfl, hq8⟩
            rw [HRk.out]
            have HQ8 := Lib.hid (HQ7.out.trans hq8)
            have HBI := Lib.hid (Box.new w8 [.int .i64 0, .int .i64 0, .int .i64 0] 25)
            have HQI := Lib.hid (HQ8.out.alloc (.cells #[.int .i64 0, .int .i64 0, .int .i64 0] 25))
            have HWI := Lib.hid HQ8.out.size
            clear hq8 hq
            by_cases hkn : k < nk
            · have hkn' : (k : Int) < nk := by omega
              have hzl : k < known.length := by rw [HKL.out]; exact hkn
              obtain ⟨gk, ok, rfl, hgk, hck⟩ := (HK6.out.q HQI.out).pos (by omega)
              obtain ⟨y0, y1, y2⟩ := inCells_get known k hzl
              have k0 : (w8.alloc (.cells #[.int .i64 0, .int .i64 0, .int .i64 0] 25)).cell? ⟨gk, ok + k * 3, none⟩ = some _ := hck _ _ y0
              have k1 : (w8.alloc (.cells #[.int .i64 0, .int .i64 0, .int .i64 0] 25)).cell? ⟨gk, ok + k * 3 + 1, none⟩ = some _ := hck _ _ y1
              have k2 : (w8.alloc (.cells #[.int .i64 0, .int .i64 0, .int .i64 0] 25)).cell? ⟨gk, ok + k * 3 + 2, none⟩ = some _ := hck _ _ y2
              have hcc := HKC.out _ (List.getElem_mem hzl)
              have HXE := Lib.hid (show x = known[k] % 9 by rw [HXG.out]; simp [List.getD, hzl])
              generalize known[k] = c at *
              clear y0 y1 y2 hck hzl hgk
              go_upto_region 26 with fail
              have HQW' := Lib.hid (HQ8.out.alloc (.cells #[.int .i64 (c % 3 - 1), .int .i64 (c / 3 % 3 - 1), .int .i64 (c / 9)] 25))
              have HBW' : Hid (Box (w8.alloc (.cells #[.int .i64 (c % 3 - 1), .int .i64 (c / 3 % 3 - 1), .int .i64 (c / 9)] 25)) w8.heap.size [.int .i64 (c % 3 - 1), .int .i64 (c / 3 % 3 - 1), .int .i64 (c / 9)]) := Lib.hid (Box.new w8 [.int .i64 (c % 3 - 1), .int .i64 (c / 3 % 3 - 1), .int .i64 (c / 9)] 25)
              clear HBI HQI k0 k1 k2
              generalize w8.alloc (.cells #[.int .i64 (c % 3 - 1), .int .i64 (c / 3 % 3 - 1), .int .i64 (c / 9)] 25) = W at *
              have HQW := Lib.hid HQW'.out
              have HBW := Lib.hid HBW'.out
              clear HQW' HBW'
              have HQD := Lib.hid HQW.out.drew
              have hbd := Box.q HBW.out (Q.refl W).drew
              refine wp_region_mix [(0, true), (1, true), (2, true), (3, true), (4, true), (5, true), (6, true), (7, false), (8, true), (9, true), (10, true), (11, true), (12, true), (13, true), (14, true), (15, false), (16, true), (17, true)] (by kernel_rfl) (by kernel_rfl) (fun _ _ _ _ _ h => h) ?_
              generalize W.drew = V at *
              obtain ⟨d0, d1, d2⟩ := Box.soft3 hbd
              obtain ⟨gx, ox, rfl, hgx, hcx⟩ := (X1.out.q HQD.out).pos (by omega)
              have hrA := (List.getElem?_eq_some_iff.1 HRX.out).1
              have ex := (List.getElem?_eq_some_iff.1 HRX.out).2
              obtain ⟨x0, x1, x2⟩ := inCells_get rA k hrA
              rw [ex] at x0 x1 x2
              rw [show x % 3 - 1 = c % 3 - 1 by have := HXE.out; omega] at x0
              rw [show x / 3 % 3 - 1 = c / 3 % 3 - 1 by have := HXE.out; omega] at x1
              rw [show x / 9 = 0 by have := HXE.out; omega] at x2
              have s0 : ∀ z : After V, z.w.cell? ⟨gx, ox + k * 3, none⟩ = some (.int .i64 (c % 3 - 1)) := fun z => (z.q.cells.1 _ _ hgx).trans (hcx _ _ x0)
              have s1 : ∀ z : After V, z.w.cell? ⟨gx, ox + k * 3 + 1, none⟩ = some (.int .i64 (c / 3 % 3 - 1)) := fun z => (z.q.cells.1 _ _ hgx).trans (hcx _ _ x1)
              have s2 : ∀ z : After V, z.w.cell? ⟨gx, ox + k * 3 + 2, none⟩ = some (.int .i64 0) := fun z => (z.q.cells.1 _ _ hgx).trans (hcx _ _ x2)
              have HEV := Lib.hid (show errV (c % 3 - 1) (c / 3 % 3 - 1) 0 = 0 by
                have := errV_code (c % 9) (by omega) (by omega)
                rwa [show c % 9 % 3 = c % 3 by omega, show c % 9 / 3 % 3 = c / 3 % 3 by omega, show c % 9 / 9 = 0 by omega] at this)
              clear x0 x1 x2 ex hrA hcx hgx hbd
              repeat (refine mix_val rfl rfl ?_; go_big_quiet_step (fail); refine wpQuiet_nil ?_)
              refine mix_run rfl rfl ?_
              intro K hK
              go_wp2_with (fail)
              refine (iPredict_any _ _ _ _).mono ?_
              rintro e w8 ⟨rfl, hq8⟩
              refine hK _ _ hq8 ?_
              clear hK K
              have HQD8 := Lib.hid (HQD.out.trans hq8)
              have s0' : ∀ z : After w8, z.w.cell? ⟨gx, ox + k * 3, none⟩ = some (.int .i64 (c % 3 - 1)) := fun z => s0 ⟨z.w, hq8.trans z.q⟩
              have s1' : ∀ z : After w8, z.w.cell? ⟨gx, ox + k * 3 + 1, none⟩ = some (.int .i64 (c / 3 % 3 - 1)) := fun z => s1 ⟨z.w, hq8.trans z.q⟩
              have s2' : ∀ z : After w8, z.w.cell? ⟨gx, ox + k * 3 + 2, none⟩ = some (.int .i64 0) := fun z => s2 ⟨z.w, hq8.trans z.q⟩
              clear s0 s1 s2 d0 d1 d2 hq8
              repeat (refine mix_val rfl rfl ?_; go_big_quiet_step (fail); refine wpQuiet_nil ?_)
              refine mix_run rfl rfl ?_
              intro K hK
              go_wp2_with (fail)
              refine (iValidate_any _ _ _ _).mono ?_
              rintro e w9 ⟨rfl, hq9⟩
              rw [HEV.out]
              refine hK _ _ hq9 ?_
              clear hK K
              have HQ9 := Lib.hid (HQD8.out.trans hq9)
              clear hq9
              repeat (refine mix_val rfl rfl ?_; go_big_quiet_step (fail); refine wpQuiet_nil ?_)
              refine mix_end ?_
              go_wp2_with (fail)
              go_roundw
              case rel => exact ⟨k + 1, by omega, by go_num, HQ9.out⟩
              case measure => simp [intOf]; omega
            · have hkn' : ¬ (k : Int) < nk := by omega
              have HXE := Lib.hid (show x = 4 % 9 by rw [HXG.out]; rw [List.getD, List.getElem?_eq_none (by rw [HKL.out]; omega)]; rfl)
              go_upto_region 26 with fail
              have HQW' := Lib.hid (HQ8.out.alloc (.cells #[.int .i64 0, .int .i64 0, .int .i64 0] 25))
              have HBW' : Hid (Box (w8.alloc (.cells #[.int .i64 0, .int .i64 0, .int .i64 0] 25)) w8.heap.size [.int .i64 0, .int .i64 0, .int .i64 0]) := Lib.hid (Box.new w8 [.int .i64 0, .int .i64 0, .int .i64 0] 25)
              clear HBI HQI
              generalize w8.alloc (.cells #[.int .i64 0, .int .i64 0, .int .i64 0] 25) = W at *
              have HQW := Lib.hid HQW'.out
              have HBW := Lib.hid HBW'.out
              clear HQW' HBW'
              have HQD := Lib.hid HQW.out.drew
              have hbd := Box.q HBW.out (Q.refl W).drew
              refine wp_region_mix [(0, true), (1, true), (2, true), (3, true), (4, true), (5, true), (6, true), (7, false), (8, true), (9, true), (10, true), (11, true), (12, true), (13, true), (14, true), (15, false), (16, true), (17, true)] (by kernel_rfl) (by kernel_rfl) (fun _ _ _ _ _ h => h) ?_
              generalize W.drew = V at *
              obtain ⟨d0, d1, d2⟩ := Box.soft3 hbd
              obtain ⟨gx, ox, rfl, hgx, hcx⟩ := (X1.out.q HQD.out).pos (by omega)
              have hrA := (List.getElem?_eq_some_iff.1 HRX.out).1
              have ex := (List.getElem?_eq_some_iff.1 HRX.out).2
              obtain ⟨x0, x1, x2⟩ := inCells_get rA k hrA
              rw [ex] at x0 x1 x2
              rw [show x % 3 - 1 = 0 by have := HXE.out; omega] at x0
              rw [show x / 3 % 3 - 1 = 0 by have := HXE.out; omega] at x1
              rw [show x / 9 = 0 by have := HXE.out; omega] at x2
              have s0 : ∀ z : After V, z.w.cell? ⟨gx, ox + k * 3, none⟩ = some (.int .i64 (0)) := fun z => (z.q.cells.1 _ _ hgx).trans (hcx _ _ x0)
              have s1 : ∀ z : After V, z.w.cell? ⟨gx, ox + k * 3 + 1, none⟩ = some (.int .i64 (0)) := fun z => (z.q.cells.1 _ _ hgx).trans (hcx _ _ x1)
              have s2 : ∀ z : After V, z.w.cell? ⟨gx, ox + k * 3 + 2, none⟩ = some (.int .i64 0) := fun z => (z.q.cells.1 _ _ hgx).trans (hcx _ _ x2)
              have HEV := Lib.hid (show errV 0 0 0 = 0 from rfl)
              clear x0 x1 x2 ex hrA hcx hgx hbd
              repeat (refine mix_val rfl rfl ?_; go_big_quiet_step (fail); refine wpQuiet_nil ?_)
              refine mix_run rfl rfl ?_
              intro K hK
              go_wp2_with (fail)
              refine (iPredict_any _ _ _ _).mono ?_
              rintro e w8 ⟨rfl, hq8⟩
              refine hK _ _ hq8 ?_
              clear hK K
              have HQD8 := Lib.hid (HQD.out.trans hq8)
              have s0' : ∀ z : After w8, z.w.cell? ⟨gx, ox + k * 3, none⟩ = some (.int .i64 (0)) := fun z => s0 ⟨z.w, hq8.trans z.q⟩
              have s1' : ∀ z : After w8, z.w.cell? ⟨gx, ox + k * 3 + 1, none⟩ = some (.int .i64 (0)) := fun z => s1 ⟨z.w, hq8.trans z.q⟩
              have s2' : ∀ z : After w8, z.w.cell? ⟨gx, ox + k * 3 + 2, none⟩ = some (.int .i64 0) := fun z => s2 ⟨z.w, hq8.trans z.q⟩
              clear s0 s1 s2 d0 d1 d2 hq8
              repeat (refine mix_val rfl rfl ?_; go_big_quiet_step (fail); refine wpQuiet_nil ?_)
              refine mix_run rfl rfl ?_
              intro K hK
              go_wp2_with (fail)
              refine (iValidate_any _ _ _ _).mono ?_
              rintro e w9 ⟨rfl, hq9⟩
              rw [HEV.out]
              refine hK _ _ hq9 ?_
              clear hK K
              have HQ9 := Lib.hid (HQD8.out.trans hq9)
              clear hq9
              repeat (refine mix_val rfl rfl ?_; go_big_quiet_step (fail); refine wpQuiet_nil ?_)
              refine mix_end ?_
              go_wp2_with (fail)
              go_roundw
              case rel => exact ⟨k + 1, by omega, by go_num, HQ9.out⟩
              case measure => simp [intOf]; omega
        · have hk5' : ¬ (k : Int) < 5 := by omega
          have HQ7 := Lib.hid (HQ6.out.trans hq)
          clear hq
          go_wp2_with (fail)
          refine (lives31_any _).mono ?_
          rintro e w8 ⟨rfl, hq8⟩
          have HQ8 := Lib.hid (HQ7.out.trans hq8)
          clear hq8
          go_wp2
          go_ret
          exact ⟨rfl, HQ8.out⟩
end Go.Proofs.Ytcpicifnadoeoaa
