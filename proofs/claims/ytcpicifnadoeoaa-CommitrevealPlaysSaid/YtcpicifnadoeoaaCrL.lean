/- Contract: the example of commitreveal. -/
import Derived.Test.YtcpicifnadoeoaaCrD
namespace Go.Proofs.Ytcpicifnadoeoaa
open Go Go.RowKit Go.BigFrame

theorem sane0 (n : Nat) : Sane (List.replicate n st0) :=
  ⟨fun s h _ => (List.mem_replicate.1 h).2, fun s h => by rw [(List.mem_replicate.1 h).2]; decide, fun s h => by rw [(List.mem_replicate.1 h).2]; exact zero_u64⟩
theorem Sane.set {sts : List St} (h : Sane sts) (i : Nat) (s : St) (h1 : s.com = false → s = st0) (h2 : 0 ≤ s.inn ∧ s.inn < 36) (h3 : U64 s.c) : Sane (sts.set i s) := by
  refine ⟨fun x hx hc => ?_, fun x hx => ?_, fun x hx => ?_⟩ <;> rcases List.mem_or_eq_of_mem_set hx with hx | rfl
  · exact h.fresh x hx hc
  · exact h1 hc
  · exact h.code x hx
  · exact h2
  · exact h.hash x hx
  · exact h3
theorem sane_commit {k p c : Int} {o : Bool} {sts : List St} (h : Sane sts) (hc : U64 c) : Sane (commitT k o sts p c) := by
  unfold commitT
  split
  · exact h.set _ _ (fun e => by cases e) ⟨by show (0 : Int) ≤ 4; decide, by show (4 : Int) < 36; decide⟩ hc
  · exact h
theorem getS_hash {sts : List St} (h : Sane sts) (p : Int) : U64 (getS sts p).c := by
  unfold getS
  rw [List.getD]
  cases e : sts[p.toNat]? with
  | none => exact zero_u64
  | some s => exact h.hash s (List.mem_of_getElem? e)
theorem sane_reveal {t k p a b f n : Int} {o : Bool} {sts : List St} (h : Sane sts) : Sane (revealT t k o sts p a b f n) := by
  unfold revealT
  split
  · rename_i he
    have hv : errV a b f = 0 := by
      unfold revealE at he
      rcases errV_bit a b f with e | e
      · exact e
      · exfalso
        rw [e] at he
        revert he
        split
        · decide
        · split
          · decide
          · split
            · decide
            · split
              · decide
              · rw [if_neg (by decide)]; decide
    obtain ⟨x, h0, h1, rfl, rfl, rfl⟩ := valid_code hv
    rw [codeOf_code]
    exact h.set _ _ (fun e => by cases e) ⟨h0, h1⟩ (getS_hash h p)
  · exact h
theorem commit_len (k : Int) (o : Bool) (sts : List St) (p c : Int) : (commitT k o sts p c).length = sts.length := by unfold commitT; split <;> simp
theorem reveal_len (t k : Int) (o : Bool) (sts : List St) (p a b f n : Int) : (revealT t k o sts p a b f n).length = sts.length := by unfold revealT; split <;> simp
theorem sl_inputs (w : World) (cs : List Int) (t : TypeId) (n : Nat) (hn : cs.length = n) (hm : n ≤ 1000) : Sl (w.alloc (.cells (inCells cs).toArray t)) 3 (some ⟨w.heap.size, 0, none⟩) n n (inCells cs) := by
  refine ⟨by rw [inCells_len, hn], by omega, by unfold maxLen; omega, (fun e => by cases e), .inr ⟨_, _, rfl, by simp, fun j u hu => ?_⟩⟩
  have h := World.cell?_alloc_mark w (inCells cs).toArray t (0, 0) j
  rw [Nat.zero_add]
  refine Eq.trans h ?_
  rw [← hu]
  simp

theorem lives31_any (w : World) : Calls Try.prog 13 #[] w fun e w' => e = .returned (.bool true) ∧ Q w w' := by
  go_enter Try.func13, Try.ntmps13
  go_wp2_with (fail)
  refine (crNew_any 2 7 _).mono ?_
  rintro e w1 ⟨rfl, hR, hq⟩
  have HR := Lib.hid hR
  have HQ1 := Lib.hid hq
  generalize hB : w.heap.size = B at *
  have HB := Lib.hid (show w.heap.size ≤ B by omega)
  have HBl := Lib.hid hR.1
  clear hR hq hB
  go_wp2_with (fail)
  have C1 : ∀ w : World, Calls Try.prog 11 #[.int .i64 0, .int .i64 7, .agg #[.int .i64 1, .int .i64 0, .int .i64 2], .int .u64 99] w fun e w' => e = .returned (.int .u64 (comZ 0 7 23 99)) ∧ Q w w' := fun w => crCommitment_any 0 7 23 99 w (by omega) (by omega) (by omega) (by unfold U64 MM; omega)
  have X1 := Lib.hid (comZ_u64 0 7 23 99)
  have Z1 : comZ 0 7 (codeOf 1 0 2) 99 = comZ 0 7 23 99 := rfl
  generalize comZ 0 7 23 99 = c at *
  have HC1 := Lib.hid C1
  have HZ1 := Lib.hid Z1
  clear C1 Z1
  have hlt1 := HBl.out
  have BI := Lib.hid (Box.new w1 [.int .i64 1, .int .i64 0, .int .i64 2] 25)
  have HQ2 := Lib.hid (HQ1.out.alloc (.cells #[.int .i64 1, .int .i64 0, .int .i64 2] 25))
  have HR2 := Lib.hid (Box.q HR.out ((Q.refl w1).alloc (.cells #[.int .i64 1, .int .i64 0, .int .i64 2] 25)))
  refine (HC1.out _).mono ?_
  rintro e w2 ⟨rfl, hq2⟩
  have HQ3 := Lib.hid (HQ2.out.trans hq2)
  have HR3 := Lib.hid (Box.q HR2.out hq2)
  have BI3 := Lib.hid (Box.q BI.out hq2)
  generalize hbi : w1.heap.size = I at *
  have hne : I ≠ B := by omega
  have HNE := Lib.hid hne
  clear hq2 HR HQ1 HQ2 HR2 BI hbi
  go_wp2_with (fail)
  refine (crCommit_any B 7 2 0 c false _ _ HR3.out (by rfl) (by omega) (sane0 8)).mono ?_
  rintro e w3 ⟨rfl, hR3, hX3⟩
  have S1 : commitT 2 false (List.replicate 8 st0) 0 c = (List.replicate 8 st0).set 0 ⟨true, false, c, 4⟩ := rfl
  have E1 : commitE 2 false (List.replicate 8 st0) 0 = 0 := rfl
  rw [S1] at hR3
  rw [E1]
  have HN1 := Lib.hid (show Sane ((List.replicate 8 st0).set 0 ⟨true, false, c, 4⟩) by rw [← S1]; exact sane_commit (sane0 8) X1.out)
  have HL1 := Lib.hid (show ((List.replicate 8 st0).set 0 ⟨true, false, c, 4⟩).length = 8 from rfl)
  have HQ4 := Lib.hid (HQ3.out.qx hX3 HB.out)
  have BI4 := Lib.hid (Box.qx BI3.out hX3 HNE.out)
  have HR4 := Lib.hid hR3
  have E2 := Lib.hid (show revealE 7 2 false ((List.replicate 8 st0).set 0 ⟨true, false, c, 4⟩) 0 1 0 2 99 = 5 from rfl)
  have S2 := Lib.hid (show revealT 7 2 false ((List.replicate 8 st0).set 0 ⟨true, false, c, 4⟩) 0 1 0 2 99 = (List.replicate 8 st0).set 0 ⟨true, false, c, 4⟩ from rfl)
  have E3 := Lib.hid (show revealE 7 2 true ((List.replicate 8 st0).set 0 ⟨true, false, c, 4⟩) 0 1 0 2 99 = 0 by
    have h : revealE 7 2 true ((List.replicate 8 st0).set 0 ⟨true, false, c, 4⟩) 0 1 0 2 99 = if comZ 0 7 (codeOf 1 0 2) 99 = c then 0 else 21 := rfl
    rw [h, if_pos HZ1.out])
  have S3 := Lib.hid (show revealT 7 2 true ((List.replicate 8 st0).set 0 ⟨true, false, c, 4⟩) 0 1 0 2 99 = [⟨true, true, c, 23⟩, st0, st0, st0, st0, st0, st0, st0] by
    have h : revealT 7 2 true ((List.replicate 8 st0).set 0 ⟨true, false, c, 4⟩) 0 1 0 2 99 = if revealE 7 2 true ((List.replicate 8 st0).set 0 ⟨true, false, c, 4⟩) 0 1 0 2 99 = 0 then [⟨true, true, c, 23⟩, st0, st0, st0, st0, st0, st0, st0] else (List.replicate 8 st0).set 0 ⟨true, false, c, 4⟩ := rfl
    rw [h, if_pos E3.out])
  clear hR3 hX3 S1 E1 HQ3 BI3 HR3
  generalize (List.replicate 8 st0).set 0 ⟨true, false, c, 4⟩ = s1 at *
  obtain ⟨_, b0, b1, b2⟩ := Box.here3 BI4.out
  go_wp2_with (fail)
  refine (crReveal_any B 7 2 0 1 0 2 99 false s1 _ HR4.out HL1.out (by omega) HN1.out (by unfold U64 MM; omega) (by omega)).mono ?_
  rintro e w4 ⟨rfl, hR4, hX4⟩
  rw [S2.out] at hR4
  rw [E2.out]
  have HR5 := Lib.hid hR4
  have HQ5 := Lib.hid (HQ4.out.qx hX4 HB.out)
  have BI5 := Lib.hid (Box.qx BI4.out hX4 HNE.out)
  clear hR4 hX4 HR4 HQ4 BI4 b0 b1 b2
  go_wp2_with (fail)
  refine (crClose_any B 7 2 false s1 _ HR5.out).mono ?_
  rintro e w5 ⟨⟨v5, rfl⟩, hR5, hX5⟩
  have HR6 := Lib.hid hR5
  have HQ6 := Lib.hid (HQ5.out.qx hX5 HB.out)
  have BI6 := Lib.hid (Box.qx BI5.out hX5 HNE.out)
  clear hR5 hX5 HR5 HQ5 BI5
  obtain ⟨_, b0, b1, b2⟩ := Box.here3 BI6.out
  go_wp2_with (fail)
  refine (crReveal_any B 7 2 0 1 0 2 99 true s1 _ HR6.out HL1.out (by omega) HN1.out (by unfold U64 MM; omega) (by omega)).mono ?_
  rintro e w6 ⟨rfl, hR6, hX6⟩
  rw [S3.out] at hR6
  rw [E3.out]
  have HR7 := Lib.hid hR6
  have HQ7 := Lib.hid (HQ6.out.qx hX6 HB.out)
  have BI7 := Lib.hid (Box.qx BI6.out hX6 HNE.out)
  clear hR6 hX6 HR6 HQ6 BI6 b0 b1 b2
  go_wp2_with (fail)
  have SL := sl_inputs w6 [4, 34] 25 2 rfl (by omega)
  refine (crResult_any B 7 2 true _ _ _ _ [4, 34] _ (Box.q HR7.out ((Q.refl w6).alloc _)) (by rfl) (by omega) SL (by decide)).mono ?_
  rintro e w7 ⟨a1, c1, a2, c2, rfl, o1, o2, hq7⟩
  have r1 : resL (List.take 2 [⟨true, true, c, 23⟩, st0, st0, st0, st0, st0, st0, st0]) [4, 34] = [23, 7] := rfl
  have f1 : faultL (List.take 2 [⟨true, true, c, 23⟩, st0, st0, st0, st0, st0, st0, st0]) = [1] := rfl
  rw [r1] at o1 ⊢
  rw [f1] at o2 ⊢
  have T1 := Lib.hid (Sl.of_own o1)
  have T2 := Lib.hid (Sl.of_own o2)
  have hq67 := ((Q.refl w6).alloc (.cells (inCells [4, 34]).toArray 25)).trans hq7
  have HQ8 := Lib.hid (HQ7.out.trans hq67)
  have BI8 := Lib.hid (Box.q BI7.out hq67)
  clear o1 o2 hq7 hq67 r1 f1 SL HR7 HQ7 BI7
  obtain ⟨_, b0, b1, b2⟩ := Box.here3 BI8.out
  go_wp2_with (fail)
  have SL := sl_inputs w7 [23, 7] 25 2 rfl (by omega)
  refine (equal_any _ _ _ 2 _ _ [23, 7] [23, 7] _ (T1.out.q ((Q.refl w7).alloc _)) SL (by decide) (by decide)).mono ?_
  rintro e w8 ⟨rfl, hq8⟩
  have HQ9 := Lib.hid (HQ8.out.trans (((Q.refl w7).alloc _).trans hq8))
  have T3 := Lib.hid (T2.out.q (((Q.refl w7).alloc _).trans hq8))
  rw [show eqB [23, 7] [23, 7] = true from rfl]
  clear hq8 SL HQ8 T2 T1
  go_wp2_with (fail)
  refine (sameInts_any _ _ _ 1 _ _ [1] [1] _ (T3.out.q ((Q.refl w8).alloc _)) (sl_one w8 .i64 1 _)).mono ?_
  rintro e w9 ⟨rfl, hq9⟩
  have HQ10 := Lib.hid (HQ9.out.trans (((Q.refl w8).alloc _).trans hq9))
  rw [show sameL [1] [1] = true from rfl]
  clear hq9
  go_wp2
  go_ret
  exact ⟨rfl, HQ10.out⟩
end Go.Proofs.Ytcpicifnadoeoaa
