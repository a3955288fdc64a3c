/- Every proof of Prove verifies; contract: the law's lives. -/
import Derived.Test.YtcgnihgebifcjaaMkW
namespace Go.Proofs.Ytcgnihgebifcjaa
open Go Go.RowKit Go.BigFrame

theorem up_zero (k : Nat) : up k 0 = k := by unfold up; rw [show P2 0 = 1 from rfl, Nat.div_one]
theorem up_succ (k m : Nat) : up k (m + 1) = up k m / 2 := by unfold up; rw [P2_succ, Nat.mul_comm, Nat.div_div_eq_div_mul]
theorem join_node (cells : List Int) (l k : Nat) : joinZ k (nodeZ cells l k) (nodeZ cells l (sib k)) = nodeZ cells (l + 1) (k / 2) := by
  unfold joinZ
  have hs := sib_eq k
  by_cases h : k % 2 = 1
  · rw [if_pos h, show nodeZ cells (l + 1) (k / 2) = pairZ (nodeZ cells l (2 * (k / 2))) (nodeZ cells l (2 * (k / 2) + 1)) from rfl]
    congr 2
    · omega
    · omega
  · rw [if_neg h, show nodeZ cells (l + 1) (k / 2) = pairZ (nodeZ cells l (2 * (k / 2))) (nodeZ cells l (2 * (k / 2) + 1)) from rfl]
    congr 2
    · omega
    · omega
theorem proofZ_getD (F : Nat → Nat → Int) (h k m : Nat) (hm : m < h) : (proofZ F h k).getD m 0 = F m (sib (up k m)) := by
  rw [proofZ_eq, List.getD_eq_getElem?_getD, List.getElem?_map, List.getElem?_range hm]
  rfl
theorem ver_fold (cells : List Int) (h k : Nat) : ∀ m, m ≤ h → (List.range m).foldl (verF k (proofZ (nodeZ cells) h k)) (nodeZ cells 0 k) = nodeZ cells m (up k m) := by
  intro m
  induction m with
  | zero => intro _; rw [up_zero]; rfl
  | succ m ih =>
    intro hm
    rw [List.range_succ, List.foldl_append, ih (by omega), up_succ]
    show joinZ (up k m) (nodeZ cells m (up k m)) ((proofZ (nodeZ cells) h k).getD m 0) = _
    rw [proofZ_getD _ _ _ _ (by omega), join_node]
theorem up_root {k h : Nat} (hk : k < P2 h) : up k h = 0 := Nat.div_eq_of_lt hk
theorem node0 (cells : List Int) (k : Nat) (v : Int) (hv : cells[k]? = some v) : nodeZ cells 0 k = leafZ cells.length k v := by
  show leafZ cells.length k (cells.getD k 0) = _
  rw [List.getD_eq_getElem?_getD, hv]
  rfl
/-- Prove is complete -/
theorem ver_complete (cells : List Int) (k : Nat) (v : Int) (hk : cells[k]? = some v) (hn : cells.length ≤ 1000) : verZ (rootZ cells) cells.length k v (proofZ (nodeZ cells) (hgt cells.length) k) = true := by
  have hkl := (List.getElem?_eq_some_iff.1 hk).1
  have hP := hgt_P2 cells.length (by omega)
  unfold verZ
  rw [decide_eq_true (show (0 : Int) ≤ k by omega), decide_eq_true (show (k : Int) < cells.length by omega), proofZ_len, decide_eq_true rfl, Int.toNat_natCast, ← node0 cells k v hk, ver_fold cells _ k _ (Nat.le_refl _), up_root (by omega)]
  simp [rootZ]
theorem slLit (w : World) (cs : List Int) (t : TypeId) (n : Nat) (hl : cs.length = n) (hn : n ≤ 1000) : Sl (w.alloc (.cells (cs.map (Value.int .i64)).toArray t)) 1 (some ⟨w.heap.size, 0, none⟩) n n (cs.map (Value.int .i64)) :=
  ⟨by rw [List.length_map]; omega, Nat.le_refl _, by unfold maxLen; omega, (fun e => by cases e), .inr ⟨w.heap.size, 0, rfl, by simp, fun j u hu => by
    have h := World.cell?_alloc_mark w (cs.map (Value.int .i64)).toArray t (0, 0) j
    rw [Nat.zero_add]
    refine Eq.trans h ?_
    simpa using hu⟩⟩
theorem pv2 : proveV [7, 8, 9] 2 = (2, 9) := rfl
theorem pp2 : proveP (nodeZ [7, 8, 9]) [7, 8, 9] 2 = proofZ (nodeZ [7, 8, 9]) (hgt 3) 2 := rfl
theorem pv0 : proveV [7] 0 = (0, 7) := rfl
theorem pp0 : proveP (nodeZ [7]) [7] 0 = proofZ (nodeZ [7]) (hgt 1) 0 := rfl
theorem ver2 : verZ (nodeZ [7, 8, 9] (hgt [(7 : Int), 8, 9].length) 0) 3 2 9 (proofZ (nodeZ [7, 8, 9]) (hgt 3) 2) = true := ver_complete [7, 8, 9] 2 9 rfl (by decide)
theorem root7 : nodeZ [7] (hgt [(7 : Int)].length) 0 = sumZ (strZ leafS) [0, 7] := rfl
theorem leaf_field2 (x y z : Value) (w : World) : (Instr.field 25 (.agg #[x, y, z]) 2).run Try.prog w = .ok z w := by kernel_rfl
theorem hgt1 : hgt 1 = 0 := by decide
theorem hgt3 : hgt 3 = 2 := by decide
theorem i64s_7 : I64s [7] := fun z hz => by rw [List.mem_singleton.1 hz]; omega
theorem i64s_789 : I64s [7, 8, 9] := fun z hz => by
  rcases List.mem_cons.1 hz with rfl | hz
  · omega
  · rcases List.mem_cons.1 hz with rfl | hz
    · omega
    · rw [List.mem_singleton.1 hz]; omega
set_option maxRecDepth 100000 in
set_option maxHeartbeats 4000000 in
theorem lives11_any (w : World) : Calls Try.prog 18 #[] w fun e w' => e = .returned (.bool true) ∧ Q w w' := by
  have hfl := leaf_field2
  go_enter Try.func18, Try.ntmps18
  go_wp2_with (fail)
  refine (mTree_any (some ⟨w.heap.size, 0, none⟩) 1 1 [7] _ (slLit w [7] 3 1 rfl (by omega)) i64s_7 (by omega)).mono ?_
  rintro e w1 ⟨hq1, TB1, col1, rfl, hT1, _⟩
  have HQ1 := Lib.hid (((Q.refl w).alloc _).trans hq1)
  have HT1 := Lib.hid hT1
  clear hq1 hT1
  go_wp2_with (fail)
  refine (mTree_any (some ⟨w1.heap.size, 0, none⟩) 3 3 [7, 8, 9] _ (slLit w1 [7, 8, 9] 3 3 rfl (by omega)) i64s_789 (by omega)).mono ?_
  rintro e w2 ⟨hq2, TB3, col3, rfl, hT3, _⟩
  have HQ2 := Lib.hid ((HQ1.out.alloc _).trans hq2)
  have HT2 := Lib.hid (HT1.out.q (((Q.refl w1).alloc _).trans hq2))
  have HT3 := Lib.hid hT3
  clear hq2 hT3
  go_wp2_with (fail)
  refine (mProve_any TB3 col3 [7, 8, 9] (nodeZ [7, 8, 9]) 2 w2 HT3.out).mono ?_
  rw [pv2, pp2]
  have hpl : (proofZ (nodeZ [7, 8, 9]) (hgt 3) 2).length = 2 := by rw [proofZ_len, hgt3]
  have HVX := Lib.hid ver2
  have HR7 := Lib.hid root7
  generalize hP : proofZ (nodeZ [7, 8, 9]) (hgt 3) 2 = P at *
  clear hP
  obtain ⟨R3, hR3⟩ : ∃ R3, nodeZ [7, 8, 9] (hgt [(7 : Int), 8, 9].length) 0 = R3 := ⟨_, rfl⟩
  have HR3 := Lib.hid hR3
  rw [hR3] at HVX
  clear hR3
  rintro e w3 ⟨ax, capx, rfl, hownx, hq3⟩
  rw [hpl] at hownx ⊢
  have HQ3 := Lib.hid (HQ2.out.trans hq3)
  have HU2 := Lib.hid (HT2.out.q hq3)
  have HU3 := Lib.hid (HT3.out.q hq3)
  have HSX := Lib.hid (Sl.of_own hownx)
  clear hownx hq3
  have HB4 := Lib.hid (Box.new w3 [.int .i64 2, .int .i64 9, .slice ax 2 capx] 25)
  have HQ4 := Lib.hid (HQ3.out.alloc (.cells #[.int .i64 2, .int .i64 9, .slice ax 2 capx] 25))
  have HV2 := Lib.hid (HU2.out.q ((Q.refl w3).alloc (.cells #[.int .i64 2, .int .i64 9, .slice ax 2 capx] 25)))
  have HV3 := Lib.hid (HU3.out.q ((Q.refl w3).alloc (.cells #[.int .i64 2, .int .i64 9, .slice ax 2 capx] 25)))
  have HS4 := Lib.hid (HSX.out.q ((Q.refl w3).alloc (.cells #[.int .i64 2, .int .i64 9, .slice ax 2 capx] 25)))
  clear HU2 HU3 HSX HT1 HT2 HT3
  go_upto_region 6 with (fail)
  generalize hXB : w3.heap.size = XB at *
  clear hXB
  generalize w3.alloc (.cells #[.int .i64 2, .int .i64 9, .slice ax 2 capx] 25) = w4 at *
  refine wp_region_tree (fun w'' => ∃ x : After w4.drew, w'' = x.w) (.val 0 (.one 1 (.val 2 (.val 3 (.val 4 (.val 5 (.val 6 (.two 7 (.one 8 (.one 9 (.val 10 (.val 11 (.val 12 (.val 13 (.val 14 (.val 15 (.val 16 (.val 17 (.val 18 (.val 19 (.val 21 (.one 20 (.one 22 (.val 23 (.val 24 (.fin)))))))))))))))))) 8 (.one 7 (.one 9 (.val 10 (.val 11 (.val 12 (.val 13 (.val 14 (.val 15 (.val 16 (.val 17 (.val 18 (.val 19 (.val 21 (.one 20 (.one 22 (.val 23 (.val 24 (.fin))))))))))))))))))))))))) ) (by kernel_rfl) (by kernel_rfl) (fun _ _ _ _ _ h => h) ⟨⟨_, Q.refl _⟩, rfl⟩ ?_
  have HQW := Lib.hid (HQ4.out.drew)
  have HBX := Lib.hid (HB4.out.q (Q.drew (Q.refl w4)))
  have HT1 := Lib.hid (HV2.out.q (Q.drew (Q.refl w4)))
  have HT3 := Lib.hid (HV3.out.q (Q.drew (Q.refl w4)))
  have HSX := Lib.hid (HS4.out.q (Q.drew (Q.refl w4)))
  clear HQ4 HB4 HV2 HV3 HS4
  generalize w4.drew = W at *
  obtain ⟨y0, y1, y2⟩ := Box.soft3 HBX.out
  refine tree_val rfl rfl ?_; go_big_quiet_step (fail); refine wpQuiet_nil ?_
  refine tree_one rfl rfl ?_
  intro K hK
  go_wp2_with (fail)
  refine (mProve_any TB1 col1 [7] (nodeZ [7]) 0 W HT1.out).mono ?_
  rw [pv0, pp0]
  have hpl0 : (proofZ (nodeZ [7]) (hgt 1) 0).length = 0 := by rw [proofZ_len, hgt1]
  generalize proofZ (nodeZ [7]) (hgt 1) 0 = P0 at *
  rintro e w5 ⟨a5, cap5, rfl, _, hq5⟩
  rw [hpl0]
  refine hK _ _ ⟨⟨_, hq5⟩, rfl⟩ ?_
  clear hK K
  have HQ5 := Lib.hid hq5
  have HT5 := Lib.hid (HT1.out.q hq5)
  clear hq5
  repeat (refine tree_val rfl rfl ?_; go_big_quiet_step (fail); refine wpQuiet_nil ?_)
  have HR07 := Lib.hid (show ∀ z ∈ [(0 : Int), 7], -9223372036854775808 ≤ z ∧ z ≤ 9223372036854775807 from fun z hz => by
    rcases List.mem_cons.1 hz with rfl | hz
    · omega
    · rw [List.mem_singleton.1 hz]; omega)
  refine tree_two ?_ ?_
  · refine tree_one rfl rfl ?_
    intro K hK
    go_wp2_with (fail)
    refine (mTRoot_any TB1 col1 _ _ w5 HT5.out).mono ?_
    rintro e w6 ⟨rfl, hq6⟩
    refine hK _ _ ⟨⟨_, HQ5.out.trans hq6⟩, rfl⟩ ?_
    clear hK K
    have HQ6 := Lib.hid (HQ5.out.trans hq6)
    rw [HR7.out]
    clear hq6
    refine tree_one rfl rfl ?_
    intro K hK
    go_wp2_with (fail)
    refine hK _ _ ⟨⟨_, HQ6.out.alloc _⟩, rfl⟩ ?_
    clear hK K
    refine tree_one rfl rfl ?_
    intro K hK
    go_wp2_with (fail)
    refine (sum_any leafS (some ⟨w6.heap.size, 0, none⟩) 2 2 [0, 7] _ (by decide) (by omega) (slLit w6 [0, 7] 3 2 rfl (by omega)) HR07.out).mono ?_
    rintro e w9 ⟨rfl, hq9⟩
    refine hK _ _ ⟨⟨_, (HQ6.out.alloc _).trans hq9⟩, rfl⟩ ?_
    clear hK K
    · have HQ9 := Lib.hid ((HQ6.out.alloc _).trans hq9)
      clear hq9
      repeat (refine tree_val rfl rfl ?_; go_big_quiet_step (fail); refine wpQuiet_nil ?_)
      refine tree_one rfl rfl ?_
      intro K hK
      go_wp2_with (fail)
      refine (mTRoot_any TB3 col3 _ _ w9 (HT3.out.q HQ9.out)).mono ?_
      rw [HR3.out]
      rintro e w10 ⟨rfl, hq10⟩
      refine hK _ _ ⟨⟨_, HQ9.out.trans hq10⟩, rfl⟩ ?_
      clear hK K
      have HQ10 := Lib.hid (HQ9.out.trans hq10)
      clear hq10
      refine tree_one rfl rfl ?_
      intro K hK
      go_wp2_with (fail)
      refine (mVerify_any R3 3 2 9 ax 2 capx P w10 (by omega) (by omega) (by omega) (HSX.out.q HQ10.out)).mono ?_
      rintro e w11 ⟨rfl, hq11⟩
      refine hK _ _ ⟨⟨_, HQ10.out.trans hq11⟩, rfl⟩ ?_
      clear hK K
      have HQ11 := Lib.hid (HQ10.out.trans hq11)
      rw [HVX.out]
      clear hq11
      repeat (refine tree_val rfl rfl ?_; go_big_quiet_step (fail); refine wpQuiet_nil ?_)
      clear y0 y1 y2
      refine tree_end ?_
      go_wp2
      go_ret
      exact ⟨rfl, HQW.out.trans HQ11.out⟩
  · refine tree_one rfl rfl ?_
    intro K hK
    go_wp2_with (fail)
    refine hK _ _ ⟨⟨_, HQ5.out.alloc _⟩, rfl⟩ ?_
    clear hK K
    refine tree_one rfl rfl ?_
    intro K hK
    go_wp2_with (fail)
    refine (mTRoot_any TB1 col1 _ _ _ (HT5.out.q ((Q.refl w5).alloc _))).mono ?_
    rintro e w6 ⟨rfl, hq6⟩
    refine hK _ _ ⟨⟨_, (HQ5.out.alloc _).trans hq6⟩, rfl⟩ ?_
    clear hK K
    have HQ6 := Lib.hid ((HQ5.out.alloc (.cells #[.int .i64 0, .int .i64 7] 3)).trans hq6)
    have HS6 := Lib.hid ((slLit w5 [0, 7] 3 2 rfl (by omega)).q hq6)
    rw [HR7.out]
    clear hq6
    refine tree_one rfl rfl ?_
    intro K hK
    go_wp2_with (fail)
    refine (sum_any leafS (some ⟨w5.heap.size, 0, none⟩) 2 2 [0, 7] w6 (by decide) (by omega) HS6.out HR07.out).mono ?_
    rintro e w9 ⟨rfl, hq9⟩
    refine hK _ _ ⟨⟨_, HQ6.out.trans hq9⟩, rfl⟩ ?_
    clear hK K
    · have HQ9 := Lib.hid (HQ6.out.trans hq9)
      clear hq9
      repeat (refine tree_val rfl rfl ?_; go_big_quiet_step (fail); refine wpQuiet_nil ?_)
      refine tree_one rfl rfl ?_
      intro K hK
      go_wp2_with (fail)
      refine (mTRoot_any TB3 col3 _ _ w9 (HT3.out.q HQ9.out)).mono ?_
      rw [HR3.out]
      rintro e w10 ⟨rfl, hq10⟩
      refine hK _ _ ⟨⟨_, HQ9.out.trans hq10⟩, rfl⟩ ?_
      clear hK K
      have HQ10 := Lib.hid (HQ9.out.trans hq10)
      clear hq10
      refine tree_one rfl rfl ?_
      intro K hK
      go_wp2_with (fail)
      refine (mVerify_any R3 3 2 9 ax 2 capx P w10 (by omega) (by omega) (by omega) (HSX.out.q HQ10.out)).mono ?_
      rintro e w11 ⟨rfl, hq11⟩
      refine hK _ _ ⟨⟨_, HQ10.out.trans hq11⟩, rfl⟩ ?_
      clear hK K
      have HQ11 := Lib.hid (HQ10.out.trans hq11)
      rw [HVX.out]
      clear hq11
      repeat (refine tree_val rfl rfl ?_; go_big_quiet_step (fail); refine wpQuiet_nil ?_)
      clear y0 y1 y2
      refine tree_end ?_
      go_wp2
      go_ret
      exact ⟨rfl, HQW.out.trans HQ11.out⟩
end Go.Proofs.Ytcgnihgebifcjaa
