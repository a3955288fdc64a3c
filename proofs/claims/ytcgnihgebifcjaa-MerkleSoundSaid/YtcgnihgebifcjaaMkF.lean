/- Plain law: a proof of which the value or one hash is replaced does not verify. -/
import Derived.Test.YtcgnihgebifcjaaMkE
import Derived.Test.YtcgnihgebifcjaaHashInj
namespace Go.Proofs.Ytcgnihgebifcjaa
open Go Go.RowKit Go.BigFrame

theorem join_left {i : Nat} {a b s : Int} (ha : U64 a) (hb : U64 b) (h : joinZ i a s = joinZ i b s) : a = b := by
  unfold joinZ at h
  split at h
  · exact pair_right ha hb h
  · exact pair_left ha hb h
theorem join_right {i : Nat} {a b s : Int} (ha : U64 a) (hb : U64 b) (h : joinZ i s a = joinZ i s b) : a = b := by
  unfold joinZ at h
  split at h
  · exact pair_left ha hb h
  · exact pair_right ha hb h
theorem fold_succ (k : Nat) (p : List Int) (a : Int) (m : Nat) : (List.range (m + 1)).foldl (verF k p) a = joinZ (up k m) ((List.range m).foldl (verF k p) a) (p.getD m 0) := by
  rw [List.range_succ, List.foldl_append]; rfl
theorem fold_u64 (k : Nat) (p : List Int) (a : Int) (ha : U64 a) (m : Nat) : U64 ((List.range m).foldl (verF k p) a) := by
  cases m with
  | zero => rw [List.range_zero, List.foldl_nil]; exact ha
  | succ m => rw [fold_succ]; exact joinZ_u64 _ _ _
theorem fold_inj (k : Nat) (p : List Int) {a b : Int} (ha : U64 a) (hb : U64 b) : ∀ m, (List.range m).foldl (verF k p) a = (List.range m).foldl (verF k p) b → a = b := by
  intro m
  induction m with
  | zero => rw [List.range_zero, List.foldl_nil, List.foldl_nil]; exact fun h => h
  | succ m ih =>
    intro h
    rw [fold_succ, fold_succ] at h
    exact ih (join_left (fold_u64 k p a ha m) (fold_u64 k p b hb m) h)
theorem getD_set_ne (p : List Int) (j m : Nat) (y : Int) (h : j ≠ m) : (p.set j y).getD m 0 = p.getD m 0 := by
  rw [List.getD_eq_getElem?_getD, List.getD_eq_getElem?_getD, List.getElem?_set_ne h]
theorem getD_set_eq (p : List Int) (j : Nat) (y : Int) (h : j < p.length) : (p.set j y).getD j 0 = y := by
  simp [List.getD_eq_getElem?_getD, h]
theorem fold_set_le (k : Nat) (p : List Int) (a : Int) (j : Nat) (y : Int) : ∀ m, m ≤ j → (List.range m).foldl (verF k (p.set j y)) a = (List.range m).foldl (verF k p) a := by
  intro m
  induction m with
  | zero => intro _; rw [List.range_zero, List.foldl_nil, List.foldl_nil]
  | succ m ih =>
    intro h
    rw [fold_succ, fold_succ, ih (by omega), getD_set_ne _ _ _ _ (by omega)]
theorem fold_set_gt (k : Nat) (p : List Int) (a : Int) (ha : U64 a) (j : Nat) (y : Int) (hj : j < p.length) (hy : U64 y) (hp : U64 (p.getD j 0)) (hne : y ≠ p.getD j 0) : ∀ m, j < m → (List.range m).foldl (verF k (p.set j y)) a ≠ (List.range m).foldl (verF k p) a := by
  intro m
  induction m with
  | zero => intro h; omega
  | succ m ih =>
    intro h he
    rw [fold_succ, fold_succ] at he
    by_cases e : m = j
    · subst e
      rw [fold_set_le _ _ _ _ _ _ (Nat.le_refl _), getD_set_eq _ _ _ hj] at he
      exact hne (join_right hy hp he)
    · rw [getD_set_ne _ _ _ _ (fun h => e h.symm)] at he
      exact ih (by omega) (join_left (fold_u64 _ _ _ ha _) (fold_u64 _ _ _ ha _) he)
theorem wrapU_ne (x d : Int) (hx : U64 x) (hd : 1 ≤ d ∧ d ≤ 1000000) : U64 (wrapU (x + d)) ∧ wrapU (x + d) ≠ x := by
  obtain ⟨h1, h2⟩ := hx
  have hM : (MM : Int) = 18446744073709551616 := by decide
  have hw : wrapU (x + d) = (x + d) % 18446744073709551616 := rfl
  unfold U64
  rw [hw]
  omega
theorem wrap64_ne (x d : Int) (hx : -9223372036854775808 ≤ x ∧ x ≤ 9223372036854775807) (hd : 1 ≤ d ∧ d ≤ 1000000) : wrap64 (x + d) ≠ x := by
  unfold wrap64
  omega
/-- soundness -/
theorem ver_sound (cells : List Int) (k : Nat) (v : Int) (hk : cells[k]? = some v) (hn : cells.length ≤ 1000) (hv : -9223372036854775808 ≤ v ∧ v ≤ 9223372036854775807) (K : Nat) (d : Int) (hd : 1 ≤ d ∧ d ≤ 1000000) (h1 : 1 ≤ K) (h2 : K < 2 + hgt cells.length) :
    verZ (rootZ cells) cells.length (bentI K d k) (bentV K d v) (bentP K d (proofZ (nodeZ cells) (hgt cells.length) k)) = false := by
  have hkl := (List.getElem?_eq_some_iff.1 hk).1
  have hP := hgt_P2 cells.length (by omega)
  have hI : bentI K d k = k := if_neg (by omega)
  have hfold := ver_fold cells (hgt cells.length) k _ (Nat.le_refl _)
  rw [up_root (by omega), node0 cells k v hk] at hfold
  have hlen := proofZ_len (nodeZ cells) (hgt cells.length) k
  generalize hPP : proofZ (nodeZ cells) (hgt cells.length) k = P at *
  rw [hI]
  unfold verZ
  rw [Int.toNat_natCast, bentP_len, hlen]
  have key : ¬ ((List.range (hgt cells.length)).foldl (verF k (bentP K d P)) (leafZ cells.length k (bentV K d v)) = rootZ cells) := by
    rw [show rootZ cells = nodeZ cells (hgt cells.length) 0 from rfl, ← hfold]
    by_cases hK : K = 1
    · rw [show bentP K d P = P from if_neg (by omega), show bentV K d v = wrap64 (v + d) from if_pos hK]
      intro he
      have e := fold_inj k P (leafZ_u64 _ _ _) (leafZ_u64 _ _ _) _ he
      rw [show leafZ cells.length k (wrap64 (v + d)) = sumZ (strZ leafS) [(k : Int), wrap64 (v + d)] from if_neg (by omega), show leafZ cells.length k v = sumZ (strZ leafS) [(k : Int), v] from if_neg (by omega)] at e
      have hr : ∀ x, -9223372036854775808 ≤ x ∧ x ≤ 9223372036854775807 → ∀ z ∈ [(k : Int), x], -9223372036854775808 ≤ z ∧ z ≤ 9223372036854775807 := fun x hx z hz => by
        rcases List.mem_cons.1 hz with rfl | hz
        · omega
        · rw [List.mem_singleton.1 hz]; exact hx
      have e2 := sumZ_near _ (near_p1 _ _ _) (by simp) (hr _ (wf_i64 (wrap64_wf _))) (hr _ hv) e
      simp at e2
      exact wrap64_ne v d hv hd e2
    · obtain ⟨j, rfl⟩ : ∃ j, K = j + 2 := ⟨K - 2, by omega⟩
      rw [show bentP (j + 2) d P = P.set j (wrapU (P.getD j 0 + d)) from if_pos (by omega), show bentV (j + 2) d v = v from if_neg (by omega)]
      have hu : U64 (P.getD j 0) := by
        rw [← hPP, proofZ_getD _ _ _ _ (by omega)]
        exact nodeZ_u64 _ _ _
      obtain ⟨w1, w2⟩ := wrapU_ne _ d hu hd
      exact fold_set_gt k P _ (leafZ_u64 _ _ _) j _ (by omega) w1 hu w2 _ (by omega)
  rw [beq_eq_false_iff_ne.2 key, Bool.and_false]
end Go.Proofs.Ytcgnihgebifcjaa
