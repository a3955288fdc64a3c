/- Plain laws of the journal's Open: contents, cut contents, prefixes, turned frames. -/
import Derived.Test.YtfkbdiheccnohaaJS
import Derived.Test.YtfkbdiheccnohaaHashInj
namespace Go.Proofs.Ytfkbdiheccnohaa
open Go Go.RowKit

def Ok4 (rs : List (List Int)) : Prop := ∀ x ∈ rs, x.length ≤ 4000
theorem frameZ_pos (x : List Int) : 9 ≤ (frameZ x).length := by
  have h := frameZ_len x
  have h2 := varZ_len x.length
  split at h2 <;> omega
theorem bytesL_cons (x : List Int) (rs : List (List Int)) : bytesL (x :: rs) = frameZ x ++ bytesL rs := rfl
theorem bytesL_append (rs ts : List (List Int)) : bytesL (rs ++ ts) = bytesL rs ++ bytesL ts := by unfold bytesL; rw [List.flatMap_append]
theorem openZ_nil (f : Nat) (rs : List (List Int)) : openZ f [] rs = (rs, 0) := by cases f <;> rfl
theorem openZ_step {f : Nat} {bs : List Int} {rs : List (List Int)} {x : List Int} {k : Nat} (h0 : bs ≠ []) (h : stepZ bs = (0, x, k)) : openZ (f + 1) bs rs = openZ f (bs.drop k) (rs ++ [x]) := by
  rw [openZ, if_neg h0, h]; rfl
theorem openZ_bad {f : Nat} {bs : List Int} {rs : List (List Int)} {e : Int} {x : List Int} {k : Nat} (h0 : bs ≠ []) (h : stepZ bs = (e, x, k)) (he : e ≠ 0) : openZ (f + 1) bs rs = if e = 25 then (rs, 0) else ([], e) := by
  rw [openZ, if_neg h0, h]; simp only []; rw [if_neg he]
theorem take_split (p : List Int) (n : Nat) (x : List Int) (h : x = p.take n) : p = x ++ p.drop n := by rw [h, List.take_append_drop]
theorem stepZ_ok {p : List Int} (hb : Bys p) {x : List Int} {m : Nat} (h : stepZ p = (0, x, m)) : ∃ t, p = frameZ x ++ t ∧ x.length ≤ 4000 ∧ m = (frameZ x).length := by
  by_cases h1 : (lenZ p).2.2 ≠ 0
  · exfalso
    unfold stepZ at h
    rw [if_pos h1] at h
    exact h1 (Prod.mk.inj h).1
  · obtain ⟨n, sz, hz, hn, hs1, hs2, hs3⟩ := lenZ_ok p hb (Classical.not_not.1 h1)
    unfold stepZ at h
    rw [if_neg h1, hz] at h
    simp only [Int.toNat_natCast] at h
    by_cases h2 : (p.length : Int) < sz + 8 + n
    · rw [if_pos h2] at h; exact absurd (Prod.mk.inj h).1 (by decide)
    · rw [if_neg h2] at h
      by_cases h3 : frameZ ((p.drop (sz + 8)).take n) = p.take (sz + 8 + n)
      · rw [if_pos h3] at h
        obtain ⟨_, h4⟩ := Prod.mk.inj h
        obtain ⟨h4, h5⟩ := Prod.mk.inj h4
        rw [h4] at h3
        refine ⟨p.drop (sz + 8 + n), take_split _ _ _ h3, ?_, ?_⟩
        · rw [← h4, List.length_take]; omega
        · rw [h3, List.length_take, ← h5]; omega
      · rw [if_neg h3] at h
        split at h <;> exact absurd (Prod.mk.inj h).1 (by decide)
theorem bys_left {p q : List Int} (h : Bys (p ++ q)) : Bys p := fun b hb => h b (List.mem_append_left _ hb)
theorem bys_right {p q : List Int} (h : Bys (p ++ q)) : Bys q := fun b hb => h b (List.mem_append_right _ hb)
/-- enough fuel -/
theorem openZ_fuel : ∀ (f f' : Nat) (bs : List Int) (rs : List (List Int)), Bys bs → bs.length ≤ f → bs.length ≤ f' → openZ f bs rs = openZ f' bs rs
  | 0, f', bs, rs, _, h, _ => by
    have : bs = [] := List.eq_nil_of_length_eq_zero (by omega)
    rw [this, openZ_nil, openZ_nil]
  | f + 1, 0, bs, rs, _, _, h => by
    have : bs = [] := List.eq_nil_of_length_eq_zero (by omega)
    rw [this, openZ_nil, openZ_nil]
  | f + 1, f' + 1, bs, rs, hb, h, h' => by
    by_cases h0 : bs = []
    · rw [h0, openZ_nil, openZ_nil]
    · obtain ⟨e, x, k, hs⟩ : ∃ e x k, stepZ bs = (e, x, k) := ⟨_, _, _, rfl⟩
      by_cases he : e = 0
      · subst he
        obtain ⟨t, ht, _, hk⟩ := stepZ_ok hb hs
        have := frameZ_pos x
        rw [openZ_step h0 hs, openZ_step h0 hs]
        exact openZ_fuel f f' _ _ (hb.drop k) (by rw [List.length_drop]; omega) (by rw [List.length_drop]; omega)
      · rw [openZ_bad h0 hs he, openZ_bad h0 hs he]
theorem frame_ne (x t : List Int) : frameZ x ++ t ≠ [] := fun e => by
  have h := congrArg List.length e
  have h1 := frameZ_pos x
  rw [List.length_append, List.length_nil] at h
  omega
/-- contents open to their records -/
theorem openZ_bytes : ∀ (rs : List (List Int)) (f : Nat) (t : List Int) (acc : List (List Int)), Ok4 rs → openZ (rs.length + f) (bytesL rs ++ t) acc = openZ f t (acc ++ rs)
  | [], f, t, acc, _ => by simp [bytesL]
  | x :: rs, f, t, acc, h => by
    have hs := stepZ_frame x (h x List.mem_cons_self) (bytesL rs ++ t)
    rw [bytesL_cons, List.append_assoc, List.length_cons, Nat.succ_add_eq_add_succ, Nat.add_succ, openZ_step (frame_ne _ _) hs, List.drop_append_of_le_length (Nat.le_refl _), List.drop_length, List.nil_append, openZ_bytes rs f t _ (fun y hy => h y (List.mem_cons_of_mem _ hy)), List.append_assoc]
    rfl
theorem openZ_ext : ∀ (f : Nat) (bs : List Int) (acc r : List (List Int)), openZ f bs acc = (r, 0) → ∃ s, r = acc ++ s
  | 0, bs, acc, r, h => ⟨[], by rw [openZ] at h; rw [← (Prod.mk.inj h).1, List.append_nil]⟩
  | f + 1, bs, acc, r, h => by
    by_cases h0 : bs = []
    · rw [h0, openZ_nil] at h
      exact ⟨[], by rw [← (Prod.mk.inj h).1, List.append_nil]⟩
    · obtain ⟨e, x, k, hs⟩ : ∃ e x k, stepZ bs = (e, x, k) := ⟨_, _, _, rfl⟩
      by_cases he : e = 0
      · subst he
        rw [openZ_step h0 hs] at h
        obtain ⟨s, hr⟩ := openZ_ext f _ _ _ h
        exact ⟨x :: s, by rw [hr, List.append_assoc]; rfl⟩
      · rw [openZ_bad h0 hs he] at h
        split at h
        · exact ⟨[], by rw [← (Prod.mk.inj h).1, List.append_nil]⟩
        · exact absurd (Prod.mk.inj h).2 he
/-- the records of a prefix are a prefix -/
theorem openZ_prefix : ∀ (f f' : Nat) (p t : List Int) (acc r1 r2 : List (List Int)), Bys (p ++ t) → p.length ≤ f → (p ++ t).length ≤ f' → openZ f p acc = (r1, 0) → openZ f' (p ++ t) acc = (r2, 0) → ∃ s, r2 = r1 ++ s
  | 0, f', p, t, acc, r1, r2, _, hf, _, h1, h2 => by
    rw [openZ] at h1
    rw [← (Prod.mk.inj h1).1]
    exact openZ_ext f' _ _ _ h2
  | f + 1, f', p, t, acc, r1, r2, hb, hf, hf', h1, h2 => by
    by_cases h0 : p = []
    · rw [h0, openZ_nil] at h1
      rw [← (Prod.mk.inj h1).1]
      exact openZ_ext f' _ _ _ h2
    · obtain ⟨e, x, k, hs⟩ : ∃ e x k, stepZ p = (e, x, k) := ⟨_, _, _, rfl⟩
      by_cases he : e = 0
      · subst he
        obtain ⟨u, hu, hx, hk⟩ := stepZ_ok (bys_left hb) hs
        have hpos := frameZ_pos x
        have hd : p.drop k = u := by rw [hu, hk, List.drop_append_of_le_length (Nat.le_refl _), List.drop_length, List.nil_append]
        rw [openZ_step h0 hs, hd] at h1
        have hlp : p.length = (frameZ x).length + u.length := by rw [hu, List.length_append]
        obtain ⟨g, rfl⟩ : ∃ g, f' = g + 1 := ⟨f' - 1, by rw [List.length_append] at hf'; omega⟩
        rw [hu, List.append_assoc] at h2 hb
        rw [openZ_step (frame_ne _ _) (stepZ_frame x hx _), List.drop_append_of_le_length (Nat.le_refl _), List.drop_length, List.nil_append] at h2
        refine openZ_prefix f g u t _ r1 r2 (bys_right hb) (by omega) ?_ h1 h2
        rw [List.length_append] at hf' ⊢
        omega
      · rw [openZ_bad h0 hs he] at h1
        split at h1
        · rw [← (Prod.mk.inj h1).1]
          exact openZ_ext f' _ _ _ h2
        · exact absurd (Prod.mk.inj h1).2 he
/-- lenZ of a length and whatever follows -/
theorem lenZ_var (n : Nat) (hn : n ≤ 4000) (t : List Int) : lenZ (varZ n ++ t) = ((n : Int), ((varZ n).length : Int), 0) := by
  unfold varZ
  by_cases h : n ≤ 127
  · rw [if_pos h]
    simp only [List.cons_append, List.nil_append, lenZ, List.length_cons, List.length_nil]
    rw [if_pos (by omega)]
    rfl
  · rw [if_neg h]
    simp only [List.cons_append, List.nil_append, lenZ, List.length_cons, List.length_nil]
    rw [if_neg (by omega), if_neg (by omega)]
    refine Prod.ext ?_ rfl
    show (128 + (n : Int) % 128) - 128 + (n : Int) / 128 * 128 = n
    omega
/-- a frame that is cut -/
theorem stepZ_cut (x : List Int) (hx : x.length ≤ 4000) (k : Nat) (h0 : 0 < k) (hk : k < (frameZ x).length) : (stepZ ((frameZ x).take k)).1 = 25 := by
  have hl := frameZ_len x
  by_cases hv : (varZ x.length).length ≤ k
  · have e : (frameZ x).take k = varZ x.length ++ ((leUp (sumB x) 8 ++ x).take (k - (varZ x.length).length)) := by
      unfold frameZ
      rw [List.append_assoc, List.take_append, List.take_of_length_le hv]
    have hz := lenZ_var x.length hx ((leUp (sumB x) 8 ++ x).take (k - (varZ x.length).length))
    rw [← e] at hz
    unfold stepZ
    rw [hz]
    simp only [ne_eq, not_true_eq_false, if_false]
    rw [if_pos (by rw [List.length_take]; omega)]
  · have h2 := varZ_len x.length
    have hgt : ¬ x.length ≤ 127 := fun h => by rw [if_pos h] at h2; omega
    rw [if_neg hgt] at h2
    have hk1 : k = 1 := by omega
    subst hk1
    have e : (frameZ x).take 1 = [128 + (x.length : Int) % 128] := by
      unfold frameZ varZ
      rw [if_neg hgt]
      rfl
    have hz : lenZ [128 + (x.length : Int) % 128] = (0, 0, 25) := by simp only [lenZ]; rw [if_neg (by omega)]
    rw [e]
    unfold stepZ
    rw [hz]
    rfl
/-- how many frames are complete within the first k bytes -/
def wholeZ : List (List Int) → Nat → Nat
  | [], _ => 0
  | x :: rs, k => if (frameZ x).length ≤ k then wholeZ rs (k - (frameZ x).length) + 1 else 0
theorem wholeZ_le (rs : List (List Int)) (k : Nat) : wholeZ rs k ≤ rs.length := by
  induction rs generalizing k with
  | nil => simp [wholeZ]
  | cons x rs ih =>
    unfold wholeZ
    split
    · have := ih (k - (frameZ x).length)
      rw [List.length_cons]; omega
    · omega
/-- what is left behind a crash opens to the complete records -/
theorem openZ_cut : ∀ (rs : List (List Int)) (k f : Nat) (acc : List (List Int)), Ok4 rs → Bys (bytesL rs) → ((bytesL rs).take k).length ≤ f → openZ f ((bytesL rs).take k) acc = (acc ++ rs.take (wholeZ rs k), 0)
  | [], k, f, acc, _, _, _ => by simp [bytesL, openZ_nil]
  | x :: rs, k, f, acc, h, hb, hf => by
    have hx := h x List.mem_cons_self
    have hpos := frameZ_pos x
    unfold wholeZ
    rw [bytesL_cons] at hf hb ⊢
    by_cases h1 : (frameZ x).length ≤ k
    · rw [if_pos h1]
      rw [List.take_append, List.take_of_length_le h1] at hf ⊢
      obtain ⟨g, rfl⟩ : ∃ g, f = g + 1 := ⟨f - 1, by rw [List.length_append] at hf; omega⟩
      rw [openZ_step (frame_ne _ _) (stepZ_frame x hx _), List.drop_append_of_le_length (Nat.le_refl _), List.drop_length, List.nil_append,
        openZ_cut rs _ g _ (fun y hy => h y (List.mem_cons_of_mem _ hy)) (bys_right hb) (by rw [List.length_append] at hf; omega), List.append_assoc]
      rfl
    · rw [if_neg h1]
      rw [List.take_append_of_le_length (by omega)] at hf ⊢
      by_cases h2 : k = 0
      · subst h2
        simp [openZ_nil]
      · have hl : ((frameZ x).take k).length = k := by rw [List.length_take]; omega
        obtain ⟨g, rfl⟩ : ∃ g, f = g + 1 := ⟨f - 1, by omega⟩
        obtain ⟨e, y, m, hs⟩ : ∃ e y m, stepZ ((frameZ x).take k) = (e, y, m) := ⟨_, _, _, rfl⟩
        have h25 := stepZ_cut x hx k (by omega) (by omega)
        rw [hs] at h25
        have he : e = 25 := h25
        rw [openZ_bad (fun e => by rw [e] at hl; simp at hl; omega) hs (by omega), if_pos he]
        simp
/-- a frame whose checksum does not fit, and something behind it -/
theorem stepZ_sum (n : Nat) (s x t : List Int) (hn : x.length = n) (h4 : n ≤ 4000) (hs : s.length = 8) (hne : leUp (sumB x) 8 ≠ s) (ht : t ≠ []) : stepZ (varZ n ++ s ++ x ++ t) = (26, [], 0) := by
  have hz := lenZ_var n h4 (s ++ x ++ t)
  have e0 : varZ n ++ (s ++ x ++ t) = varZ n ++ s ++ x ++ t := by simp
  rw [e0] at hz
  have hlt : 0 < t.length := List.length_pos_iff.2 ht
  have e1 : (varZ n ++ s ++ x ++ t).drop ((varZ n).length + 8) = x ++ t := by
    rw [List.append_assoc, List.drop_append_of_le_length (by rw [List.length_append, hs]; omega), List.drop_of_length_le (by rw [List.length_append, hs]; omega), List.nil_append]
  have e2 : (varZ n ++ s ++ x ++ t).take ((varZ n).length + 8 + n) = varZ n ++ s ++ x := by
    rw [List.take_append_of_le_length (by simp [hs, hn]; omega), List.take_of_length_le (by simp [hs, hn]; omega)]
  have e3 : (x ++ t).take n = x := by rw [← hn, List.take_append_of_le_length (Nat.le_refl _), List.take_length]
  unfold stepZ
  rw [hz]
  simp only [ne_eq, not_true_eq_false, if_false, Int.toNat_natCast]
  rw [if_neg (by simp [hs, hn]; omega), e1, e2, e3, if_neg, if_neg (by simp [hs, hn]; omega)]
  intro e
  unfold frameZ at e
  rw [hn] at e
  have h1 := List.append_cancel_right e
  exact hne (List.append_cancel_left h1)
/-- a length beyond the limit -/
theorem stepZ_limit (x : List Int) (h : 4000 < x.length) (h2 : x.length ≤ 4003) (t : List Int) : stepZ (frameZ x ++ t) = (8, [], 0) := by
  have hz : lenZ (frameZ x ++ t) = (0, 0, 8) := by
    unfold frameZ varZ
    rw [if_neg (by omega)]
    simp only [List.cons_append, List.nil_append, lenZ]
    rw [if_neg (by omega), if_pos (by right; right; omega)]
  unfold stepZ
  rw [hz]
  rfl
end Go.Proofs.Ytfkbdiheccnohaa
