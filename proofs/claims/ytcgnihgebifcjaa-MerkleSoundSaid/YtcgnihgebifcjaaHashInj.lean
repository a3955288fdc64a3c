/- The hash is one to one in each word. -/
import Derived.Test.YtcgnihgebifcjaaHashMath
namespace Go.Proofs.Ytcgnihgebifcjaa

theorem sumZ_one (label l l' : List Int) (hl : l.length = l'.length) (k : Nat) (hk : k < l.length) (hp : l.take k = l'.take k) (hq : l.drop (k + 1) = l'.drop (k + 1)) (h : sumZ label l = sumZ label l') :
    u64Z l[k] = u64Z (l'[k]'(hl ▸ hk)) := by
  unfold sumZ at h
  rw [← hl] at h
  have hu : ∀ (m : List Int), ∀ w ∈ m.map u64Z, U64 w := by
    intro m w hw
    obtain ⟨x, _, rfl⟩ := List.mem_map.1 hw
    exact u64Z_u64 x
  have h1 := mixZ_left (foldZ_u64 (mixZ_u64 _ _) _) (foldZ_u64 (mixZ_u64 _ _) _) zero_u64 h
  have h2 := foldZ_one (l.map u64Z) (l'.map u64Z) (mixZ_u64 _ _) k (by simpa using hk) (by rw [List.length_map, ← hl]; exact hk) (hu l) (hu l')
    (by rw [← List.map_take, ← List.map_take, hp]) (by rw [← List.map_drop, ← List.map_drop, hq]) h1
  simpa using h2
/-- two lists that differ at one place -/
def Near (k : Nat) (l l' : List Int) : Prop := l.length = l'.length ∧ l.take k = l'.take k ∧ l.drop (k + 1) = l'.drop (k + 1)
theorem Near.refl (k : Nat) (l : List Int) : Near k l l := ⟨rfl, rfl, rfl⟩
theorem near_set (k : Nat) (l : List Int) (v : Int) : Near k l (l.set k v) := by
  refine ⟨by simp, ?_, ?_⟩
  · rw [List.take_set_of_le (Nat.le_refl _)]
  · rw [List.drop_set_of_lt (by omega)]
theorem Near.app {k : Nat} {l l' : List Int} (h : Near k l l') (hk : k < l.length) (m : List Int) : Near k (l ++ m) (l' ++ m) := by
  obtain ⟨h1, h2, h3⟩ := h
  refine ⟨by simp [h1], ?_, ?_⟩
  · rw [List.take_append_of_le_length (by omega), List.take_append_of_le_length (by omega), h2]
  · rw [List.drop_append_of_le_length (by omega), List.drop_append_of_le_length (by omega), h3]
theorem Near.map {k : Nat} {l l' : List Int} (h : Near k l l') (f : Int → Int) : Near k (l.map f) (l'.map f) := by
  obtain ⟨h1, h2, h3⟩ := h
  refine ⟨by simp [h1], ?_, ?_⟩
  · rw [← List.map_take, ← List.map_take, h2]
  · rw [← List.map_drop, ← List.map_drop, h3]
theorem near_last (l : List Int) (a b : Int) : Near l.length (l ++ [a]) (l ++ [b]) := by
  refine ⟨by simp, by simp, by simp⟩
theorem near_eq {k : Nat} {l l' : List Int} (h : Near k l l') (hk : k < l.length) (e : l[k] = l'[k]'(h.1 ▸ hk)) : l = l' := by
  obtain ⟨h1, h2, h3⟩ := h
  have hk' : k < l'.length := h1 ▸ hk
  have ea : l = l.take k ++ l[k] :: l.drop (k + 1) := by rw [← List.drop_eq_getElem_cons, List.take_append_drop]
  have eb : l' = l'.take k ++ l'[k] :: l'.drop (k + 1) := by rw [← List.drop_eq_getElem_cons, List.take_append_drop]
  rw [ea, eb, h2, h3, e]
/-- sums over lists that differ at one place are equal only if the lists are -/
theorem sumZ_near (label : List Int) {k : Nat} {l l' : List Int} (h : Near k l l') (hk : k < l.length) (hr : ∀ z ∈ l, -9223372036854775808 ≤ z ∧ z ≤ 9223372036854775807) (hr' : ∀ z ∈ l', -9223372036854775808 ≤ z ∧ z ≤ 9223372036854775807) (e : sumZ label l = sumZ label l') : l = l' := by
  refine near_eq h hk ?_
  have := sumZ_one label l l' h.1 k hk h.2.1 h.2.2 e
  exact u64Z_inj (hr _ (List.getElem_mem _)) (hr' _ (List.getElem_mem _)) this

/-- the words of bytes that differ within one group of eight -/
theorem wordsZ_near (g : Nat) {bs cs : List Int} (hl : bs.length = cs.length) (hp : bs.take (8 * g) = cs.take (8 * g)) (hq : bs.drop (8 * g + 8) = cs.drop (8 * g + 8)) : Near g (wordsZ bs) (wordsZ cs) := by
  have hw : ∀ i, i ≠ g → wordZ bs i = wordZ cs i := by
    intro i hi
    unfold wordZ
    congr 1
    rcases Nat.lt_or_gt_of_ne hi with h | h
    · have e : ∀ l : List Int, (l.drop (8 * i)).take 8 = ((l.take (8 * g)).drop (8 * i)).take 8 := by
        intro l
        rw [List.drop_take, List.take_take, Nat.min_eq_left (by omega)]
      rw [e bs, e cs, hp]
    · have e : ∀ l : List Int, l.drop (8 * i) = (l.drop (8 * g + 8)).drop (8 * i - (8 * g + 8)) := by
        intro l
        rw [List.drop_drop]
        congr 1
        omega
      rw [e bs, e cs, hq]
  refine ⟨by rw [wordsZ_len, wordsZ_len, hl], ?_, ?_⟩
  · apply List.ext_getElem?
    intro j
    rw [List.getElem?_take, List.getElem?_take]
    by_cases h : j < g
    · rw [if_pos h, if_pos h]
      simp only [wordsZ, hl, List.getElem?_map]
      by_cases hj : j < (cs.length + 7) / 8
      · rw [List.getElem?_range hj]; simp [hw j (by omega)]
      · rw [List.getElem?_eq_none (by simpa using hj)]; rfl
    · rw [if_neg h, if_neg h]
  · apply List.ext_getElem?
    intro j
    rw [List.getElem?_drop, List.getElem?_drop]
    simp only [wordsZ, hl, List.getElem?_map]
    by_cases hj : g + 1 + j < (cs.length + 7) / 8
    · rw [List.getElem?_range hj]; simp [hw (g + 1 + j) (by omega)]
    · rw [List.getElem?_eq_none (by simpa using hj)]; rfl
theorem i64Z_inj {a b : Int} (ha : U64 a) (hb : U64 b) (h : i64Z a = i64Z b) : a = b := by
  rw [← u64Z_i64Z ha, ← u64Z_i64Z hb, h]
theorem i64Z_rng (x : Int) : -9223372036854775808 ≤ i64Z x ∧ i64Z x ≤ 9223372036854775807 := by unfold i64Z; omega
/-- the bytes lie in their words -/
theorem wordsZ_inj {bs cs : List Int} (hb : Bys bs) (hc : Bys cs) (hl : bs.length = cs.length) (h : wordsZ bs = wordsZ cs) : bs = cs := by
  have hw : ∀ i, i < (bs.length + 7) / 8 → (bs.drop (8 * i)).take 8 = (cs.drop (8 * i)).take 8 := by
    intro i hi
    have e : (wordsZ bs)[i]? = (wordsZ cs)[i]? := by rw [h]
    simp only [wordsZ, List.getElem?_map] at e
    rw [List.getElem?_range hi, List.getElem?_range (by rw [← hl]; exact hi)] at e
    simp at e
    exact leZ_inj ((hb.drop _).take _) ((hc.drop _).take _) (by simp [hl]) e
  apply List.ext_getElem?
  intro j
  by_cases hj : j < bs.length
  · have := congrArg (fun l => l[j - 8 * (j / 8)]?) (hw (j / 8) (by omega))
    simp only [List.getElem?_take, List.getElem?_drop] at this
    rw [if_pos (by omega), if_pos (by omega)] at this
    rw [show 8 * (j / 8) + (j - 8 * (j / 8)) = j by omega] at this
    exact this
  · rw [List.getElem?_eq_none (by omega), List.getElem?_eq_none (by omega)]
theorem bytesZ_near (label : List Int) (g : Nat) {bs cs : List Int} (hb : Bys bs) (hc : Bys cs) (hg : 8 * g < bs.length) (hm : bs.length ≤ 1000000) (hl : bs.length = cs.length) (hp : bs.take (8 * g) = cs.take (8 * g)) (hq : bs.drop (8 * g + 8) = cs.drop (8 * g + 8)) (h : bytesZ label bs = bytesZ label cs) : bs = cs := by
  have hn := wordsZ_near g hl hp hq
  unfold bytesZ at h
  rw [← hl] at h
  have hgl : g < ((wordsZ bs).map i64Z).length := by rw [List.length_map, wordsZ_len]; omega
  have hr : ∀ (l : List Int), ∀ z ∈ (wordsZ l).map i64Z ++ [(bs.length : Int)], -9223372036854775808 ≤ z ∧ z ≤ 9223372036854775807 := by
    intro l z hz
    rcases List.mem_append.1 hz with hz | hz
    · obtain ⟨x, _, rfl⟩ := List.mem_map.1 hz
      exact i64Z_rng x
    · simp at hz; subst hz; omega
  have e := sumZ_near label ((hn.map i64Z).app hgl [(bs.length : Int)]) (by simp; simp at hgl; omega) (hr bs) (hr cs) h
  have e2 := List.append_cancel_right e
  have e3 : wordsZ bs = wordsZ cs := by
    have := congrArg (List.map u64Z) e2
    rw [List.map_map, List.map_map] at this
    have k : ∀ l : List Int, Bys l → (wordsZ l).map (u64Z ∘ i64Z) = wordsZ l := by
      intro l hl
      conv => { rhs; rw [← List.map_id (wordsZ l)] }
      apply List.map_congr_left
      intro x hx
      exact u64Z_i64Z (wordsZ_u64 hl x hx)
    rwa [k bs hb, k cs hc] at this
  exact wordsZ_inj hb hc hl e3
/-- one zero byte more -/
theorem wordZ_zero (bs : List Int) (i : Nat) (hi : 8 * i ≤ bs.length) : wordZ (bs ++ [0]) i = wordZ bs i := by
  unfold wordZ
  rw [List.drop_append_of_le_length hi]
  by_cases h8 : 8 ≤ (bs.drop (8 * i)).length
  · rw [List.take_append_of_le_length h8]
  · rw [List.take_of_length_le (by simp at h8 ⊢; omega), List.take_of_length_le (by simp at h8 ⊢; omega), leZ_snoc]
    omega
theorem wordsZ_zero (bs : List Int) (h : bs.length % 8 ≠ 0) : wordsZ (bs ++ [0]) = wordsZ bs := by
  unfold wordsZ
  have e : ((bs ++ [(0 : Int)]).length + 7) / 8 = (bs.length + 7) / 8 := by simp; omega
  rw [e]
  apply List.map_congr_left
  intro i hi
  exact wordZ_zero bs i (by have := List.mem_range.1 hi; omega)
theorem bytesZ_zero (label bs : List Int) (h : bs.length % 8 ≠ 0) (hm : bs.length ≤ 1000000) : bytesZ label (bs ++ [0]) ≠ bytesZ label bs := by
  intro e
  unfold bytesZ at e
  rw [wordsZ_zero bs h] at e
  have hr : ∀ (n : Nat), n ≤ 1000001 → ∀ z ∈ (wordsZ bs).map i64Z ++ [(n : Int)], -9223372036854775808 ≤ z ∧ z ≤ 9223372036854775807 := by
    intro n hn z hz
    rcases List.mem_append.1 hz with hz | hz
    · obtain ⟨x, _, rfl⟩ := List.mem_map.1 hz
      exact i64Z_rng x
    · simp at hz; subst hz; omega
  have := sumZ_near label (near_last _ _ _) (by simp) (hr _ (by simp; omega)) (hr _ (by omega)) e
  have := List.append_cancel_left this
  simp at this
  omega
/-- labels that differ within one group of eight -/
theorem sumZ_label {a b l : List Int} (g : Nat) (ha : Bys a) (hb : Bys b) (hg : 8 * g < a.length) (hl : a.length = b.length) (hm : a.length ≤ 1000000) (hml : l.length ≤ 1000000) (hp : a.take (8 * g) = b.take (8 * g)) (hq : a.drop (8 * g + 8) = b.drop (8 * g + 8)) (h : sumZ a l = sumZ b l) : a = b := by
  have hn := wordsZ_near g hl hp hq
  unfold sumZ at h
  have hu : ∀ (m : List Int), ∀ w ∈ m.map u64Z, U64 w := by
    intro m w hw
    obtain ⟨x, _, rfl⟩ := List.mem_map.1 hw
    exact u64Z_u64 x
  have ul : ∀ n : Nat, n ≤ 1000000 → U64 (n : Int) := by intro n hn; unfold U64 MM; omega
  have h1 := mixZ_left (foldZ_u64 (mixZ_u64 _ _) _) (foldZ_u64 (mixZ_u64 _ _) _) zero_u64 h
  have h2 := foldZ_left _ (mixZ_u64 _ _) (mixZ_u64 _ _) (hu l) h1
  have h3 := mixZ_left (mixZ_u64 _ _) (mixZ_u64 _ _) (ul _ hml) h2
  rw [← hl] at h3
  have h4 := mixZ_left (foldZ_u64 zero_u64 _) (foldZ_u64 zero_u64 _) (ul _ hm) h3
  have hk : g < (wordsZ a).length := by rw [wordsZ_len]; omega
  have h5 := foldZ_one (wordsZ a) (wordsZ b) zero_u64 g hk (hn.1 ▸ hk) (wordsZ_u64 ha) (wordsZ_u64 hb) hn.2.1 hn.2.2 h4
  exact wordsZ_inj ha hb hl (near_eq hn hk h5)
/-- pairs -/
theorem two_rng (a b : Int) : ∀ z ∈ [i64Z a, i64Z b], -9223372036854775808 ≤ z ∧ z ≤ 9223372036854775807 := by
  have ha := i64Z_rng a
  have hb := i64Z_rng b
  generalize i64Z a = x at *
  generalize i64Z b = y at *
  intro z hz
  rcases List.mem_cons.1 hz with rfl | hz
  · exact ha
  · rw [List.mem_singleton.1 hz]
    exact hb
theorem near_p0 (x y z : Int) : Near 0 [x, z] [y, z] := ⟨rfl, rfl, rfl⟩
theorem near_p1 (x y z : Int) : Near 1 [z, x] [z, y] := ⟨rfl, rfl, rfl⟩
theorem pair_left {label : List Int} {a b c : Int} (ha : U64 a) (hb : U64 b) (h : sumZ label [i64Z a, i64Z c] = sumZ label [i64Z b, i64Z c]) : a = b := by
  have ra := two_rng a c
  have rb := two_rng b c
  refine i64Z_inj ha hb ?_
  generalize i64Z a = x at *
  generalize i64Z b = y at *
  generalize i64Z c = z at *
  have := sumZ_near label (near_p0 x y z) (Nat.succ_pos 1) ra rb h
  exact (List.cons.inj this).1
theorem pair_right {label : List Int} {a b c : Int} (ha : U64 a) (hb : U64 b) (h : sumZ label [i64Z c, i64Z a] = sumZ label [i64Z c, i64Z b]) : a = b := by
  have ra := two_rng c a
  have rb := two_rng c b
  refine i64Z_inj ha hb ?_
  generalize i64Z a = x at *
  generalize i64Z b = y at *
  generalize i64Z c = z at *
  have := sumZ_near label (near_p1 x y z) (Nat.lt_succ_self 1) ra rb h
  exact (List.cons.inj (List.cons.inj this).2).1
end Go.Proofs.Ytcgnihgebifcjaa
