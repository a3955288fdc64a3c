/- Contracts: Commit, Reveal. -/
import Derived.Test.YtcpicifnadoeoaaCrB
import Derived.Test.YtcpicifnadoeoaaMix
namespace Go.Proofs.Ytcpicifnadoeoaa
open Go Go.RowKit Go.BigFrame

def getS (sts : List St) (p : Int) : St := sts.getD p.toNat st0
theorem getS_nat (sts : List St) (i : Nat) (h : i < sts.length) : getS sts i = sts[i] := by simp [getS, List.getD, h]
/-- the error of Commit -/
def commitE (k : Int) (o : Bool) (sts : List St) (p : Int) : Int := if p < 0 ∨ k ≤ p then 17 else if o then 20 else if (getS sts p).com then 4 else 0
def commitT (k : Int) (o : Bool) (sts : List St) (p c : Int) : List St := if commitE k o sts p = 0 then sts.set p.toNat ⟨true, false, c, 4⟩ else sts
/-- the error of Reveal -/
def revealE (t k : Int) (o : Bool) (sts : List St) (p a b f n : Int) : Int :=
  if p < 0 ∨ k ≤ p then 17 else if !o then 5 else if !(getS sts p).com then 21 else if (getS sts p).rev then 4 else if errV a b f = 0 then (if comZ p t (codeOf a b f) n = (getS sts p).c then 0 else 21) else 1
def revealT (t k : Int) (o : Bool) (sts : List St) (p a b f n : Int) : List St := if revealE t k o sts p a b f n = 0 then sts.set p.toNat ⟨true, true, (getS sts p).c, codeOf a b f⟩ else sts
/-- what holds of every state -/
structure Sane (sts : List St) : Prop where
  fresh : ∀ s ∈ sts, s.com = false → s = st0
  code : ∀ s ∈ sts, 0 ≤ s.inn ∧ s.inn < 36
  hash : ∀ s ∈ sts, U64 s.c
theorem sl_checks (w : World) (cs : List (Bool × Int)) (t : TypeId) (n : Nat) (hn : cs.length = n) (hm : n ≤ 1000) : Sl (w.alloc (.cells (cs.flatMap chC).toArray t)) 2 (some ⟨w.heap.size, 0, none⟩) n n (cs.flatMap chC) := by
  have hl : ∀ cs : List (Bool × Int), (cs.flatMap chC).length = cs.length * 2 := by
    intro cs
    induction cs with
    | nil => rfl
    | cons c cs ih => rw [List.flatMap_cons, List.length_append, ih]; simp [chC]; omega
  refine ⟨by rw [hl, hn], by omega, by unfold maxLen; omega, (fun e => by cases e), .inr ⟨_, _, rfl, by simp, fun j u hu => ?_⟩⟩
  have h := World.cell?_alloc_mark w (cs.flatMap chC).toArray t (0, 0) j
  rw [Nat.zero_add]
  refine Eq.trans h ?_
  rw [← hu]
  simp
theorem Box.soft {W : World} {B : Nat} {vs : List Value} (h : Box W B vs) (k : Nat) (v : Value) (hv : vs[k]? = some v) : ∀ x : After W, x.w.cell? ⟨B, k, none⟩ = some v := fun x => ((h.after x).2 k v hv).1
theorem Rd.st {w : World} {B : Nat} {t p : Int} {o : Bool} {sts : List St} (h : Rd w B t p o sts) (i : Nat) (hi : i < sts.length) (j : Nat) (hj : j < 6) (v : Value) (hv : (stC sts[i])[j]? = some v) : w.cell? ⟨B, 3 + i * 6 + j, none⟩ = some v ∧ w.frozen? ⟨B, 3 + i * 6 + j, none⟩ = false := by
  have := h.2 (3 + (i * 6 + j)) v (by rw [rdC_at t p o sts i j hi hj]; exact hv)
  rw [show 3 + (i * 6 + j) = 3 + i * 6 + j by omega] at this
  exact this
theorem Rd.soft {w : World} {B : Nat} {t p : Int} {o : Bool} {sts : List St} (h : Rd w B t p o sts) (i : Nat) (hi : i < sts.length) (j : Nat) (hj : j < 6) (v : Value) (hv : (stC sts[i])[j]? = some v) : ∀ x : After w, x.w.cell? ⟨B, 3 + i * 6 + j, none⟩ = some v := fun x => (Rd.st (Box.after h x) i hi j hj v hv).1

theorem rdC_len (t p : Int) (o : Bool) (sts : List St) : (rdC t p o sts).length = 3 + sts.length * 6 := by
  have : ∀ l : List St, (l.flatMap stC).length = l.length * 6 := by
    intro l
    induction l with
    | nil => rfl
    | cons s l ih => rw [List.flatMap_cons, List.length_append, ih, stC_len]; simp; omega
  unfold rdC
  simp only [List.length_cons]
  rw [this]
  omega
theorem Rd.set {w : World} {B : Nat} {t p : Int} {o : Bool} {sts : List St} (h : Rd w B t p o sts) (i : Nat) (hi : i < sts.length) (j : Nat) (hj : j < 6) (u : Value) (y : St) (hy : stC y = (stC sts[i]).set j u) : Rd (w.setCell ⟨B, 3 + i * 6 + j, none⟩ u) B t p o (sts.set i y) := by
  have := Box.set h (3 + (i * 6 + j)) u (by rw [rdC_len]; omega)
  rw [rdC_set t p o sts i j u y hi hj hy, show 3 + (i * 6 + j) = 3 + i * 6 + j by omega] at this
  exact this
theorem crCommit_any (B : Nat) (t k p c : Int) (o : Bool) (sts : List St) (w : World) (hR : Rd w B t k o sts) (h8 : sts.length = 8) (hk : k ≤ 8) (hs : Sane sts) :
    Calls Try.prog 16 #[.pointer (some ⟨B, 0, none⟩), .int .i64 p, .int .u64 c] w fun e w' => e = .returned (.int .i64 (commitE k o sts p)) ∧ Rd w' B t k o (commitT k o sts p c) ∧ QX B w w' := by
  have HR := Lib.hid hR
  have HS := Lib.hid hs
  clear hs
  by_cases hp : p < 0 ∨ k ≤ p
  · have HE := Lib.hid (show commitE k o sts p = 17 by unfold commitE; rw [if_pos hp])
    have HZ := Lib.hid (show commitT k o sts p c = sts by unfold commitT; rw [HE.out]; rfl)
    clear hR
    go_enter Try.func16, Try.ntmps16
    go_wp2_with (fail)
    refine (crPlayer_no B t k p o sts _ HR.out hp).mono ?_
    rintro e w1 ⟨rfl, rfl⟩
    go_wp2
    go_ret
    rw [HE.out, HZ.out]
    exact ⟨rfl, HR.out, QX.refl _ _⟩
  · obtain ⟨i, rfl⟩ := Int.eq_ofNat_of_zero_le (show 0 ≤ p by omega)
    have hi : i < sts.length := by omega
    have hik : (i : Int) < k := by omega
    have hlt := hR.1
    have hE0 : commitE k o sts i = if o then 20 else if sts[i].com then 4 else 0 := by unfold commitE; rw [if_neg hp, getS_nat sts i hi]
    go_enter Try.func16, Try.ntmps16
    go_wp2_with (fail)
    refine (crPlayer_yes B t k i o sts _ HR.out hik hk).mono ?_
    rintro e w1 ⟨rfl, rfl⟩
    go_wp2_with (fail)
    have hRd : Rd w1.drew B t k o sts := Box.q hR (Q.refl w1).drew
    have HQ := Lib.hid ((Q.refl w1).drew)
    refine wp_region_mix [(0, true), (1, true), (2, true), (3, true), (4, true), (5, true), (6, true), (7, true), (8, true), (9, true), (10, true), (11, true), (12, false), (13, false), (14, true)] (by kernel_rfl) (by kernel_rfl) (fun _ _ _ _ _ h => h) ?_
    generalize w1.drew = W at *
    have cO := Box.soft hRd 2 (.bool o) rfl
    have cC : ∀ x : After W, x.w.cell? ⟨B, 3 + i * 6, none⟩ = some (.bool sts[i].com) := Rd.soft hRd i hi 0 (by omega) (.bool sts[i].com) rfl
    have HRd := Lib.hid hRd
    clear hR hRd
    repeat (first | (refine mix_val rfl rfl ?_; go_big_quiet_step (fail); refine wpQuiet_nil ?_) | (refine mix_nil rfl rfl rfl ?_; go_big_quiet_step (fail); refine wpQuiet_nil ?_))
    clear cO cC
    refine mix_run rfl rfl ?_
    intro K hK
    go_wp2_with (fail)
    refine hK _ _ ((Q.refl _).alloc _) ?_
    clear hK K
    refine mix_run rfl rfl ?_
    intro K hK
    go_wp2_with (fail)
    refine (crFirst_any _ _ _ [(!o, 20), (!sts[i].com, 4)] _ (sl_checks W [(!o, 20), (!sts[i].com, 4)] _ 2 rfl (by omega)) (by omega) rfl).mono ?_
    rintro e w2 ⟨rfl, hq2⟩
    refine hK _ _ hq2 ?_
    clear hK K
    have HQ2 := Lib.hid (HQ.out.trans (Q.trans ((Q.refl W).alloc _) hq2))
    have HR2 := Lib.hid (Box.q HRd.out (Q.trans ((Q.refl W).alloc _) hq2))
    clear hq2
    have HF := Lib.hid (show firstE [(!o, 20), (!sts[i].com, 4)] = commitE k o sts i by rw [hE0]; unfold firstE firstE; cases o <;> cases sts[i].com <;> rfl)
    rw [HF.out]
    repeat (refine mix_val rfl rfl ?_; go_big_quiet_step (fail); refine wpQuiet_nil ?_)
    refine mix_end ?_
    by_cases hz : commitE k o sts i = 0
    · have hcom : sts[i].com = false := by
        rw [hE0] at hz
        cases o <;> cases h : sts[i].com <;> simp_all
      have hst := HS.out.fresh _ (List.getElem_mem hi) hcom
      have HZ := Lib.hid (show commitT k o sts i c = sts.set i ⟨true, false, c, 4⟩ by unfold commitT; rw [if_pos hz]; rfl)
      obtain ⟨d0, e0⟩ := Rd.st HR2.out i hi 0 (by omega) (.bool sts[i].com) rfl
      obtain ⟨d2, e2⟩ := Rd.st HR2.out i hi 2 (by omega) (.int .u64 sts[i].c) rfl
      rw [Nat.add_zero] at d0 e0
      have HB1 := Rd.set HR2.out i hi 0 (by omega) (.bool true) ⟨true, false, 0, 4⟩ (by rw [hst]; rfl)
      have HB2 := Lib.hid (Rd.set HB1 i (by simpa using hi) 2 (by omega) (.int .u64 c) ⟨true, false, c, 4⟩ (by simp; rfl))
      have HX := Lib.hid (((QX.of HQ2.out).trans (QX.set w2 B (3 + i * 6) (.bool true))).trans (QX.set _ B (3 + i * 6 + 2) (.int .u64 c)))
      rw [List.set_set, Nat.add_zero] at HB2
      have hlt2 := HR2.out.1
      have HZ0 := Lib.hid hz
      rw [hz]
      clear hE0 hz HB1
      go_wp2
      go_ret
      rw [HZ.out, HZ0.out]
      exact ⟨rfl, HB2.out, HX.out⟩
    · have hne : commitE k o sts i ≠ 0 := hz
      have HZ := Lib.hid (show commitT k o sts i c = sts by unfold commitT; rw [if_neg hz])
      have hb : (commitE k o sts i != 0) = true := by simpa using hz
      clear hE0
      go_wp2
      go_ret
      rw [HZ.out]
      exact ⟨rfl, HR2.out, QX.of HQ2.out⟩

theorem valid_code {a b f : Int} (h : errV a b f = 0) : ∃ c, 0 ≤ c ∧ c < 36 ∧ a = c % 3 - 1 ∧ b = c / 3 % 3 - 1 ∧ f = c / 9 := by
  have : inB a (-1) 1 = true ∧ inB b (-1) 1 = true ∧ inB f 0 3 = true := by
    unfold errV at h
    split at h
    · rename_i h'
      simpa [Bool.and_eq_true, and_assoc] using h'
    · cases h
  simp [inB] at this
  exact ⟨codeOf a b f, by unfold codeOf; omega, by unfold codeOf; omega, by unfold codeOf; omega, by unfold codeOf; omega, by unfold codeOf; omega⟩
theorem errV_bit (a b f : Int) : errV a b f = 0 ∨ errV a b f = 1 := by unfold errV; split <;> simp

theorem reveal_bits {o c r : Bool} {e : Int} (h : (if !o then 5 else if !c then 21 else if r then 4 else if e = 0 then 0 else (1 : Int)) = 0) : o = true ∧ c = true ∧ r = false ∧ e = 0 := by
  cases o <;> cases c <;> cases r <;> simp at h ⊢
  exact h
theorem reveal_err {o c r : Bool} {e X : Int} (h : (if !o then 5 else if !c then 21 else if r then 4 else if e = 0 then 0 else (1 : Int)) ≠ 0) :
    (if !o then 5 else if !c then 21 else if r then 4 else if e = 0 then X else (1 : Int)) = if !o then 5 else if !c then 21 else if r then 4 else if e = 0 then 0 else (1 : Int) := by
  cases o <;> cases c <;> cases r <;> simp at h ⊢
  simp [h]
theorem flat_setL (m : Nat) : ∀ (l : List (List Value)) (i j : Nat) (u : Value) (c : List Value), (∀ x ∈ l, x.length = m) → l[i]? = some c → j < m → l.flatten.set (i * m + j) u = (l.set i (c.set j u)).flatten
  | [], i, j, u, c, _, h, _ => by simp at h
  | x :: l, 0, j, u, c, hm, h, hj => by
    simp at h
    subst h
    rw [List.flatten_cons, List.set_append_left _ _ (by rw [hm x List.mem_cons_self]; omega)]
    simp
  | x :: l, i + 1, j, u, c, hm, h, hj => by
    have hx := hm x List.mem_cons_self
    rw [List.flatten_cons, List.set_append_right _ _ (by rw [hx, Nat.succ_mul]; omega), hx, show (i + 1) * m + j - m = i * m + j by rw [Nat.succ_mul]; omega,
      flat_setL m l i j u c (fun y hy => hm y (List.mem_cons_of_mem _ hy)) (by simpa using h) hj]
    simp
/-- the cells of a round whose states are given by their cells -/
def rawC (t p : Int) (o : Bool) (cs : List (List Value)) : List Value := .int .i64 t :: .int .i64 p :: .bool o :: cs.flatten
theorem rdC_raw (t p : Int) (o : Bool) (sts : List St) : rdC t p o sts = rawC t p o (sts.map stC) := by unfold rdC rawC; rw [List.flatMap_def]
def Raw (w : World) (B : Nat) (t p : Int) (o : Bool) (cs : List (List Value)) : Prop := Box w B (rawC t p o cs) ∧ ∀ x ∈ cs, x.length = 6
theorem rawC_len (t p : Int) (o : Bool) (cs : List (List Value)) (h : ∀ x ∈ cs, x.length = 6) : (rawC t p o cs).length = 3 + cs.length * 6 := by
  have : ∀ l : List (List Value), (∀ x ∈ l, x.length = 6) → l.flatten.length = l.length * 6 := by
    intro l
    induction l with
    | nil => intro _; rfl
    | cons x l ih => intro h; rw [List.flatten_cons, List.length_append, ih (fun y hy => h y (List.mem_cons_of_mem _ hy)), h x List.mem_cons_self]; simp; omega
  unfold rawC
  simp only [List.length_cons]
  rw [this cs h]
  omega
theorem Raw.set {w : World} {B : Nat} {t p : Int} {o : Bool} {cs : List (List Value)} (h : Raw w B t p o cs) (i j : Nat) (c : List Value) (hi : cs[i]? = some c) (hj : j < 6) (u : Value) : Raw (w.setCell ⟨B, 3 + i * 6 + j, none⟩ u) B t p o (cs.set i (c.set j u)) := by
  obtain ⟨h1, h2⟩ := h
  have hil := (List.getElem?_eq_some_iff.1 hi).1
  have e : (rawC t p o cs).set (3 + (i * 6 + j)) u = rawC t p o (cs.set i (c.set j u)) := by
    unfold rawC
    rw [show 3 + (i * 6 + j) = (i * 6 + j) + 1 + 1 + 1 by omega]
    simp only [List.set_cons_succ]
    rw [flat_setL 6 cs i j u c h2 hi hj]
  refine ⟨?_, ?_⟩
  · have := Box.set h1 (3 + (i * 6 + j)) u (by rw [rawC_len t p o cs h2]; omega)
    rw [e, show 3 + (i * 6 + j) = 3 + i * 6 + j by omega] at this
    exact this
  · intro x hx
    rcases List.mem_or_eq_of_mem_set hx with hx | hx
    · exact h2 x hx
    · rw [hx, List.length_set]
      exact h2 c (List.mem_of_getElem? hi)
theorem Rd.set4 {w : World} {B : Nat} {t p : Int} {o : Bool} {sts : List St} (h : Rd w B t p o sts) (i : Nat) (hi : i < sts.length) (hc : sts[i].com = true) (x : Int) :
    Rd ((((w.setCell ⟨B, 3 + i * 6 + 1, none⟩ (.bool true)).setCell ⟨B, 3 + i * 6 + 3, none⟩ (.int .i64 (x % 3 - 1))).setCell ⟨B, 3 + i * 6 + 4, none⟩ (.int .i64 (x / 3 % 3 - 1))).setCell ⟨B, 3 + i * 6 + 5, none⟩ (.int .i64 (x / 9))) B t p o (sts.set i ⟨true, true, sts[i].c, x⟩) := by
  have r0 : Raw w B t p o (sts.map stC) := ⟨by rw [← rdC_raw]; exact h, by intro y hy; obtain ⟨s, _, rfl⟩ := List.mem_map.1 hy; rfl⟩
  have l0 : (sts.map stC)[i]? = some (stC sts[i]) := by simp [hi]
  have r1 := r0.set i 1 _ l0 (by omega) (.bool true)
  have r2 := r1.set i 3 _ (by rw [List.getElem?_set_self (by simpa using hi)]) (by omega) (.int .i64 (x % 3 - 1))
  have r3 := r2.set i 4 _ (by rw [List.getElem?_set_self (by simpa using hi)]) (by omega) (.int .i64 (x / 3 % 3 - 1))
  have r4 := r3.set i 5 _ (by rw [List.getElem?_set_self (by simpa using hi)]) (by omega) (.int .i64 (x / 9))
  have e : stC ⟨true, true, sts[i].c, x⟩ = ((((stC sts[i]).set 1 (.bool true)).set 3 (.int .i64 (x % 3 - 1))).set 4 (.int .i64 (x / 3 % 3 - 1))).set 5 (.int .i64 (x / 9)) := by
    unfold stC
    rw [hc]
    rfl
  have := r4.1
  rw [List.set_set, List.set_set, List.set_set, ← e, ← List.map_set, ← rdC_raw] at this
  exact this
theorem crReveal_any (B : Nat) (t k p a b f n : Int) (o : Bool) (sts : List St) (w : World) (hR : Rd w B t k o sts) (h8 : sts.length = 8) (hk : k ≤ 8) (hs : Sane sts) (hn : U64 n) (ht : -9223372036854775808 ≤ t ∧ t ≤ 9223372036854775807) :
    Calls Try.prog 17 #[.pointer (some ⟨B, 0, none⟩), .int .i64 p, .agg #[.int .i64 a, .int .i64 b, .int .i64 f], .int .u64 n] w fun e w' => e = .returned (.int .i64 (revealE t k o sts p a b f n)) ∧ Rd w' B t k o (revealT t k o sts p a b f n) ∧ QX B w w' := by
  have HR := Lib.hid hR
  have HS := Lib.hid hs
  have HT := Lib.hid ht
  have HN := Lib.hid hn
  clear hs ht hn
  have hlt := hR.1
  have HQ0 := Lib.hid ((Q.refl w).alloc (.cells #[.int .i64 a, .int .i64 b, .int .i64 f] 25))
  have HBI := Lib.hid (Box.new w [.int .i64 a, .int .i64 b, .int .i64 f] 25)
  by_cases hp : p < 0 ∨ k ≤ p
  · have HE := Lib.hid (show revealE t k o sts p a b f n = 17 by unfold revealE; rw [if_pos hp])
    have HZ := Lib.hid (show revealT t k o sts p a b f n = sts by unfold revealT; rw [HE.out]; rfl)
    clear hR
    go_enter Try.func17, Try.ntmps17
    go_wp2_with (fail)
    refine (crPlayer_no B t k p o sts _ (Box.q HR.out HQ0.out) hp).mono ?_
    rintro e w1 ⟨rfl, rfl⟩
    go_wp2
    go_ret
    rw [HE.out, HZ.out]
    exact ⟨rfl, Box.q HR.out HQ0.out, QX.of HQ0.out⟩
  · obtain ⟨i, rfl⟩ := Int.eq_ofNat_of_zero_le (show 0 ≤ p by omega)
    have hi : i < sts.length := by omega
    have hik : (i : Int) < k := by omega
    have hE0 : revealE t k o sts i a b f n = if !o then 5 else if !sts[i].com then 21 else if sts[i].rev then 4 else if errV a b f = 0 then (if comZ i t (codeOf a b f) n = sts[i].c then 0 else 21) else 1 := by unfold revealE; rw [if_neg hp, getS_nat sts i hi]
    have hE1 : revealT t k o sts i a b f n = if revealE t k o sts i a b f n = 0 then sts.set i ⟨true, true, sts[i].c, codeOf a b f⟩ else sts := by unfold revealT; rw [getS_nat sts i hi]; rfl
    have HE0 := Lib.hid hE0
    have HE1 := Lib.hid hE1
    clear hE0 hE1
    go_enter Try.func17, Try.ntmps17
    go_wp2_with (fail)
    refine (crPlayer_yes B t k i o sts _ (Box.q HR.out HQ0.out) hik hk).mono ?_
    rintro e w1 ⟨rfl, rfl⟩
    go_wp2_with (fail)
    have HQ := Lib.hid HQ0.out.drew
    refine wp_region_mix [(0, true), (1, true), (2, true), (3, true), (4, true), (5, true), (6, true), (7, true), (8, true), (9, true), (10, true), (11, true), (12, true), (13, true), (14, true), (15, true), (16, true), (17, false), (18, true), (19, true), (20, false), (21, false), (22, true)] (by kernel_rfl) (by kernel_rfl) (fun _ _ _ _ _ h => h) ?_
    have HI := Lib.hid (Box.q HBI.out (Q.refl _).drew)
    have hRd := Box.q HR.out HQ.out
    generalize (w.alloc (.cells #[.int .i64 a, .int .i64 b, .int .i64 f] 25)).drew = W at *
    generalize w.heap.size = BI at *
    obtain ⟨ci0, ci1, ci2⟩ := Box.soft3 HI.out
    have cO := Box.soft hRd 2 (.bool o) rfl
    have cC : ∀ x : After W, x.w.cell? ⟨B, 3 + i * 6, none⟩ = some (.bool sts[i].com) := Rd.soft hRd i hi 0 (by omega) (.bool sts[i].com) rfl
    have cR := Rd.soft hRd i hi 1 (by omega) (.bool sts[i].rev) rfl
    have HRd := Lib.hid hRd
    clear hR hRd
    repeat (first | (refine mix_val rfl rfl ?_; go_big_quiet_step (fail); refine wpQuiet_nil ?_) | (refine mix_nil rfl rfl rfl ?_; go_big_quiet_step (fail); refine wpQuiet_nil ?_))
    clear cO cC cR ci0 ci1 ci2
    refine mix_run rfl rfl ?_
    intro K hK
    go_wp2_with (fail)
    refine (iValidate_any a b f _).mono ?_
    rintro e w2 ⟨rfl, hq2⟩
    refine hK _ _ hq2 ?_
    clear hK K
    repeat (refine mix_val rfl rfl ?_; go_big_quiet_step (fail); refine wpQuiet_nil ?_)
    refine mix_run rfl rfl ?_
    intro K hK
    go_wp2_with (fail)
    refine hK _ _ ((Q.refl _).alloc _) ?_
    clear hK K
    refine mix_run rfl rfl ?_
    intro K hK
    go_wp2_with (fail)
    refine (crFirst_any _ _ _ [(o, 5), (sts[i].com, 21), (!sts[i].rev, 4), (errV a b f == 0, 1)] _ (sl_checks w2 [(o, 5), (sts[i].com, 21), (!sts[i].rev, 4), (errV a b f == 0, 1)] _ 4 rfl (by omega)) (by omega) rfl).mono ?_
    rintro e w3 ⟨rfl, hq3⟩
    refine hK _ _ hq3 ?_
    clear hK K
    have hqw := (hq2.trans ((Q.refl w2).alloc _)).trans hq3
    have HR3 := Lib.hid (Box.q HRd.out hqw)
    have HI3 := Lib.hid (Box.q HI.out hqw)
    have HQ3 := Lib.hid (HQ.out.trans hqw)
    clear hq2 hq3 hqw HRd HI HQ HBI
    have HF0 := Lib.hid (show firstE [(o, 5), (sts[i].com, 21), (!sts[i].rev, 4), (errV a b f == 0, 1)] = if !o then 5 else if !sts[i].com then 21 else if sts[i].rev then 4 else if errV a b f = 0 then 0 else 1 by
      unfold firstE firstE firstE firstE firstE
      rcases errV_bit a b f with h | h <;> rw [h] <;> cases o <;> cases sts[i].com <;> cases sts[i].rev <;> rfl)
    generalize firstE [(o, 5), (sts[i].com, 21), (!sts[i].rev, 4), (errV a b f == 0, 1)] = fe at *
    repeat (refine mix_val rfl rfl ?_; go_big_quiet_step (fail); refine wpQuiet_nil ?_)
    refine mix_end ?_
    by_cases hz : fe = 0
    · have hall : o = true ∧ sts[i].com = true ∧ sts[i].rev = false ∧ errV a b f = 0 := reveal_bits (HF0.out.symm.trans hz)
      obtain ⟨ho, hcm, hrv, hev⟩ := hall
      obtain ⟨x, hx0, hx1, rfl, rfl, rfl⟩ := valid_code hev
      have hE2 : revealE t k o sts i (x % 3 - 1) (x / 3 % 3 - 1) (x / 9) n = if comZ i t x n = sts[i].c then 0 else 21 := by
        rw [HE0.out, codeOf_code, if_neg (by rw [ho]; decide), if_neg (by rw [hcm]; decide), if_neg (by rw [hrv]; decide), if_pos hev]
      have hE3 := HE1.out
      rw [codeOf_code] at hE3
      have HE2 := Lib.hid hE2
      have HE3 := Lib.hid hE3
      have HHO := Lib.hid ho
      have HCM := Lib.hid hcm
      clear hE2 hE3 HF0 HE0 HE1 hcm hev ho
      subst hz
      go_wp2_with (fail)
      have HQ4 := Lib.hid HQ3.out.drew
      refine wp_region_mix [(0, true), (1, true), (2, true), (3, true), (4, true), (5, true), (6, true), (8, true), (9, true), (10, true), (11, true), (7, false), (12, true)] (by kernel_rfl) (by kernel_rfl) (fun _ _ _ _ _ h => h) ?_
      have hRd := Box.q HR3.out (Q.refl w3).drew
      have HI4 := Lib.hid (Box.q HI3.out (Q.refl w3).drew)
      generalize w3.drew = W4 at *
      obtain ⟨ci0, ci1, ci2⟩ := Box.soft3 HI4.out
      have cT := Box.soft hRd 0 (.int .i64 t) rfl
      have cH := Rd.soft hRd i hi 2 (by omega) (.int .u64 sts[i].c) rfl
      have HRd := Lib.hid hRd
      clear hRd HR3 HI3 HQ3
      repeat (first | (refine mix_val rfl rfl ?_; go_big_quiet_step (fail); refine wpQuiet_nil ?_) | (refine mix_nil rfl rfl rfl ?_; go_big_quiet_step (fail); refine wpQuiet_nil ?_))
      clear cT cH ci0 ci1 ci2
      refine mix_run rfl rfl ?_
      intro K hK
      go_wp2_with (fail)
      refine (crCommitment_any i t x n _ (by omega) HT.out ⟨hx0, hx1⟩ HN.out).mono ?_
      rintro e w5 ⟨rfl, hq5⟩
      refine hK _ _ hq5 ?_
      clear hK K
      have HQ5 := Lib.hid (HQ4.out.trans hq5)
      have HR5 := Lib.hid (Box.q HRd.out hq5)
      have HI5 := Lib.hid (Box.q HI4.out hq5)
      clear hq5 HQ4 HRd HI4
      repeat (refine mix_val rfl rfl ?_; go_big_quiet_step (fail); refine wpQuiet_nil ?_)
      refine mix_end ?_
      by_cases hcz : comZ i t x n = sts[i].c
      · have hne : (comZ i t x n != sts[i].c) = false := by simpa using hcz
        have HR0 := Lib.hid (show revealE t k o sts i (x % 3 - 1) (x / 3 % 3 - 1) (x / 9) n = 0 by rw [HE2.out, if_pos hcz])
        have HS0 := Lib.hid (show revealT t k o sts i (x % 3 - 1) (x / 3 % 3 - 1) (x / 9) n = sts.set i ⟨true, true, sts[i].c, x⟩ by rw [HE3.out, if_pos HR0.out])
        obtain ⟨d1, e1⟩ := Rd.st HR5.out i hi 1 (by omega) (.bool sts[i].rev) rfl
        obtain ⟨d3, e3⟩ := Rd.st HR5.out i hi 3 (by omega) _ rfl
        obtain ⟨d4, e4⟩ := Rd.st HR5.out i hi 4 (by omega) _ rfl
        obtain ⟨d5, e5⟩ := Rd.st HR5.out i hi 5 (by omega) _ rfl
        obtain ⟨_, ci0, ci1, ci2⟩ := Box.here3 HI5.out
        have hlt5 := HR5.out.1
        have hne2 : BI ≠ B := by omega
        clear hcz
        go_wp2_with (fail)
        clear HR HS HT HN HQ0 HE2 HE3
        go_region
        go_wp2
        go_ret
        rw [HR0.out, HS0.out]
        refine ⟨rfl, Box.q (Rd.set4 (t := t) (p := k) (o := o) HR5.out i hi HCM.out x) (Q.refl _).drew, ?_⟩
        exact ((((QX.of HQ5.out).trans (QX.set _ _ _ _)).trans (QX.set _ _ _ _)).trans (QX.set _ _ _ _)).trans ((QX.set _ _ _ _).trans (QX.of (Q.refl _).drew))
      · have hne : (comZ i t x n != sts[i].c) = true := by simpa using hcz
        have HR0 := Lib.hid (show revealE t k o sts i (x % 3 - 1) (x / 3 % 3 - 1) (x / 9) n = 21 by rw [HE2.out, if_neg hcz])
        have HS0 := Lib.hid (show revealT t k o sts i (x % 3 - 1) (x / 3 % 3 - 1) (x / 9) n = sts by rw [HE3.out, if_neg (by rw [HR0.out]; decide)])
        clear hcz
        go_wp2
        go_ret
        rw [HR0.out, HS0.out]
        exact ⟨rfl, HR5.out, QX.of HQ5.out⟩
    · have hb : (fe != 0) = true := by simpa using hz
      have HR0 := Lib.hid (show revealE t k o sts i a b f n = fe by
        rw [HE0.out, HF0.out]
        exact reveal_err (fun e => hz (HF0.out.trans e)))
      have HS0 := Lib.hid (show revealT t k o sts i a b f n = sts by rw [HE1.out, if_neg (by rw [HR0.out]; exact hz)])
      clear HF0
      go_wp2
      go_ret
      rw [HR0.out, HS0.out]
      exact ⟨rfl, HR3.out, QX.of HQ3.out⟩
end Go.Proofs.Ytcpicifnadoeoaa
