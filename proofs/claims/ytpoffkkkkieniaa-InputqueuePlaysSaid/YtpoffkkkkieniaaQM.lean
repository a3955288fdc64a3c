/- The input queue as plain Lean, and how it lies in memory. -/
import Derived.Test.YtpoffkkkkieniaaApp
import Derived.Test.YtpoffkkkkieniaaRowsC
namespace Go.Proofs.Ytpoffkkkkieniaa
open Go Go.RowKit

/-- a queue: players, wait, what was accepted for a tick (by player), what is fixed -/
structure QS where
  k : Nat
  wt : Nat
  acc : Int → List (Option Int)
  tks : List (List Int × List Bool)
def none8 : List (Option Int) := List.replicate 8 none
def qs0 (k wt : Nat) : QS := ⟨k, wt, fun _ => none8, []⟩
/-- the error of Offer -/
def offE (s : QS) (now p t a b f : Int) : Int :=
  if p < 0 ∨ s.k ≤ p then 17 else if errV a b f ≠ 0 then errV a b f else if t < 0 ∨ 6000 ≤ t ∨ now + 8 < t then 18
  else if t < s.tks.length then 20 else if ((s.acc t).getD p.toNat none).isSome then 4 else 0
def accSet (s : QS) (t : Int) (p : Nat) (c : Int) : QS := { s with acc := fun x => if x = t then (s.acc t).set p (some c) else s.acc x }
def offT (s : QS) (now p t a b f : Int) : QS := if offE s now p t a b f = 0 then accSet s t p.toNat (codeOf a b f) else s
/-- the code of a player's input in the tick before -/
def prevC (s : QS) (p : Nat) : Int := match s.tks.getLast? with | none => 4 | some x => x.1.getD p 4
def fixI (s : QS) (p : Nat) : Int := match (s.acc s.tks.length).getD p none with | some c => c | none => prevC s p % 9
def fixM (s : QS) (p : Nat) : Bool := !((s.acc s.tks.length).getD p none).isSome
def fixRow (s : QS) : List Int × List Bool := ((List.range s.k).map (fixI s), (List.range s.k).map (fixM s))
def fixT (s : QS) : QS := { s with tks := s.tks ++ [fixRow s] }
def compl (s : QS) : Bool := (List.range s.k).all (fun p => ((s.acc s.tks.length).getD p none).isSome)
def due (s : QS) (now : Int) : Bool := compl s || decide ((s.tks.length : Int) + s.wt ≤ now)
def advN : Nat → QS → Int → QS
  | 0, s, _ => s
  | n + 1, s, now => if due s now then advN n (fixT s) now else s
def advT (s : QS) (now : Int) : QS := advN (6000 - s.tks.length) s now
theorem advT_due {s : QS} {now : Int} (h : s.tks.length < 6000) (hd : due s now = true) : advT s now = advT (fixT s) now := by
  unfold advT
  rw [show 6000 - s.tks.length = (6000 - (fixT s).tks.length) + 1 by simp [fixT]; omega]
  rw [advN, if_pos hd]
theorem advT_not {s : QS} {now : Int} (hd : due s now = false) : advT s now = s := by
  unfold advT
  cases 6000 - s.tks.length with
  | zero => rfl
  | succ n => rw [advN, if_neg (by rw [hd]; decide)]
theorem advT_end {s : QS} {now : Int} (h : 6000 ≤ s.tks.length) : advT s now = s := by
  unfold advT
  rw [show 6000 - s.tks.length = 0 by omega]
  rfl

/-- what holds of every state that the calls reach -/
structure OkS (s : QS) : Prop where
  k1 : 1 ≤ s.k
  k8 : s.k ≤ 8
  wt8 : s.wt ≤ 8
  len : ∀ t, (s.acc t).length = 8
  code : ∀ t c, some c ∈ s.acc t → 0 ≤ c ∧ c < 36
  far : ∀ t p, s.k ≤ p → (s.acc t).getD p none = none
  tk1 : ∀ x ∈ s.tks, x.1.length = s.k ∧ x.2.length = s.k ∧ ∀ c ∈ x.1, 0 ≤ c ∧ c < 36
  n6000 : s.tks.length ≤ 6000
theorem ok0 {k wt : Nat} (h1 : 1 ≤ k) (h8 : k ≤ 8) (hw : wt ≤ 8) : OkS (qs0 k wt) where
  k1 := h1
  k8 := h8
  wt8 := hw
  len := fun _ => by simp [qs0, none8]
  code := fun t c h => by simp [qs0, none8] at h
  far := fun t p _ => by
    show (List.replicate 8 none).getD p none = none
    rw [List.getD, List.getElem?_replicate]
    split <;> rfl
  tk1 := fun x h => by simp [qs0] at h
  n6000 := by simp [qs0]
theorem ok_prev {s : QS} (h : OkS s) (p : Nat) : 0 ≤ prevC s p ∧ prevC s p < 36 := by
  unfold prevC
  split
  · decide
  · rename_i x hx
    have hm := List.mem_of_getLast? hx
    obtain ⟨h1, _, h2⟩ := h.tk1 x hm
    by_cases hp : p < x.1.length
    · have := h2 x.1[p] (List.getElem_mem hp)
      simpa [List.getD, hp] using this
    · simp [List.getD, List.getElem?_eq_none (Nat.le_of_not_lt hp)]
theorem ok_fixI {s : QS} (h : OkS s) (p : Nat) : 0 ≤ fixI s p ∧ fixI s p < 36 := by
  unfold fixI
  split
  · rename_i c hc
    refine h.code s.tks.length c ?_
    rw [← hc]
    have hp : p < (s.acc s.tks.length).length := by
      rcases Nat.lt_or_ge p (s.acc s.tks.length).length with h' | h'
      · exact h'
      · simp [List.getD, List.getElem?_eq_none h'] at hc
    simp [List.getD, hp]
  · have := ok_prev h p
    omega
theorem ok_fix {s : QS} (h : OkS s) (hl : s.tks.length < 6000) : OkS (fixT s) where
  k1 := h.k1
  k8 := h.k8
  wt8 := h.wt8
  len := h.len
  code := h.code
  far := h.far
  tk1 := fun x hx => by
    rcases List.mem_append.1 hx with hx | hx
    · exact h.tk1 x hx
    · rw [List.mem_singleton.1 hx]
      refine ⟨by simp [fixRow, fixT], by simp [fixRow, fixT], fun c hc => ?_⟩
      obtain ⟨p, _, rfl⟩ := List.mem_map.1 hc
      exact ok_fixI h p
  n6000 := by simp [fixT]; omega
theorem ok_set {s : QS} (h : OkS s) (t : Int) (p : Nat) (c : Int) (hp : p < s.k) (hc : 0 ≤ c ∧ c < 36) : OkS (accSet s t p c) where
  k1 := h.k1
  k8 := h.k8
  wt8 := h.wt8
  len := fun u => by
    show (if u = t then (s.acc t).set p (some c) else s.acc u).length = 8
    split
    · rw [List.length_set]; exact h.len t
    · exact h.len u
  code := fun u d hd => by
    replace hd : some d ∈ (if u = t then (s.acc t).set p (some c) else s.acc u) := hd
    split at hd
    · rcases List.mem_or_eq_of_mem_set hd with hd | hd
      · exact h.code t d hd
      · cases hd; exact hc
    · exact h.code u d hd
  far := fun u q hq => by
    show (if u = t then (s.acc t).set p (some c) else s.acc u).getD q none = none
    split
    · have hq' : s.k ≤ q := hq
      have := h.far t q hq
      rw [List.getD, List.getElem?_set_ne (by omega)]
      exact this
    · exact h.far u q hq
  tk1 := h.tk1
  n6000 := h.n6000
theorem off_zero {s : QS} {now p t a b f : Int} (h : offE s now p t a b f = 0) : 0 ≤ p ∧ p < s.k ∧ errV a b f = 0 ∧ 0 ≤ t ∧ t < 6000 ∧ t ≤ now + 8 ∧ s.tks.length ≤ t ∧ (s.acc t).getD p.toNat none = none := by
  unfold offE at h
  split at h
  · cases h
  · split at h
    · contradiction
    · split at h
      · cases h
      · split at h
        · cases h
        · split at h
          · cases h
          · rename_i h1 h2 h3 h4 h5
            exact ⟨by omega, by omega, by omega, by omega, by omega, by omega, by omega, by simpa using h5⟩
theorem errV_dom {a b f : Int} (h : errV a b f = 0) : 0 ≤ codeOf a b f ∧ codeOf a b f < 36 := by
  unfold errV at h
  split at h
  · rename_i h'
    simp [inB] at h'
    unfold codeOf
    omega
  · cases h
theorem valid_codeQ {a b f : Int} (h : errV a b f = 0) : ∃ c, 0 ≤ c ∧ c < 36 ∧ a = c % 3 - 1 ∧ b = c / 3 % 3 - 1 ∧ f = c / 9 := by
  have : inB a (-1) 1 = true ∧ inB b (-1) 1 = true ∧ inB f 0 3 = true := by
    unfold errV at h
    split at h
    · rename_i h'
      simpa [Bool.and_eq_true, and_assoc] using h'
    · cases h
  simp [inB] at this
  exact ⟨codeOf a b f, by unfold codeOf; omega, by unfold codeOf; omega, by unfold codeOf; omega, by unfold codeOf; omega, by unfold codeOf; omega⟩
theorem ok_off {s : QS} (h : OkS s) (now p t a b f : Int) : OkS (offT s now p t a b f) := by
  unfold offT
  split
  · rename_i hz
    obtain ⟨h1, h2, h3, _⟩ := off_zero hz
    exact ok_set h t p.toNat _ (by omega) (errV_dom h3)
  · exact h
theorem ok_advN : ∀ (n : Nat) {s : QS} (now : Int), OkS s → s.tks.length + n ≤ 6000 → OkS (advN n s now)
  | 0, _, _, h, _ => h
  | n + 1, s, now, h, hl => by
    unfold advN
    split
    · exact ok_advN n now (ok_fix h (by omega)) (by simp [fixT]; omega)
    · exact h
theorem ok_adv {s : QS} (h : OkS s) (now : Int) : OkS (advT s now) := ok_advN _ now h (by have := h.n6000; omega)

/-- how many are given -/
def cntR (r : List (Option Int)) : Nat := (r.filter Option.isSome).length
theorem cntR_set {r : List (Option Int)} {p : Nat} {c : Int} (hp : p < r.length) (hn : r.getD p none = none) : cntR (r.set p (some c)) = cntR r + 1 := by
  induction r generalizing p with
  | nil => simp at hp
  | cons x r ih =>
    cases p with
    | zero =>
      simp [List.getD] at hn
      subst hn
      simp [cntR]
    | succ p =>
      have := ih (p := p) (by simpa using hp) (by simpa [List.getD] using hn)
      unfold cntR at this ⊢
      rw [List.set_cons_succ, List.filter_cons, List.filter_cons]
      split <;> simp [this]
theorem cntR_le (r : List (Option Int)) : cntR r ≤ r.length := List.length_filter_le _ _
theorem cntR_all : ∀ (r : List (Option Int)) (k : Nat), k ≤ r.length → (∀ p, k ≤ p → r.getD p none = none) → (k ≤ cntR r ↔ ∀ p, p < k → (r.getD p none).isSome = true)
  | [], k, hk, _ => by
    have : k = 0 := by simpa using hk
    subst this
    simp
  | x :: r, 0, _, _ => by simp
  | x :: r, k + 1, hk, hf => by
    have ih := cntR_all r k (by simpa using hk) (fun p hp => by have := hf (p + 1) (by omega); simpa [List.getD] using this)
    have hle : cntR r ≤ k := by
      have : ∀ (r : List (Option Int)) (k : Nat), (∀ p, k ≤ p → r.getD p none = none) → cntR r ≤ k := by
        intro r
        induction r with
        | nil => intro k _; simp [cntR]
        | cons y r ih2 =>
          intro k h
          cases k with
          | zero =>
            have h0 := h 0 (by omega)
            simp [List.getD] at h0
            subst h0
            have := ih2 0 (fun p _ => by have := h (p + 1) (by omega); simpa [List.getD] using this)
            unfold cntR at this ⊢
            simpa using this
          | succ k =>
            have := ih2 k (fun p hp => by have := h (p + 1) (by omega); simpa [List.getD] using this)
            unfold cntR at this ⊢
            rw [List.filter_cons]
            split
            · simp; omega
            · omega
      exact this r k (fun p hp => by have := hf (p + 1) (by omega); simpa [List.getD] using this)
    constructor
    · intro h p hp
      cases hx : x.isSome with
      | false =>
        exfalso
        unfold cntR at h hle
        rw [List.filter_cons, if_neg (by rw [hx]; decide)] at h
        omega
      | true =>
        cases p with
        | zero => simpa [List.getD] using hx
        | succ p =>
          have h2 : k ≤ cntR r := by
            unfold cntR at h ⊢
            rw [List.filter_cons, if_pos hx] at h
            simp at h
            omega
          have := ih.1 h2 p (by omega)
          simpa [List.getD] using this
    · intro h
      have h0 := h 0 (by omega)
      simp only [List.getD, List.getElem?_cons_zero, Option.getD_some] at h0
      have h1 := ih.2 (fun p hp => by have := h (p + 1) (by omega); simpa [List.getD] using this)
      unfold cntR at h1 ⊢
      rw [List.filter_cons, if_pos h0]
      simp
      omega
theorem compl_cnt {s : QS} (h : OkS s) : compl s = decide (s.k ≤ cntR (s.acc s.tks.length)) := by
  have := cntR_all (s.acc s.tks.length) s.k (by rw [h.len]; exact h.k8) (h.far _)
  unfold compl
  rw [Bool.eq_iff_iff]
  simp only [List.all_eq_true, List.mem_range, decide_eq_true_eq]
  exact this.symm

/-! in memory -/
theorem flatG {α : Type} (f : α → List Value) (m : Nat) (hf : ∀ x, (f x).length = m) (l : List α) (i j : Nat) (hi : i < l.length) (hj : j < m) : (l.flatMap f)[i * m + j]? = (f l[i])[j]? := by
  induction l generalizing i with
  | nil => simp at hi
  | cons x l ih =>
    rw [List.flatMap_cons]
    cases i with
    | zero => rw [List.getElem?_append_left (by rw [hf]; omega)]; simp
    | succ i =>
      rw [List.getElem?_append_right (by rw [hf, Nat.succ_mul]; omega), hf, show (i + 1) * m + j - m = i * m + j by rw [Nat.succ_mul]; omega, ih i (by simpa using hi)]
      simp
theorem flatL {α : Type} (f : α → List Value) (m : Nat) (hf : ∀ x, (f x).length = m) (l : List α) : (l.flatMap f).length = l.length * m := by
  induction l with
  | nil => simp
  | cons x l ih => rw [List.flatMap_cons, List.length_append, ih, hf, List.length_cons, Nat.succ_mul]; omega
def oIn (o : Option Int) : List Value := inC (o.getD 4)
def oHave (o : Option Int) : Value := .bool o.isSome
/-- the cells of a tick's pending inputs -/
def rowC (r : List (Option Int)) : List Value := r.flatMap oIn ++ (r.map oHave ++ [.int .i64 (cntR r)])
theorem rowC_in (r : List (Option Int)) (hr : r.length = 8) (p j : Nat) (hp : p < 8) (hj : j < 3) : (rowC r)[p * 3 + j]? = (inC ((r.getD p none).getD 4))[j]? := by
  unfold rowC
  rw [List.getElem?_append_left (by rw [flatL oIn 3 (fun _ => rfl), hr]; omega), flatG oIn 3 (fun _ => rfl) r p j (by omega) hj]
  simp [oIn, List.getD, hr, hp]
theorem rowC_have (r : List (Option Int)) (hr : r.length = 8) (p : Nat) (hp : p < 8) : (rowC r)[24 + p]? = some (.bool (r.getD p none).isSome) := by
  unfold rowC
  rw [List.getElem?_append_right (by rw [flatL oIn 3 (fun _ => rfl), hr]; omega), flatL oIn 3 (fun _ => rfl), hr, show 24 + p - 8 * 3 = p by omega, List.getElem?_append_left (by simp; omega)]
  simp [oHave, List.getD, hr, hp]
theorem rowC_n (r : List (Option Int)) (hr : r.length = 8) : (rowC r)[32]? = some (.int .i64 (cntR r)) := by
  unfold rowC
  rw [List.getElem?_append_right (by rw [flatL oIn 3 (fun _ => rfl), hr]; omega), flatL oIn 3 (fun _ => rfl), hr, List.getElem?_append_right (by simp; omega)]
  simp [hr]
theorem rowC_len (r : List (Option Int)) (hr : r.length = 8) : (rowC r).length = 33 := by
  unfold rowC
  rw [List.length_append, flatL oIn 3 (fun _ => rfl)]
  simp [hr]
/-- the cells, once player p's input has been stored -/
theorem rowC_set (r : List (Option Int)) (hr : r.length = 8) (p : Nat) (hp : p < 8) (hn : r.getD p none = none) (c : Int) :
    (((((rowC r).set (p * 3) (.int .i64 (c % 3 - 1))).set (p * 3 + 1) (.int .i64 (c / 3 % 3 - 1))).set (p * 3 + 2) (.int .i64 (c / 9))).set (24 + p) (.bool true)).set 32 (.int .i64 ((cntR r : Int) + 1)) = rowC (r.set p (some c)) := by
  have hr' : (r.set p (some c)).length = 8 := by rw [List.length_set]; exact hr
  apply List.ext_getElem?
  intro i
  have hl := rowC_len r hr
  have hl' := rowC_len _ hr'
  rcases Nat.lt_or_ge i 33 with hi | hi
  · rcases Nat.lt_or_ge i 24 with h24 | h24
    · obtain ⟨q, j, hj, hq⟩ : ∃ q j, j < 3 ∧ i = q * 3 + j := ⟨i / 3, i % 3, by omega, by omega⟩
      subst hq
      rw [rowC_in _ hr' q j (by omega) hj]
      rw [List.getElem?_set_ne (by omega), List.getElem?_set_ne (by omega)]
      by_cases hqp : q = p
      · subst hqp
        have e1 : ((r.set q (some c)).getD q none).getD 4 = c := by simp [List.getD, hr, hp]
        rw [e1]
        match j, hj with
        | 0, _ => rw [List.getElem?_set_ne (by omega), List.getElem?_set_ne (by omega), Nat.add_zero, List.getElem?_set_self (by omega)]; rfl
        | 1, _ => rw [List.getElem?_set_ne (by omega), List.getElem?_set_self (by simp; omega)]; rfl
        | 2, _ => rw [List.getElem?_set_self (by simp; omega)]; rfl
      · have e1 : (r.set p (some c)).getD q none = r.getD q none := by simp only [List.getD]; rw [List.getElem?_set_ne (fun e => hqp e.symm)]
        rw [e1, List.getElem?_set_ne (by omega), List.getElem?_set_ne (by omega), List.getElem?_set_ne (by omega)]
        exact rowC_in r hr q j (by omega) hj
    · rcases Nat.lt_or_ge i 32 with h32 | h32
      · obtain ⟨q, hq⟩ : ∃ q, i = 24 + q := ⟨i - 24, by omega⟩
        subst hq
        rw [rowC_have _ hr' q (by omega), List.getElem?_set_ne (by omega)]
        by_cases hqp : q = p
        · subst hqp
          rw [List.getElem?_set_self (by simp; omega)]
          simp [List.getD, hr, hp]
        · have e1 : (r.set p (some c)).getD q none = r.getD q none := by simp only [List.getD]; rw [List.getElem?_set_ne (fun e => hqp e.symm)]
          rw [e1, List.getElem?_set_ne (by omega), List.getElem?_set_ne (by omega), List.getElem?_set_ne (by omega), List.getElem?_set_ne (by omega)]
          exact rowC_have r hr q (by omega)
      · have : i = 32 := by omega
        subst this
        rw [rowC_n _ hr', List.getElem?_set_self (by simp; omega), cntR_set (by omega) hn]
        rfl
  · rw [List.getElem?_eq_none (by simp; omega), List.getElem?_eq_none (by omega)]
theorem rowC_free {w : World} {R : Nat} (r : List (Option Int)) (hr : r.length = 8) (p : Nat) (hp : p < 8) (hn : r.getD p none = none) (h : Box w R (rowC r)) :
    (w.cell? ⟨R, p * 3, none⟩ = some (.int .i64 0) ∧ w.frozen? ⟨R, p * 3, none⟩ = false) ∧ (w.cell? ⟨R, p * 3 + 1, none⟩ = some (.int .i64 0) ∧ w.frozen? ⟨R, p * 3 + 1, none⟩ = false) ∧
    (w.cell? ⟨R, p * 3 + 2, none⟩ = some (.int .i64 0) ∧ w.frozen? ⟨R, p * 3 + 2, none⟩ = false) ∧ (w.cell? ⟨R, 24 + p, none⟩ = some (.bool false) ∧ w.frozen? ⟨R, 24 + p, none⟩ = false) ∧
    (w.cell? ⟨R, 32, none⟩ = some (.int .i64 (cntR r)) ∧ w.frozen? ⟨R, 32, none⟩ = false) := by
  have e0 := rowC_in r hr p 0 hp (by omega)
  have e1 := rowC_in r hr p 1 hp (by omega)
  have e2 := rowC_in r hr p 2 hp (by omega)
  have e3 := rowC_have r hr p hp
  rw [hn] at e0 e1 e2 e3
  exact ⟨h.2 _ _ e0, h.2 _ _ e1, h.2 _ _ e2, h.2 _ _ e3, h.2 _ _ (rowC_n r hr)⟩
end Go.Proofs.Ytpoffkkkkieniaa
