/- Offering in reverse order: plain law. -/
import Derived.Test.YtpoffkkkkieniaaQN
namespace Go.Proofs.Ytpoffkkkkieniaa
open Go Go.RowKit

def cN (k : Nat) (n : Int) : Int := aroundZ (n % (9 * k)) 36
theorem cYtpoffkkkkieniaacode (k : Nat) (n : Int) : 0 ≤ cN k n ∧ cN k n < 36 := ⟨aroundZ_lo _ _ (by omega), aroundZ_hi _ _ (by omega)⟩
theorem pt_det (k : Nat) (n m : Int) (hn : 0 ≤ n) (hm : 0 ≤ m) (h1 : n % k = m % k) (h2 : n / k % 9 = m / k % 9) : n % (9 * k) = m % (9 * k) := by
  obtain ⟨a, rfl⟩ := Int.eq_ofNat_of_zero_le hn
  obtain ⟨b, rfl⟩ := Int.eq_ofNat_of_zero_le hm
  have e1 : a % k = b % k := by exact_mod_cast h1
  have e2 : a / k % 9 = b / k % 9 := by exact_mod_cast h2
  have e3 : a % (k * 9) = b % (k * 9) := by rw [Nat.mod_mul, Nat.mod_mul, e1, e2]
  have e4 : a % (9 * k) = b % (9 * k) := by rw [Nat.mul_comm 9 k]; exact e3
  exact_mod_cast e4
def offN (k : Nat) (s : QS) (n : Int) : QS := offT s 2 (n % k) (n / k % 9) (cN k n % 3 - 1) (cN k n / 3 % 3 - 1) (cN k n / 9)
def offAll (k : Nat) (s : QS) (l : List Int) : QS := l.foldl (offN k) s
theorem offAll_snoc (k : Nat) (s : QS) (l : List Int) (n : Int) : offAll k s (l ++ [n]) = offN k (offAll k s l) n := by unfold offAll; rw [List.foldl_append]; rfl
def hitN (k : Nat) (t : Int) (q : Nat) (n : Int) : Bool := decide (t = n / k % 9 ∧ (q : Int) = n % k)
/-- what the offers leave -/
structure OffIs (k wt : Nat) (l : List Int) (s : QS) : Prop where
  kk : s.k = k
  ww : s.wt = wt
  tks : s.tks = []
  acc : ∀ t q, (s.acc t).getD q none = (l.find? (hitN k t q)).map (cN k)
  ok : OkS s
theorem errV_in (c : Int) (h : 0 ≤ c ∧ c < 36) : errV (c % 3 - 1) (c / 3 % 3 - 1) (c / 9) = 0 := by
  have a : inB (c % 3 - 1) (-1) 1 = true := by simp [inB]; omega
  have b : inB (c / 3 % 3 - 1) (-1) 1 = true := by simp [inB]; omega
  have d : inB (c / 9) 0 3 = true := by simp [inB]; omega
  unfold errV
  rw [a, b, d]; rfl
theorem offAll_is (k wt : Nat) (h1 : 1 ≤ k) (h8 : k ≤ 8) (hw : wt ≤ 8) (l : List Int) (hl : ∀ n ∈ l, 0 ≤ n) : OffIs k wt l (offAll k (qs0 k wt) l) := by
  have main : ∀ (l r : List Int), (∀ n ∈ r, 0 ≤ n) → ∀ s, OffIs k wt l s → OffIs k wt (l ++ r) (offAll k s r) := by
    intro l r
    induction r generalizing l with
    | nil => intro _ s h; rw [List.append_nil]; exact h
    | cons n r ih =>
      intro hr s h
      have hn := hr n (by simp)
      have hp0 : 0 ≤ n % (k : Int) := Int.emod_nonneg _ (by omega)
      have hp1 : n % (k : Int) < k := Int.emod_lt_of_pos _ (by omega)
      have ht0 : 0 ≤ n / (k : Int) % 9 := by omega
      have ht1 : n / (k : Int) % 9 < 9 := by omega
      have hc := cYtpoffkkkkieniaacode k n
      have he : offE s 2 (n % k) (n / k % 9) (cN k n % 3 - 1) (cN k n / 3 % 3 - 1) (cN k n / 9) = if ((s.acc (n / k % 9)).getD (n % (k : Int)).toNat none).isSome then 4 else 0 := by
        unfold offE
        rw [if_neg (by rw [h.kk]; omega), if_neg (by rw [errV_in _ hc]; decide), if_neg (by omega), if_neg (by rw [h.tks]; simp; omega)]
      have step : OffIs k wt (l ++ [n]) (offN k s n) := by
        have hcast : (((n % (k : Int)).toNat : Nat) : Int) = n % k := Int.toNat_of_nonneg hp0
        cases hf : (l.find? (hitN k (n / k % 9) (n % (k : Int)).toNat)) with
        | some m =>
          have hz : offE s 2 (n % k) (n / k % 9) (cN k n % 3 - 1) (cN k n / 3 % 3 - 1) (cN k n / 9) ≠ 0 := by
            rw [he, h.acc, hf]
            show (4 : Int) ≠ 0
            decide
          have hs : offN k s n = s := by unfold offN offT; rw [if_neg hz]
          rw [hs]
          refine ⟨h.kk, h.ww, h.tks, fun t q => ?_, h.ok⟩
          rw [h.acc t q, List.find?_append]
          cases hg : l.find? (hitN k t q) with
          | some y => rfl
          | none =>
            have : hitN k t q n = false := by
              unfold hitN
              rw [decide_eq_false]
              rintro ⟨rfl, hq⟩
              have : q = (n % (k : Int)).toNat := by omega
              rw [this, hf] at hg
              cases hg
            simp [this]
        | none =>
          have hnone : (s.acc (n / k % 9)).getD (n % (k : Int)).toNat none = none := by rw [h.acc, hf]; rfl
          have hz : offE s 2 (n % k) (n / k % 9) (cN k n % 3 - 1) (cN k n / 3 % 3 - 1) (cN k n / 9) = 0 := by rw [he, hnone]; rfl
          have hs : offN k s n = accSet s (n / k % 9) (n % (k : Int)).toNat (cN k n) := by unfold offN offT; rw [if_pos hz, codeOf_code]
          rw [hs]
          refine ⟨h.kk, h.ww, h.tks, fun t q => ?_, ok_set h.ok _ _ _ (by rw [h.kk]; omega) hc⟩
          rw [acc_get s _ t _ q _ (by rw [h.ok.len]; omega), List.find?_append]
          by_cases hh : t = n / k % 9 ∧ q = (n % (k : Int)).toNat
          · rw [if_pos hh, hh.1, hh.2, hf]
            have : hitN k (n / k % 9) (n % (k : Int)).toNat n = true := by unfold hitN; rw [decide_eq_true]; exact ⟨rfl, hcast⟩
            simp [this]
          · rw [if_neg hh, h.acc t q]
            have : hitN k t q n = false := by
              unfold hitN
              rw [decide_eq_false]
              rintro ⟨e1, e2⟩
              exact hh ⟨e1, by omega⟩
            cases l.find? (hitN k t q) with
            | some y => rfl
            | none => simp [this]
      have := ih (l ++ [n]) (fun m hm => hr m (by simp [hm])) (offN k s n) step
      rw [List.append_assoc] at this
      exact this
  have h0 : OffIs k wt [] (qs0 k wt) := ⟨rfl, rfl, rfl, fun t q => by
    show (List.replicate 8 none).getD q none = _
    rw [List.getD, List.getElem?_replicate]
    split <;> rfl, ok0 h1 h8 hw⟩
  have := main [] l hl (qs0 k wt) h0
  rwa [List.nil_append] at this
theorem offAll_rev (k wt : Nat) (h1 : 1 ≤ k) (h8 : k ≤ 8) (hw : wt ≤ 8) (l : List Int) (hl : ∀ n ∈ l, 0 ≤ n) : offAll k (qs0 k wt) l.reverse = offAll k (qs0 k wt) l := by
  have a := offAll_is k wt h1 h8 hw l hl
  have b := offAll_is k wt h1 h8 hw l.reverse (fun n hn => hl n (List.mem_reverse.1 hn))
  have hacc : (offAll k (qs0 k wt) l.reverse).acc = (offAll k (qs0 k wt) l).acc := by
    funext t
    apply List.ext_getElem?
    intro q
    have hq := (b.acc t q).trans (?_ : _ = (l.find? (hitN k t q)).map (cN k))
    · rw [← a.acc t q] at hq
      by_cases h : q < 8
      · have la : q < ((offAll k (qs0 k wt) l).acc t).length := by rw [a.ok.len]; exact h
        have lb : q < ((offAll k (qs0 k wt) l.reverse).acc t).length := by rw [b.ok.len]; exact h
        simp only [List.getD, List.getElem?_eq_getElem la, List.getElem?_eq_getElem lb, Option.getD_some] at hq
        rw [List.getElem?_eq_getElem la, List.getElem?_eq_getElem lb, hq]
      · rw [List.getElem?_eq_none (by rw [b.ok.len]; omega), List.getElem?_eq_none (by rw [a.ok.len]; omega)]
    · cases hf : l.find? (hitN k t q) with
      | none =>
        rw [List.find?_eq_none] at hf
        have : l.reverse.find? (hitN k t q) = none := List.find?_eq_none.2 (fun x hx => hf x (List.mem_reverse.1 hx))
        rw [this]
      | some m =>
        have hm := List.mem_of_find?_eq_some hf
        have hh := List.find?_some hf
        cases hg : l.reverse.find? (hitN k t q) with
        | none =>
          rw [List.find?_eq_none] at hg
          exact absurd hh (hg m (List.mem_reverse.2 hm))
        | some y =>
          have hy := List.mem_of_find?_eq_some hg
          have hhy := List.find?_some hg
          unfold hitN at hh hhy
          simp only [decide_eq_true_eq] at hh hhy
          show some (cN k y) = some (cN k m)
          unfold cN
          rw [pt_det k y m (hl y (List.mem_reverse.1 hy)) (hl m hm) (hhy.2.symm.trans hh.2) (hhy.1.symm.trans hh.1)]
  have e : ∀ (s t : QS), s.k = t.k → s.wt = t.wt → s.acc = t.acc → s.tks = t.tks → s = t := by
    intro s t h1 h2 h3 h4
    cases s; cases t
    simp only at h1 h2 h3 h4
    subst h1 h2 h3 h4
    rfl
  exact e _ _ (b.kk.trans a.kk.symm) (b.ww.trans a.ww.symm) hacc (b.tks.trans a.tks.symm)
end Go.Proofs.Ytpoffkkkkieniaa
