/- Contract: the journal's length, all together. -/
import Derived.Test.YtfkbdiheccnohaaJO
namespace Go.Proofs.Ytfkbdiheccnohaa
open Go Go.RowKit Go.BigFrame

theorem jLength_any (a : Option Addr) (n cap : Nat) (bs : List Int) (w : World) (hs : Sl w 1 a n cap (bV bs)) (hbb : Bys bs) (hn : n ≤ 100000) :
    Calls Try.prog 26 #[.slice a n cap] w fun e w' => e = .returned (lenV (lenZ bs)) ∧ w' = w := by
  cases bs with
  | nil => exact jLength_nil a n cap w hs
  | cons c t =>
    have hc := hbb c List.mem_cons_self
    obtain ⟨c', rfl⟩ := Int.eq_ofNat_of_zero_le hc.1
    by_cases h1 : (c' : Int) < 128
    · rw [show lenZ ((c' : Int) :: t) = ((c' : Int), 1, 0) by simp only [lenZ]; rw [if_pos h1]]
      exact jLength_one a n cap c' t w hs (by omega) hn
    · cases t with
      | nil =>
        rw [show lenZ [(c' : Int)] = (0, 0, 25) by simp only [lenZ]; rw [if_neg h1]]
        exact jLength_torn a n cap c' w hs (by omega) (by omega)
      | cons d u =>
        have hd := hbb d (List.mem_cons_of_mem _ List.mem_cons_self)
        obtain ⟨d', rfl⟩ := Int.eq_ofNat_of_zero_le hd.1
        have hr : ((c' % 128 : Nat) : Int) = (c' : Int) - 128 := by omega
        by_cases h2 : 128 ≤ (d' : Int) ∨ (d' : Int) = 0 ∨ 4000 < (c' : Int) - 128 + (d' : Int) * 128
        · rw [show lenZ ((c' : Int) :: (d' : Int) :: u) = (0, 0, 8) by simp only [lenZ]; rw [if_neg h1]; rw [if_pos h2]]
          by_cases h3 : 128 ≤ d'
          · exact jLength_high a n cap c' d' u w hs (by omega) (by omega) h3 (by omega) (fun b hb => hbb b (List.mem_cons_of_mem _ (List.mem_cons_of_mem _ hb))) hn
          · exact jLength_form a n cap c' d' u w hs (by omega) (by omega) (by omega) (by omega) hn
        · rw [show lenZ ((c' : Int) :: (d' : Int) :: u) = ((c' : Int) - 128 + (d' : Int) * 128, 2, 0) by simp only [lenZ]; rw [if_neg h1]; rw [if_neg h2]]
          rw [← hr]
          exact jLength_two a n cap c' d' u w hs (by omega) (by omega) (by omega) (by omega) (by omega) hn
end Go.Proofs.Ytfkbdiheccnohaa
