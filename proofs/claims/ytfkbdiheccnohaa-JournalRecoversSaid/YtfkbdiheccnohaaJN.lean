/- Contract: the journal's length, malformed. -/
import Derived.Test.YtfkbdiheccnohaaJL
namespace Go.Proofs.Ytfkbdiheccnohaa
open Go Go.RowKit Go.BigFrame

set_option maxRecDepth 100000 in
set_option maxHeartbeats 1000000 in
theorem jLength_form (a : Option Addr) (n cap : Nat) (c d : Nat) (bs : List Int) (w : World) (hs : Sl w 1 a n cap (bV ((c : Int) :: (d : Int) :: bs))) (hc : 128 ≤ c) (hc2 : c < 256) (hd2 : d < 128) (hm : d = 0 ∨ 4000 < ((c % 128 : Nat) : Int) + (d : Int) * 128) (hn : n ≤ 100000) :
    Calls Try.prog 26 #[.slice a n cap] w fun e w' => e = .returned (lenV (0, 0, 8)) ∧ w' = w := by
  have hl : bs.length + 2 = n := by have := hs.1; simpa [bV] using this
  obtain ⟨g, o, rfl, hg, hcs⟩ := hs.pos (by omega)
  have c0 : w.cell? ⟨g, o + 0, none⟩ = some (.int .u8 c) := hcs 0 _ rfl
  have c1 : w.cell? ⟨g, o + 1, none⟩ = some (.int .u8 d) := hcs 1 _ rfl
  rw [Nat.add_zero] at c0
  have hn1 : (0 : Int) < n := by omega
  have hn2 : (1 : Int) < n := by omega
  have HA := and127 c hc2
  have HO := or0 (c % 128) (Nat.mod_lt _ (by decide))
  have HA2 := and127 d (by omega)
  rw [Nat.mod_eq_of_lt hd2] at HA2
  have HO2 := orHi (c % 128) (Nat.mod_lt _ (by decide)) d hd2
  have hr : c % 128 < 128 := Nat.mod_lt _ (by decide)
  generalize c % 128 = r at *
  have h1 : decide ((128 : Int) ≤ c) = true := decide_eq_true (by omega)
  have h1' : (128 : Int) ≤ c := by omega
  have h2 : decide ((128 : Int) ≤ d) = false := decide_eq_false (by omega)
  clear hs hcs
  by_cases h0 : d = 0
  · have h3 : ((d : Int) == 0) = true := by simp; omega
    clear h0 hm
    go_enter Try.func26, Try.ntmps26
    go_wp2
    refine wp_loop_rounds 2 ?_
    rw [rounds_succ]
    go_wp2
    rw [rounds_succ]
    go_wp2
    refine bodyPost_ret (v := lenV (0, 0, 8)) (by simp [results, Try.results26, go_sem, lenV, eV34, eI]) rfl ?_
    exact ⟨rfl, rfl⟩
  · have h3 : ((d : Int) == 0) = false := by simp; omega
    have h4 : decide ((4000 : Int) < (r : Int) + (d : Int) * 128) = true := decide_eq_true (by omega)
    have h4' : (4000 : Int) < (r : Int) + (d : Int) * 128 := by omega
    clear h0 hm
    go_enter Try.func26, Try.ntmps26
    go_wp2
    refine wp_loop_rounds 2 ?_
    rw [rounds_succ]
    go_wp2
    rw [rounds_succ]
    go_wp2
    refine bodyPost_ret (v := lenV (0, 0, 8)) (by simp [results, Try.results26, go_sem, lenV, eV34, eI]) rfl ?_
    exact ⟨rfl, rfl⟩
end Go.Proofs.Ytfkbdiheccnohaa
