/- Contract: the journal's length, more than two bytes; all together. -/
import Derived.Test.YtfkbdiheccnohaaJN
namespace Go.Proofs.Ytfkbdiheccnohaa
open Go Go.RowKit Go.BigFrame

set_option maxRecDepth 100000 in
set_option maxHeartbeats 1000000 in
theorem jLength_high (a : Option Addr) (n cap : Nat) (c d : Nat) (bs : List Int) (w : World) (hs : Sl w 1 a n cap (bV ((c : Int) :: (d : Int) :: bs))) (hc : 128 ≤ c) (hc2 : c < 256) (hd : 128 ≤ d) (hd2 : d < 256) (hbb : Bys bs) (hn : n ≤ 100000) :
    Calls Try.prog 26 #[.slice a n cap] w fun e w' => e = .returned (lenV (0, 0, 8)) ∧ w' = w := by
  have hl : bs.length + 2 = n := by have := hs.1; simpa [bV] using this
  obtain ⟨g, o, rfl, hg, hcs⟩ := hs.pos (by omega)
  have c0 : w.cell? ⟨g, o + 0, none⟩ = some (.int .u8 c) := hcs 0 _ rfl
  have c1 : w.cell? ⟨g, o + 1, none⟩ = some (.int .u8 d) := hcs 1 _ rfl
  rw [Nat.add_zero] at c0
  have hn1 : (0 : Int) < n := by omega
  have hn2 : (1 : Int) < n := by omega
  have HA := and127 c hc2
  have HO := or0 (c % 128) (Nat.mod_lt _ (by decide))
  have HA2 := and127 d hd2
  have HO2 := orHi (c % 128) (Nat.mod_lt _ (by decide)) (d % 128) (Nat.mod_lt _ (by decide))
  have hr : c % 128 < 128 := Nat.mod_lt _ (by decide)
  have hr2 : d % 128 < 128 := Nat.mod_lt _ (by decide)
  generalize c % 128 = r at *
  generalize d % 128 = r2 at *
  have h1 : decide ((128 : Int) ≤ c) = true := decide_eq_true (by omega)
  have h1' : (128 : Int) ≤ c := by omega
  have h2 : decide ((128 : Int) ≤ d) = true := decide_eq_true (by omega)
  have h2' : (128 : Int) ≤ d := by omega
  by_cases h3 : n = 2
  · subst h3
    clear hs hcs hl hn1 hn2
    go_enter Try.func26, Try.ntmps26
    go_wp2
    refine wp_loop_rounds 3 ?_
    rw [rounds_succ]
    go_wp2
    rw [rounds_succ]
    go_wp2
    rw [rounds_succ]
    go_wp2
    refine bodyPost_ret (v := lenV (0, 0, 8)) (by simp [results, Try.results26, go_sem, lenV, eV34, eI]) rfl ?_
    exact ⟨rfl, rfl⟩
  · have hn3 : (2 : Int) < n := by omega
    obtain ⟨x, hx⟩ : ∃ x, bs[0]? = some x := ⟨bs[0]'(by omega), by simp⟩
    have c2 : w.cell? ⟨g, o + 2, none⟩ = some (.int .u8 x) := hcs 2 _ (by simp [bV, hx])
    clear hs hcs hx hl
    go_enter Try.func26, Try.ntmps26
    go_wp2
    refine wp_loop_rounds 3 ?_
    rw [rounds_succ]
    go_wp2
    rw [rounds_succ]
    go_wp2
    rw [rounds_succ]
    go_wp2
    refine bodyPost_ret (v := lenV (0, 0, 8)) (by simp [results, Try.results26, go_sem, lenV, eV34, eI]) rfl ?_
    exact ⟨rfl, rfl⟩
end Go.Proofs.Ytfkbdiheccnohaa
