/- Contract: the journal's length. -/
import Derived.Test.YtfkbdiheccnohaaJI
import Derived.Test.YtfkbdiheccnohaaJA
namespace Go.Proofs.Ytfkbdiheccnohaa
open Go Go.RowKit Go.BigFrame

theorem and127 : ∀ r : Nat, r < 256 → bits BinOp.and IntKind.u8 (r : Int) 127 = ((r % 128 : Nat) : Int) := by decide +kernel
theorem or0 : ∀ r : Nat, r < 128 → bits BinOp.or IntKind.i64 0 (r : Int) = (r : Int) := by decide +kernel
theorem orHi : ∀ r : Nat, r < 128 → ∀ d : Nat, d < 128 → bits BinOp.or IntKind.i64 (r : Int) ((d : Int) * 128) = (r : Int) + (d : Int) * 128 := by decide +kernel
/-- the number at the beginning of some bytes, how many bytes it has, the error (0: none) -/
def lenZ : List Int → Int × Int × Int
  | [] => (0, 0, 25)
  | c :: t => if c < 128 then (c, 1, 0) else
    match t with
    | [] => (0, 0, 25)
    | d :: _ => if 128 ≤ d ∨ d = 0 ∨ 4000 < c - 128 + d * 128 then (0, 0, 8) else (c - 128 + d * 128, 2, 0)
def eV34 (e : Int) : Value := if e = 0 then .nilIface else eI e
def lenV (x : Int × Int × Int) : Value := .tuple #[.int .i64 x.1, .int .i64 x.2.1, eV34 x.2.2]
set_option maxRecDepth 100000 in
set_option maxHeartbeats 1000000 in
theorem jLength_nil (a : Option Addr) (n cap : Nat) (w : World) (hs : Sl w 1 a n cap (bV [])) :
    Calls Try.prog 26 #[.slice a n cap] w fun e w' => e = .returned (lenV (0, 0, 25)) ∧ w' = w := by
  have hl : n = 0 := by have := hs.1; simp [bV] at this; omega
  subst hl
  clear hs
  go_enter Try.func26, Try.ntmps26
  go_wp2
  refine wp_loop_rounds 1 ?_
  rw [rounds_succ]
  go_wp2
  refine bodyPost_ret (v := lenV (0, 0, 25)) (by simp [results, Try.results26, go_sem, lenV, eV34, eI]) rfl ?_
  exact ⟨rfl, rfl⟩
set_option maxRecDepth 100000 in
set_option maxHeartbeats 1000000 in
theorem jLength_one (a : Option Addr) (n cap : Nat) (c : Nat) (bs : List Int) (w : World) (hs : Sl w 1 a n cap (bV ((c : Int) :: bs))) (hc : c < 128) (hn : n ≤ 100000) :
    Calls Try.prog 26 #[.slice a n cap] w fun e w' => e = .returned (lenV (c, 1, 0)) ∧ w' = w := by
  have hl : bs.length + 1 = n := by have := hs.1; simpa [bV] using this
  obtain ⟨g, o, rfl, hg, hcs⟩ := hs.pos (by omega)
  have c0 : w.cell? ⟨g, o + 0, none⟩ = some (.int .u8 c) := hcs 0 _ rfl
  rw [Nat.add_zero] at c0
  have hn1 : (0 : Int) < n := by omega
  have HA := and127 c (by omega)
  have HO := or0 (c % 128) (Nat.mod_lt _ (by decide))
  rw [Nat.mod_eq_of_lt hc] at HA HO
  have h1 : decide ((128 : Int) ≤ c) = false := decide_eq_false (by omega)
  have h2 : decide ((4000 : Int) < c) = false := decide_eq_false (by omega)
  have h3 : ((c : Int) == 0) = decide ((c : Int) = 0) := rfl
  clear hs hcs
  by_cases h0 : (c : Int) = 0
  · have H0 := Lib.hid h0
    rw [decide_eq_true h0] at h3
    clear h0
    go_enter Try.func26, Try.ntmps26
    go_wp2
    refine wp_loop_rounds 1 ?_
    rw [rounds_succ]
    go_wp2
    refine bodyPost_ret (v := lenV (c, 1, 0)) (by simp [results, Try.results26, go_sem, lenV, eV34, eI]) rfl ?_
    exact ⟨rfl, rfl⟩
  · rw [decide_eq_false h0] at h3
    clear h0
    go_enter Try.func26, Try.ntmps26
    go_wp2
    refine wp_loop_rounds 1 ?_
    rw [rounds_succ]
    go_wp2
    refine bodyPost_ret (v := lenV (c, 1, 0)) (by simp [results, Try.results26, go_sem, lenV, eV34, eI]) rfl ?_
    exact ⟨rfl, rfl⟩
set_option maxRecDepth 100000 in
set_option maxHeartbeats 1000000 in
theorem jLength_torn (a : Option Addr) (n cap : Nat) (c : Nat) (w : World) (hs : Sl w 1 a n cap (bV [(c : Int)])) (hc : 128 ≤ c) (hc2 : c < 256) :
    Calls Try.prog 26 #[.slice a n cap] w fun e w' => e = .returned (lenV (0, 0, 25)) ∧ w' = w := by
  have hl : n = 1 := by have := hs.1; simp [bV] at this; omega
  subst hl
  obtain ⟨g, o, rfl, hg, hcs⟩ := hs.pos (by omega)
  have c0 : w.cell? ⟨g, o + 0, none⟩ = some (.int .u8 c) := hcs 0 _ rfl
  rw [Nat.add_zero] at c0
  have HA := and127 c hc2
  have HO := or0 (c % 128) (Nat.mod_lt _ (by decide))
  generalize ((c % 128 : Nat) : Int) = r at *
  have h1 : decide ((128 : Int) ≤ c) = true := decide_eq_true (by omega)
  have h1' : (128 : Int) ≤ c := by omega
  clear hs hcs
  go_enter Try.func26, Try.ntmps26
  go_wp2
  refine wp_loop_rounds 2 ?_
  rw [rounds_succ]
  go_wp2
  rw [rounds_succ]
  go_wp2
  refine bodyPost_ret (v := lenV (0, 0, 25)) (by simp [results, Try.results26, go_sem, lenV, eV34, eI]) rfl ?_
  exact ⟨rfl, rfl⟩
end Go.Proofs.Ytfkbdiheccnohaa
