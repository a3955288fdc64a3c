/- The journal's Open, as a plain function; contract: the empty Crash. -/
import Derived.Test.YtfkbdiheccnohaaJP
namespace Go.Proofs.Ytfkbdiheccnohaa
open Go Go.RowKit Go.BigFrame

/-- one step of Open at the rest of the bytes: an error, or a record and how many bytes it took -/
def stepZ (bs : List Int) : Int × List Int × Nat :=
  if (lenZ bs).2.2 ≠ 0 then ((lenZ bs).2.2, [], 0) else
  if (bs.length : Int) < (lenZ bs).2.1 + 8 + (lenZ bs).1 then (25, [], 0) else
  if frameZ ((bs.drop ((lenZ bs).2.1.toNat + 8)).take (lenZ bs).1.toNat) = bs.take ((lenZ bs).2.1.toNat + 8 + (lenZ bs).1.toNat) then
    (0, (bs.drop ((lenZ bs).2.1.toNat + 8)).take (lenZ bs).1.toNat, (lenZ bs).2.1.toNat + 8 + (lenZ bs).1.toNat)
  else if (bs.length : Int) = (lenZ bs).2.1 + 8 + (lenZ bs).1 then (25, [], 0) else (26, [], 0)
/-- Open: the records; the error -/
def openZ : Nat → List Int → List (List Int) → List (List Int) × Int
  | 0, _, rs => (rs, 0)
  | f + 1, bs, rs => if bs = [] then (rs, 0) else
    match stepZ bs with
    | (e, x, k) => if e = 0 then openZ f (bs.drop k) (rs ++ [x]) else if e = 25 then (rs, 0) else ([], e)
theorem lenZ_frame (x : List Int) (hx : x.length ≤ 4000) (t : List Int) : lenZ (frameZ x ++ t) = ((x.length : Int), ((varZ x.length).length : Int), 0) := by
  unfold frameZ varZ
  by_cases h : x.length ≤ 127
  · rw [if_pos h]
    simp only [List.cons_append, List.nil_append, lenZ, List.length_cons, List.length_nil]
    rw [if_pos (by omega)]
    rfl
  · rw [if_neg h]
    simp only [List.cons_append, List.nil_append, lenZ, List.length_cons, List.length_nil]
    rw [if_neg (by omega), if_neg (by omega)]
    refine Prod.ext ?_ rfl
    show (128 + (x.length : Int) % 128) - 128 + (x.length : Int) / 128 * 128 = x.length
    omega
theorem stepZ_frame (x : List Int) (hx : x.length ≤ 4000) (t : List Int) : stepZ (frameZ x ++ t) = (0, x, (frameZ x).length) := by
  have hl := lenZ_frame x hx t
  have hf := frameZ_len x
  have e1 : (frameZ x ++ t).drop ((varZ x.length).length + 8) = x ++ t := by
    have : frameZ x ++ t = (varZ x.length ++ leUp (sumB x) 8) ++ (x ++ t) := by simp [frameZ]
    rw [this, List.drop_append_of_le_length (by simp [leUp_len]), List.drop_of_length_le (by simp [leUp_len]), List.nil_append]
  unfold stepZ
  rw [hl]
  simp only [ne_eq, not_true_eq_false, if_false, Int.toNat_natCast]
  rw [if_neg (by rw [List.length_append, hf]; omega), e1, List.take_append_of_le_length (Nat.le_refl _), List.take_length, ← hf, List.take_append_of_le_length (Nat.le_refl _), List.take_length, if_pos rfl]
end Go.Proofs.Ytfkbdiheccnohaa
