/- Frames of a log, as lists. -/
import Derived.Test.YtfkbdiheccnohaaJB
namespace Go.Proofs.Ytfkbdiheccnohaa
open Go Go.RowKit

def recS : ByteArray := ⟨#[114, 101, 99, 111, 114, 100]⟩
/-- the checksum of a record -/
def sumB (bs : List Int) : Int := bytesZ (strZ recS) bs
def varZ (n : Nat) : List Int := if n ≤ 127 then [(n : Int)] else [128 + (n : Int) % 128, (n : Int) / 128]
def leUp (s : Int) (k : Nat) : List Int := (List.range k).map fun i => s / 256 ^ i % 256
def frameZ (bs : List Int) : List Int := varZ bs.length ++ leUp (sumB bs) 8 ++ bs
theorem leUp_succ (s : Int) (k : Nat) : leUp s (k + 1) = leUp s k ++ [s / 256 ^ k % 256] := by simp [leUp, List.range_succ]
theorem leUp_len (s : Int) (k : Nat) : (leUp s k).length = k := by simp [leUp]
theorem varZ_len (n : Nat) : (varZ n).length = if n ≤ 127 then 1 else 2 := by unfold varZ; split <;> rfl
theorem frameZ_len (bs : List Int) : (frameZ bs).length = (varZ bs.length).length + 8 + bs.length := by simp [frameZ, leUp_len]; omega
theorem sumB_u64 (bs : List Int) : U64 (sumB bs) := sumZ_u64 _ _
end Go.Proofs.Ytfkbdiheccnohaa
