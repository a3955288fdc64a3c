/- Contracts: how a word is absorbed, in the program and in the reference. -/
import Derived.Test.YtcgnihgebifcjaaHashMath
import Derived.Test.YtcgnihgebifcjaaBase
import Derived.RangeFuncNested
import Derived.RangeFuncBound
import Derived.RangeFuncCalls
import Derived.RangeFuncLeaves
import Derived.RangeFuncBox
import Derived.Shelf.Abstract
import Derived.Shelf.RegionOpen
import Derived.OwnWalkIn
import Derived.TacticsInMore
import Derived.LoopNIn
import Derived.LoopIn
import Derived.Maps.AppendAt
namespace Go.Proofs.Ytcgnihgebifcjaa
open Go Go.RowKit

theorem mix_step (n m : Nat) (hn : n < MM) (hm : m < MM) : IntKind.u64.wrap (bits BinOp.xor IntKind.u64 (n : Int) (m : Int) * 11400714819323198485) = (((n ^^^ m) * KK % MM : Nat) : Int) := by
  rw [bits_xor_u64_nat n m hn hm, IntKind.wrap_u64]
  unfold KK MM
  omega
theorem mix_go (n m : Nat) (hn : n < MM) (hm : m < MM) :
    bits BinOp.xor IntKind.u64 (IntKind.u64.wrap (bits BinOp.xor IntKind.u64 (n : Int) (m : Int) * 11400714819323198485)) (IntKind.u64.wrap (bits BinOp.xor IntKind.u64 (n : Int) (m : Int) * 11400714819323198485) / 4294967296) = mixZ n m := by
  rw [mix_step n m hn hm]
  have h : (n ^^^ m) * KK % MM < MM := Nat.mod_lt _ (by decide)
  exact xorShift_u64 _ 4294967296 h
theorem mix_ref (n m : Nat) (hn : n < MM) (hm : m < MM) :
    bits BinOp.xor IntKind.u64 (IntKind.u64.wrap (bits BinOp.xor IntKind.u64 (n : Int) (m : Int) * 11400714819323198485)) (IntKind.u64.wrap ((IntKind.u64.wrap (bits BinOp.xor IntKind.u64 (n : Int) (m : Int) * 11400714819323198485)).tdiv 4294967296)) = mixZ n m := by
  rw [← mix_go n m hn hm, mix_step n m hn hm]
  have h : (n ^^^ m) * KK % MM < MM := Nat.mod_lt _ (by decide)
  generalize (n ^^^ m) * KK % MM = x at *
  rw [Int.tdiv_eq_ediv_of_nonneg (by omega), IntKind.wrap_u64]
  unfold MM at h
  congr 1
  omega

theorem mix_any (s x : Int) (w : World) (hs : U64 s) (hx : U64 x) :
    Calls Try.prog 50 #[.int .u64 s, .int .u64 x] w fun e w' => e = .returned (.int .u64 (mixZ s x)) ∧ w = w' := by
  obtain ⟨n, rfl⟩ := Int.eq_ofNat_of_zero_le hs.1
  obtain ⟨m, rfl⟩ := Int.eq_ofNat_of_zero_le hx.1
  have HS := Lib.hid hs
  have HX := Lib.hid hx
  clear hs hx
  go_enter Try.func50, Try.ntmps50
  go_wp2
  go_ret
  exact ⟨congrArg (fun z => Ending.returned (.int .u64 z)) (mix_go n m HS.out.nat HX.out.nat), rfl⟩
theorem rmix_any (s x : Int) (w : World) (hs : U64 s) (hx : U64 x) :
    Calls Try.prog 48 #[.int .u64 s, .int .u64 x] w fun e w' => e = .returned (.int .u64 (mixZ s x)) ∧ w = w' := by
  obtain ⟨n, rfl⟩ := Int.eq_ofNat_of_zero_le hs.1
  obtain ⟨m, rfl⟩ := Int.eq_ofNat_of_zero_le hx.1
  have HS := Lib.hid hs
  have HX := Lib.hid hx
  clear hs hx
  go_enter Try.func48, Try.ntmps48
  go_wp2
  go_ret
  exact ⟨congrArg (fun z => Ending.returned (.int .u64 z)) (mix_ref n m HS.out.nat HX.out.nat), rfl⟩

theorem pow256 (d : Nat) : (2 : Int) ^ (8 * d) = 256 ^ d := by rw [Int.pow_mul]; rfl
/-- one byte more of a word -/
theorem or_step (l : List Int) (h : Bys l) (hd : l.length < 8) (b : Int) (hb0 : 0 ≤ b) (hb1 : b ≤ 255) :
    bits BinOp.or IntKind.u64 (leZ l) (IntKind.u64.wrap (IntKind.u64.wrap b * 2 ^ (8 * l.length))) = leZ (l ++ [b]) := by
  rw [leZ_snoc, pow256]
  obtain ⟨h0, h1⟩ := leZ_bound h
  generalize leZ l = x at *
  generalize hdd : l.length = d at *
  obtain ⟨n, rfl⟩ := Int.eq_ofNat_of_zero_le h0
  obtain ⟨m, rfl⟩ := Int.eq_ofNat_of_zero_le hb0
  have e1 : IntKind.u64.wrap (m : Int) = (m : Int) := by rw [IntKind.wrap_u64]; omega
  have hp : ((256 : Int) ^ d) = ((256 ^ d : Nat) : Int) := by rw [Int.natCast_pow]; rfl
  rw [e1, hp]
  rw [hp] at h1
  have hpow : 256 ^ d ≤ 256 ^ 7 := Nat.pow_le_pow_right (by decide) (by omega)
  have hmul : m * 256 ^ d ≤ 255 * 256 ^ 7 := Nat.mul_le_mul (by omega) hpow
  have e2 : IntKind.u64.wrap ((m : Int) * ((256 ^ d : Nat) : Int)) = ((m * 256 ^ d : Nat) : Int) := by
    rw [← Int.natCast_mul, IntKind.wrap_u64]
    have : m * 256 ^ d < 18446744073709551616 := Nat.lt_of_le_of_lt hmul (by decide)
    omega
  rw [e2]
  have hn : n < 256 ^ d := by omega
  have hn2 : n < 18446744073709551616 := Nat.lt_of_lt_of_le hn (Nat.le_trans hpow (by decide))
  rw [bits_or_u64_nat n (m * 256 ^ d) hn2 (Nat.lt_of_le_of_lt hmul (by decide))]
  have e3 : (256 : Nat) ^ d = 2 ^ (8 * d) := by rw [Nat.pow_mul]
  rw [Nat.or_comm, nat_join (8 * d) (m * 256 ^ d) n (by rw [e3]; exact Nat.mul_mod_left _ _) (by rw [← e3]; exact hn)]
  rw [Int.natCast_add, Int.natCast_mul, Int.add_comm]
theorem or_step' (l : List Int) (h : Bys l) (hd : l.length < 8) (b : Int) (hb0 : 0 ≤ b) (hb1 : b ≤ 255) :
    bits BinOp.or IntKind.u64 (leZ l) (IntKind.u64.wrap (b * 2 ^ (8 * l.length))) = leZ (l ++ [b]) := by
  have := or_step l h hd b hb0 hb1
  rwa [show IntKind.u64.wrap b = b by rw [IntKind.wrap_u64]; omega] at this
theorem strZ_get (s : ByteArray) (k : Nat) (h : k < s.size) : (strZ s)[k]? = some (s[k].toNat : Int) := by
  have h2 : k < s.data.toList.length := by simpa using h
  simp only [strZ, List.getElem?_map, List.getElem?_eq_getElem h2, Option.map_some]
  rfl
theorem drop_take_snoc (l : List Int) (i d : Nat) (b : Int) (h : l[i + d]? = some b) : (l.drop i).take (d + 1) = (l.drop i).take d ++ [b] := by
  rw [List.take_add_one, List.getElem?_drop, h]
  rfl
end Go.Proofs.Ytcgnihgebifcjaa
