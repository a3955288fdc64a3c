/- Contract: the hash's examples. -/
import Derived.Test.YtcccffohpmpmeaaRBytes
import Derived.Test.YtcccffohpmpmeaaSame
namespace Go.Proofs.Ytcccffohpmpmeaa
open Go Go.RowKit Go.BigFrame

def aS : ByteArray := ⟨#[97]⟩
theorem ex1 : (sumZ (strZ aS) [5] != sumZ (strZ aS) [6]) = true := by decide +kernel
theorem ex2 : bytesZ (strZ aS) [1, 2] = sumZ (strZ aS) [513, 2] := by decide +kernel
theorem ex3 : (pairZ 1 2 != pairZ 1 3) = true := by decide +kernel
theorem in64 {l : List Int} (h : l.all (fun z => decide (-9223372036854775808 ≤ z) && decide (z ≤ 9223372036854775807)) = true) : ∀ z ∈ l, -9223372036854775808 ≤ z ∧ z ≤ 9223372036854775807 := by
  intro z hz
  have := List.all_eq_true.1 h z hz
  simpa using this
theorem bys_of {l : List Int} (h : l.all (fun z => decide (0 ≤ z) && decide (z ≤ 255)) = true) : Bys l := by
  intro z hz
  have := List.all_eq_true.1 h z hz
  simpa using this
theorem sl_bytes2 (w : World) (x y : Int) (t : TypeId) : Sl (w.alloc (.cells #[.int .u8 x, .int .u8 y] t)) 1 (some ⟨w.heap.size, 0, none⟩) 2 2 ([x, y].map (Value.int .u8)) := by
  refine ⟨rfl, by omega, by decide, (fun e => by cases e), .inr ⟨_, _, rfl, by simp, fun j u hu => ?_⟩⟩
  have h := World.cell?_alloc_mark w #[.int .u8 x, .int .u8 y] t (0, 0) j
  rw [Nat.zero_add]
  refine Eq.trans h ?_
  rw [← hu]
  simp
theorem lives10_any (w : World) : Calls Try.prog 15 #[] w fun e w' => e = .returned (.bool true) ∧ Q w w' := by
  go_enter Try.func15, Try.ntmps15
  go_wp2_with (fail)
  refine (sum_any aS _ _ _ [5] _ (by decide) (by omega) (sl_one w .i64 5 _) (in64 rfl)).mono ?_
  rintro e w1 ⟨rfl, hq⟩
  have HQ := Lib.hid (Q.trans ((Q.refl w).alloc _) hq)
  clear hq
  go_wp2_with (fail)
  refine (sum_any aS _ _ _ [6] _ (by decide) (by omega) (sl_one w1 .i64 6 _) (in64 rfl)).mono ?_
  rintro e w2 ⟨rfl, hq⟩
  have HQ2 := Lib.hid (HQ.out.trans (Q.trans ((Q.refl w1).alloc _) hq))
  clear hq HQ
  have E1 := ex1
  go_wp2_with (fail)
  refine (hbytes_any aS _ _ _ [1, 2] _ (by decide) (by omega) (sl_bytes2 w2 1 2 _) (bys_of rfl)).mono ?_
  rintro e w3 ⟨rfl, hq⟩
  have HQ3 := Lib.hid (HQ2.out.trans (Q.trans ((Q.refl w2).alloc _) hq))
  clear hq HQ2
  go_wp2_with (fail)
  refine (sum_any aS _ _ _ [513, 2] _ (by decide) (by omega) (sl_two w3 513 2 _) (in64 rfl)).mono ?_
  rintro e w4 ⟨rfl, hq⟩
  have HQ4 := Lib.hid (HQ3.out.trans (Q.trans ((Q.refl w3).alloc _) hq))
  clear hq HQ3
  rw [ex2]
  go_wp2_with (fail)
  refine (hPair_any 1 2 _).mono ?_
  rintro e w5 ⟨rfl, hq⟩
  have HQ5 := Lib.hid (HQ4.out.trans hq)
  clear hq HQ4
  go_wp2_with (fail)
  refine (hPair_any 1 3 _).mono ?_
  rintro e w6 ⟨rfl, hq⟩
  have HQ6 := Lib.hid (HQ5.out.trans hq)
  clear hq HQ5
  have E3 := ex3
  go_wp2
  go_ret
  exact ⟨rfl, HQ6.out⟩
end Go.Proofs.Ytcccffohpmpmeaa
