/- Contracts: commitments; the first condition that does not hold. -/
import Derived.Test.YtcpicifnadoeoaaRSum
import Derived.Test.YtcpicifnadoeoaaInR
import Derived.WalkSmall
namespace Go.Proofs.Ytcpicifnadoeoaa
open Go Go.RowKit Go.BigFrame

def commitS : ByteArray := ⟨#[99, 111, 109, 109, 105, 116]⟩
/-- the commitment of player p at tick t to the input with code c -/
def comZ (p t c nonce : Int) : Int := sumZ (strZ commitS) [p, t, c, nonce / 2, nonce % 2]
theorem comZ_u64 (p t c n : Int) : U64 (comZ p t c n) := sumZ_u64 _ _
/-- a new slice of integers -/
theorem sl_new (w : World) (k : IntKind) (zs : List Int) (t : TypeId) (n : Nat) (hn : zs.length = n) (hm : n ≤ 1000) : Sl (w.alloc (.cells (zs.map (Value.int k)).toArray t)) 1 (some ⟨w.heap.size, 0, none⟩) n n (zs.map (Value.int k)) := by
  refine ⟨by simp [hn], by omega, by unfold maxLen; omega, (fun e => by cases e), .inr ⟨_, _, rfl, by simp, fun j u hu => ?_⟩⟩
  have h := World.cell?_alloc_mark w (zs.map (Value.int k)).toArray t (0, 0) j
  rw [Nat.zero_add]
  refine Eq.trans h ?_
  rw [← hu]
  simp
theorem com_range {p t c n : Int} (hp : -9223372036854775808 ≤ p ∧ p ≤ 9223372036854775807) (ht : -9223372036854775808 ≤ t ∧ t ≤ 9223372036854775807) (hc : 0 ≤ c ∧ c < 36) (hn : U64 n) : ∀ z ∈ [p, t, c, n / 2, n % 2], -9223372036854775808 ≤ z ∧ z ≤ 9223372036854775807 := by
  unfold U64 MM at hn
  intro z hz
  simp only [List.mem_cons, List.not_mem_nil, or_false] at hz
  rcases hz with rfl | rfl | rfl | rfl | rfl <;> omega
theorem andOne (n : Int) (h : U64 n) : bits BinOp.and IntKind.u64 n 1 = n % 2 := and_one_u64 n h.1 (by have := h.2; unfold MM at this; omega)
theorem i64Z_small (x : Int) (h : -9223372036854775808 ≤ x ∧ x ≤ 9223372036854775807) : i64Z x = x := by unfold i64Z; omega
theorem crCommitment_any (p t c n : Int) (w : World) (hp : -9223372036854775808 ≤ p ∧ p ≤ 9223372036854775807) (ht : -9223372036854775808 ≤ t ∧ t ≤ 9223372036854775807) (hc : 0 ≤ c ∧ c < 36) (hn : U64 n) :
    Calls Try.prog 11 #[.int .i64 p, .int .i64 t, .agg #[.int .i64 (c % 3 - 1), .int .i64 (c / 3 % 3 - 1), .int .i64 (c / 9)], .int .u64 n] w fun e w' => e = .returned (.int .u64 (comZ p t c n)) ∧ Q w w' := by
  have HR := Lib.hid (com_range hp ht hc hn)
  have hc1 := hc.1
  have hc2 := hc.2
  have HN := hn
  have hu := hn
  unfold U64 MM at HN
  clear hp ht hc hn
  go_enter Try.func11, Try.ntmps11
  go_wp2_with (fail)
  refine (iEncode_code c _ hc1 hc2).mono ?_
  rintro e w1 ⟨rfl, hq⟩
  have HQ := Lib.hid (Q.trans ((Q.refl w).alloc _) hq)
  clear hq
  go_wp2_with (fail)
  rw [andOne n hu]
  rw [wrap64Z, i64Z_small (n % 2) (by omega)]
  refine (sum_any commitS _ _ _ [p, t, c, n / 2, n % 2] _ (by decide) (by omega) (sl_new w1 .i64 [p, t, c, n / 2, n % 2] _ 5 rfl (by omega)) HR.out).mono ?_
  rintro e w2 ⟨rfl, hq⟩
  have HQ2 := Lib.hid (HQ.out.trans (Q.trans ((Q.refl w1).alloc _) hq))
  clear hq
  go_wp2
  go_ret
  exact ⟨rfl, HQ2.out⟩
theorem rCommitment_any (p t c n : Int) (w : World) (hp : -9223372036854775808 ≤ p ∧ p ≤ 9223372036854775807) (ht : -9223372036854775808 ≤ t ∧ t ≤ 9223372036854775807) (hc : 0 ≤ c ∧ c < 36) (hn : U64 n) :
    Calls Try.prog 12 #[.int .i64 p, .int .i64 t, .agg #[.int .i64 (c % 3 - 1), .int .i64 (c / 3 % 3 - 1), .int .i64 (c / 9)], .int .u64 n] w fun e w' => e = .returned (.int .u64 (comZ p t c n)) ∧ Q w w' := by
  have HR := Lib.hid (com_range hp ht hc hn)
  have hc1 := hc.1
  have hc2 := hc.2
  have HN := hn
  unfold U64 MM at HN
  clear hp ht hc hn
  go_enter Try.func12, Try.ntmps12
  go_wp2_with (fail)
  refine (rEncode_code c _ hc1 hc2).mono ?_
  rintro e w1 ⟨rfl, hq⟩
  have HQ := Lib.hid (Q.trans ((Q.refl w).alloc _) hq)
  clear hq
  go_wp2_with (fail)
  refine (rSum_any commitS _ _ _ [p, t, c, n / 2, n % 2] _ (by decide) (by omega) (sl_new w1 .i64 [p, t, c, n / 2, n % 2] _ 5 rfl (by omega)) HR.out).mono ?_
  rintro e w2 ⟨rfl, hq⟩
  have HQ2 := Lib.hid (HQ.out.trans (Q.trans ((Q.refl w1).alloc _) hq))
  clear hq
  go_wp2
  go_ret
  exact ⟨rfl, HQ2.out⟩
end Go.Proofs.Ytcpicifnadoeoaa
