/- Contract: the closure of Open where the length is read. -/
import Derived.Test.YtfkbdiheccnohaaJR
namespace Go.Proofs.Ytfkbdiheccnohaa
open Go Go.RowKit Go.BigFrame

theorem lenZ_ok (bs : List Int) (hb : Bys bs) (h : (lenZ bs).2.2 = 0) : ∃ m sz : Nat, lenZ bs = ((m : Int), (sz : Int), 0) ∧ m ≤ 4000 ∧ 1 ≤ sz ∧ sz ≤ 2 ∧ sz ≤ bs.length := by
  cases bs with
  | nil => simp [lenZ] at h
  | cons c t =>
    have hc := hb c List.mem_cons_self
    by_cases h1 : c < 128
    · refine ⟨c.toNat, 1, ?_, by omega, by omega, by omega, by simp⟩
      simp only [lenZ]
      rw [if_pos h1, Int.toNat_of_nonneg hc.1]
      rfl
    · cases t with
      | nil => simp [lenZ, h1] at h
      | cons d u =>
        have hd := hb d (List.mem_cons_of_mem _ List.mem_cons_self)
        by_cases h2 : 128 ≤ d ∨ d = 0 ∨ 4000 < c - 128 + d * 128
        · simp only [lenZ] at h
          rw [if_neg h1, if_pos h2] at h
          simp at h
        · refine ⟨(c - 128 + d * 128).toNat, 2, ?_, by omega, by omega, by omega, by simp⟩
          simp only [lenZ]
          rw [if_neg h1, if_neg h2, Int.toNat_of_nonneg (by omega)]
          rfl
set_option maxRecDepth 100000 in
set_option maxHeartbeats 2000000 in
theorem jNext_short (w : World) (DB AB LX LB : Nat) (col : Nat → Nat) (a : Option Addr) (n cap k m sz : Nat) (bs : List Int) (rs : List (List Int)) (hN : NextAt w DB AB LX LB col a n cap k bs rs) (hbb : Bys bs) (hk : k < n) (hn : n ≤ 90000) (he : lenZ (bs.drop k) = ((m : Int), (sz : Int), 0)) (hm : m ≤ 4000) (hsz : sz ≤ 2) (hs : n < k + sz + 8 + m) :
    Calls Try.prog 25 #[.pointer (some ⟨DB, 0, none⟩), .pointer (some ⟨AB, 0, none⟩), .pointer (some ⟨LX, 0, none⟩)] w fun e w' => e = .returned (eI 25) ∧ w' = w := by
  have hlen : bs.length = n := by have := hN.sl.1; rw [bV_len] at this; omega
  have hcap := hN.sl.2.1
  have hmax := hN.sl.2.2.1
  unfold maxLen at hmax
  obtain ⟨g, o, rfl, hg, hcs⟩ := hN.sl.pos (by omega)
  have HS := Lib.hid (sl_part hN.sl hlen hg hcs k (n - k) (cap - k) (by omega) (by omega) (by omega))
  have c0 := (hN.data.2 0 _ rfl).1
  have c1 := (hN.pos.2 0 _ rfl).1
  have hD := hN.data.1
  have hA := hN.pos.1
  have HT := Lib.hid (show (bs.drop k).take (n - k) = bs.drop k from List.take_of_length_le (by rw [List.length_drop]; omega))
  have HB := Lib.hid (show Bys (bs.drop k) from fun b hb => hbb b (List.mem_of_mem_drop hb))
  clear hN hcs hbb
  rw [HT.out] at HS
  have HV := Lib.hid (show lenV (lenZ (bs.drop k)) = .tuple #[.int .i64 m, .int .i64 sz, .nilIface] by rw [he]; rfl)
  have hne := neq34_nn
  clear he
  go_enter Try.func25, Try.ntmps25
  go_wp2_with (fail)
  refine (jLength_any _ _ _ (bs.drop k) w HS.out HB.out (by omega)).mono ?_
  rintro e w1 ⟨rfl, rfl⟩
  rw [HV.out]
  have h1 : (n : Int) < (k : Int) + (sz : Int) + 8 + (m : Int) := by omega
  go_wp2
  go_ret
  exact ⟨rfl, rfl⟩
end Go.Proofs.Ytfkbdiheccnohaa
