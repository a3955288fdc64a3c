/- Contract: the journal's frame. -/
import Derived.Test.YtfkbdiheccnohaaJM
namespace Go.Proofs.Ytfkbdiheccnohaa
open Go Go.RowKit Go.BigFrame

theorem or128 : ∀ r : Nat, r < 256 → bits BinOp.or IntKind.u8 (r : Int) 128 = 128 + ((r % 128 : Nat) : Int) := by decide +kernel
theorem or128m (m : Nat) : bits BinOp.or IntKind.u8 ((m : Int) % 256) 128 = 128 + (m : Int) % 128 := by
  have h := or128 (m % 256) (Nat.mod_lt _ (by decide))
  rw [show ((m % 256 : Nat) : Int) = (m : Int) % 256 by omega] at h
  rw [h]
  omega
theorem divPow34 (S : Int) (j : Nat) : S / 256 ^ j % 256 = S / 2 ^ (8 * j) % 256 := by rw [Int.pow_mul]; rfl
set_option maxRecDepth 100000 in
set_option maxHeartbeats 1000000 in
theorem jFrame_any (a : Option Addr) (n cap : Nat) (bs : List Int) (w : World) (hs : Sl w 1 a n cap (bs.map (Value.int .u8))) (hbb : Bys bs) (hn : n ≤ 10000) :
    Calls Try.prog 24 #[.slice a n cap] w (RetOwn w 5 1 (frameZ bs).length ((frameZ bs).map (Value.int .u8))) := by
  obtain ⟨i0, hi, hz0, hz1, hz2⟩ := info_parts infoU8
  have hlen : bs.length = n := by have := hs.1; simpa using this
  have HS := Lib.hid hs
  have HL := Lib.hid hlen
  have HI := Lib.hid hi
  have HY := Lib.hid hbb
  have HV := Lib.hid (show varZ bs.length = varZ n by rw [hlen])
  clear hs hlen hi hbb
  go_enter Try.func24, Try.ntmps24
  go_wp2_with (fail)
  go_loopw [3, 4] (fun v c wr => ∃ (k cp : Nat) (b : Option Addr) (m : Nat) (xs : List Int), v = .slice b k cp ∧ c = .int .i64 m ∧ wr.ownsRow w.heap.size 5 1 (.slice b k cp) k (xs.map (Value.int .u8)) ∧ Q w wr ∧ ((k = 0 ∧ m = n ∧ xs = []) ∨ (k = 1 ∧ m = n / 128 ∧ 127 < n ∧ xs = [128 + (n : Int) % 128]))) (fun _ c _ => (intOf c).toNat)
  case atStart => exact ⟨0, 0, none, n, [], rfl, rfl, World.ownsRow_nil _ _ _ _, Q.refl _, .inl ⟨rfl, rfl, rfl⟩⟩
  case round =>
    obtain ⟨k, cp, b, m, xs, rfl, rfl, hown, hq, hcase⟩ := hrel
    have HO := Lib.hid hown
    have HQ := Lib.hid hq
    have HC := Lib.hid hcase
    have hm : m ≤ 10000 := by omega
    have hk : k ≤ 1 := by omega
    clear hown hq hcase
    have HB := Lib.hid HQ.out.size
    by_cases h1 : 127 < m
    · have hm' : (127 : Int) < m := by omega
      go_wp2_with (at_builtin; refine append_one rfl _ _ 27 rfl w.heap.size 5 i0 _ 1 1 Try.underlying27 HI.out hz0 hz1 hz2 rfl (by decide) _ k _ rfl HO.out 1 _ rfl [.int .u8 (bits BinOp.or IntKind.u8 ((m : Int) % 256) 128)] rfl rfl (by simp [Value.oneCell']) (by omega) (by decide) HB.out ?_; intro g2 cap2 w2 hown2 hq2)
      go_roundw
      case rel =>
        have hk0 : k = 0 ∧ m = n ∧ xs = [] := by
          rcases HC.out with h | ⟨_, h, _⟩
          · exact h
          · omega
        obtain ⟨rfl, rfl, rfl⟩ := hk0
        exact ⟨1, cap2, _, m / 128, [128 + (m : Int) % 128], rfl, by go_num, by rw [or128m] at hown2; exact hown2, hq2 _ HQ.out (Nat.le_refl _), .inr ⟨rfl, rfl, h1, rfl⟩⟩
      case measure => simp [intOf]; omega
    · have hm' : ¬ (127 : Int) < m := by omega
      have HX := Lib.hid (show varZ n = xs ++ [(m : Int)] ∧ xs.length = k by
        unfold varZ
        rcases HC.out with ⟨rfl, rfl, rfl⟩ | ⟨rfl, rfl, h, rfl⟩
        · rw [if_pos (by omega)]; exact ⟨rfl, rfl⟩
        · rw [if_neg (by omega)]; exact ⟨by simp, rfl⟩)
      go_wp2_with (at_builtin; refine append_one rfl _ _ 27 rfl w.heap.size 5 i0 _ 1 1 Try.underlying27 HI.out hz0 hz1 hz2 rfl (by decide) _ k _ rfl HO.out 1 _ rfl [.int .u8 m] rfl rfl (by simp [Value.oneCell']) (by omega) (by decide) HB.out ?_; intro g2 cap2 w2 hown2 hq2)
      have HQ2 := Lib.hid (hq2 _ HQ.out (Nat.le_refl _))
      have hO2 : w2.ownsRow w.heap.size 5 1 (.slice (some ⟨g2, 0, none⟩) (k + 1) cap2) (k + 1) ((varZ n).map (Value.int .u8)) := by
        rw [HX.out.1, List.map_append]; exact hown2
      have HO2 := Lib.hid hO2
      have HK := Lib.hid (show (varZ n).length = k + 1 by rw [HX.out.1, List.length_append, HX.out.2]; rfl)
      clear hown2 hq2 hO2 HO HQ HB HC HX
      refine (hbytes_any recS a n cap bs w2 (by decide) (by omega) (HS.out.q HQ2.out) HY.out).mono ?_
      rintro e w3 ⟨rfl, hq3⟩
      have HO3 := Lib.hid (own_q HO2.out hq3)
      have HQ3 := Lib.hid (HQ2.out.trans hq3)
      have HU := Lib.hid (show sumB bs = bytesZ (strZ recS) bs from rfl)
      rw [← HU.out]
      have hu := sumB_u64 bs
      have hu0 : 0 ≤ sumB bs := hu.1
      have HU2 := Lib.hid hu
      generalize hS : sumB bs = S at *
      have HSS := Lib.hid hS
      clear hq3 HO2 HQ2 hu hS
      generalize hv0 : k + 1 = v0 at *
      have hv2 : v0 ≤ 2 := by omega
      clear hv0
      go_wp2_with (fail)
      go_loopw [3, 6] (fun v c wr => ∃ (j cp : Nat) (b : Option Addr), j ≤ 8 ∧ c = .int .i64 j ∧ v = .slice b (v0 + j) cp ∧ wr.ownsRow w.heap.size 5 1 (.slice b (v0 + j) cp) (v0 + j) ((varZ n ++ leUp S j).map (Value.int .u8)) ∧ Q w wr) (fun _ c _ => 8 - (intOf c).toNat)
      case atStart => exact ⟨0, cap2, _, by omega, rfl, rfl, by simpa [leUp] using HO3.out, HQ3.out⟩
      case round =>
        obtain ⟨j, cp, b, hj, rfl, rfl, hown, hq⟩ := hrel
        have HO := Lib.hid hown
        have HQ := Lib.hid hq
        have HB := Lib.hid HQ.out.size
        clear hown hq
        by_cases h8 : j < 8
        · have hj8 : (j : Int) < 8 := by omega
          go_wp2_with (at_builtin; refine append_one rfl _ _ 27 rfl w.heap.size 5 i0 _ 1 1 Try.underlying27 HI.out hz0 hz1 hz2 rfl (by decide) _ (v0 + j) _ rfl HO.out 1 _ rfl [.int .u8 (S / 2 ^ (8 * j) % 256)] rfl rfl (by simp [Value.oneCell']) (by omega) (by decide) HB.out ?_; intro g3 cap3 w4 hown4 hq4)
          go_roundw
          case rel =>
            refine ⟨j + 1, cap3, _, by omega, by go_num, rfl, ?_, hq4 _ HQ.out (Nat.le_refl _)⟩
            rw [leUp_succ, ← List.append_assoc, List.map_append, divPow34]
            exact hown4
          case measure => simp [intOf]; omega
        · have e8 : j = 8 := by omega
          subst e8
          have hj8 : ¬ ((8 : Nat) : Int) < 8 := by omega
          go_wp2_with (at_builtin; refine wpList_append_sl rfl _ _ 27 rfl w.heap.size 5 i0 _ 1 1 Try.underlying27 HI.out hz0 hz1 hz2 rfl (by decide) _ (v0 + 8) _ rfl HO.out a n cap _ rfl (HS.out.q HQ.out) (fun u hu => by obtain ⟨b, _, rfl⟩ := List.mem_map.1 hu; rfl) (by omega) (by decide) HB.out ?_; intro a' cap' w' hown' hgrow' _)
          go_ret
          refine ⟨a', cap', ?_, ?_, HQ.out.grown_own HO.out (Nat.le_refl _) hgrow'⟩
          all_goals rw [frameZ_len, HV.out, HK.out, HL.out]
          · rfl
          · unfold frameZ
            rw [HV.out, HSS.out, List.map_append]
            exact hown'
end Go.Proofs.Ytfkbdiheccnohaa
