/- Contract: the reference's Records, made from numbers. -/
import Derived.Test.YtfkbdiheccnohaaJH
namespace Go.Proofs.Ytfkbdiheccnohaa
open Go Go.RowKit Go.BigFrame

def sizeR (n : Int) : Int := if n / 12 % 9 = 8 then 120 + n / 108 % 21 else n % 12
def byR (n : Int) (k : Nat) : Int := (n / 7 + k * (n % 5)) % 256
def upR (n : Int) (k : Nat) : List Int := (List.range k).map (byR n)
def recOf (n : Int) : List Int := upR n (sizeR n).toNat
def recsOf (zs : List Int) : List (List Int) := (zs.take 10).map fun z => recOf (aroundZ z 1000000)
theorem upR_succ (n : Int) (k : Nat) : upR n (k + 1) = upR n k ++ [byR n k] := by simp [upR, List.range_succ]
theorem upR_len (n : Int) (k : Nat) : (upR n k).length = k := by simp [upR]
theorem upR_bys (n : Int) (k : Nat) : Bys (upR n k) := fun b hb => by
  obtain ⟨j, _, rfl⟩ := List.mem_map.1 hb
  unfold byR
  omega
theorem sizeR_le (n : Int) : 0 ≤ sizeR n ∧ sizeR n ≤ 140 := by unfold sizeR; split <;> omega
theorem recsOf_ok (zs : List Int) : OkRs (recsOf zs) := fun x hx => by
  obtain ⟨z, _, rfl⟩ := List.mem_map.1 hx
  have := sizeR_le (aroundZ z 1000000)
  exact ⟨by unfold recOf; rw [upR_len]; omega, upR_bys _ _⟩
theorem recsOf_len (zs : List Int) : (recsOf zs).length ≤ 10 := by simp [recsOf]; omega
theorem recsOf_small (zs : List Int) : ∀ x ∈ recsOf zs, x.length ≤ 140 := fun x hx => by
  obtain ⟨z, _, rfl⟩ := List.mem_map.1 hx
  have := sizeR_le (aroundZ z 1000000)
  unfold recOf; rw [upR_len]; omega
def upRs (zs : List Int) (k : Nat) : List (List Int) := (zs.take k).map fun z => recOf (aroundZ z 1000000)
theorem upRs_succ (zs : List Int) (k : Nat) (hk : k < zs.length) : upRs zs (k + 1) = upRs zs k ++ [recOf (aroundZ zs[k] 1000000)] := by unfold upRs; rw [take_snoc_get _ _ hk, List.map_append]; rfl
set_option maxRecDepth 100000 in
set_option maxHeartbeats 2000000 in
theorem rRecords34_any (a : Option Addr) (n cap : Nat) (zs : List Int) (w : World) (hs : Sl w 1 a n cap (zs.map (Value.int .i64)))
    (hz : ∀ z ∈ zs, -9223372036854775808 ≤ z ∧ z ≤ 9223372036854775807) : Calls Try.prog 10 #[.slice a n cap] w (RetRecs w (recsOf zs)) := by
  obtain ⟨i0, hi, hz0, hz1, hz2⟩ := info_parts infoU8
  obtain ⟨i1, hi1, hy0, hy1, hy2⟩ := info_parts infoBytes
  have hlen : zs.length = n := by have := hs.1; simpa using this
  have hcapn := hs.2.1
  have hcap := hs.2.2.1
  unfold maxLen at hcap
  have HS := Lib.hid hs
  have HL := Lib.hid hlen
  have HZ := Lib.hid hz
  have HI := Lib.hid hi
  have HI1 := Lib.hid hi1
  clear hs hlen hz hi hi1
  go_enter Try.func10, Try.ntmps10
  go_wp2_with (fail)
  go_loopw [3, 4] (fun v i wr => ∃ (k cp : Nat) (b : Option Addr) (vs : List Value), k ≤ n ∧ k ≤ 10 ∧ i = .int .i64 k ∧ v = .slice b k cp ∧ OwnRecs wr w.heap.size b k cp vs (upRs zs k) ∧ Q w wr) (fun _ i _ => n - (intOf i).toNat)
  case atStart => exact ⟨0, 0, none, [], by omega, by omega, rfl, rfl, OwnRecs.nil _ _, Q.refl _⟩
  case round =>
    obtain ⟨k, cp, b, vs, hkn, hk10, rfl, rfl, hown, hq⟩ := hrel
    have HO := Lib.hid hown
    have HQ := Lib.hid hq
    clear hown hq
    have fin : ∀ (k2 : Nat), k2 = k → (n ≤ k ∨ 10 ≤ k) → upRs zs k = recsOf zs ∧ (recsOf zs).length = k := fun _ _ h => by
      have h1 := HL.out
      have h2 : upRs zs k = recsOf zs := by
        unfold upRs recsOf
        rcases h with h | h
        · rw [List.take_of_length_le (by omega), List.take_of_length_le (by omega)]
        · rw [show k = 10 by omega]
      exact ⟨h2, by rw [← h2]; unfold upRs; simp; omega⟩
    have FIN := Lib.hid fin
    clear fin
    by_cases h1 : k < n
    · by_cases h2 : k < 10
      · have hzl : k < zs.length := by rw [HL.out]; exact h1
        obtain ⟨g, o, rfl, hg, hc⟩ := (HS.out.q HQ.out).pos (by omega)
        have hck : wr.cell? ⟨g, o + k, none⟩ = some (.int .i64 zs[k]) := hc k _ (by simp [hzl])
        have hzk := HZ.out _ (List.getElem_mem hzl)
        have HN := Lib.hid (upRs_succ zs k hzl)
        generalize hx : zs[k] = x at *
        clear hc hx hzl
        have HZK := Lib.hid hzk
        clear hzk
        go_wp2_with (fail)
        refine (around_any x 1000000 _ HZK.out (by omega)).mono ?_
        rintro e w1 ⟨rfl, rfl⟩
        have p0 := aroundZ_lo x 1000000 (by omega)
        have p1 := aroundZ_hi x 1000000 (by omega)
        generalize aroundZ x 1000000 = m at *
        have q12 : 0 ≤ m / 12 := by omega
        have q108 : 0 ≤ m / 108 := by omega
        have q7 : 0 ≤ m / 7 := by omega
        have q7' : m / 7 ≤ 200000 := by omega
        have q5 : 0 ≤ m % 5 := by omega
        have q5' : m % 5 ≤ 4 := by omega
        obtain ⟨z, hz⟩ : ∃ z : Nat, sizeR m = z := Int.eq_ofNat_of_zero_le (sizeR_le m).1
        have hzl : z ≤ 140 := by have := (sizeR_le m).2; omega
        have HR := Lib.hid (show recOf m = upR m z by unfold recOf; rw [hz]; rfl)
        by_cases h8 : m / 12 % 9 = 8
        all_goals
          have hsz : (if m / 12 % 9 = 8 then 120 + m / 108 % 21 else m % 12) = z := hz
          first | rw [if_pos h8] at hsz | rw [if_neg h8] at hsz
          have h8b : (m / 12 % 9 == 8) = decide (m / 12 % 9 = 8) := rfl
          first | rw [decide_eq_true h8] at h8b | rw [decide_eq_false h8] at h8b
          clear h8
          have HSZ := Lib.hid hsz
          clear hsz
          go_wp2_with (fail)
          try rw [HSZ.out]
          clear h8b
          generalize wr = W at *
          go_loopw [7, 8] (fun v j wr => ∃ (k2 cp2 : Nat) (b2 : Option Addr), k2 ≤ z ∧ j = .int .i64 k2 ∧ v = .slice b2 k2 cp2 ∧ wr.ownsRow W.heap.size 5 1 (.slice b2 k2 cp2) k2 (bV (upR m k2)) ∧ Q W wr) (fun _ j _ => z - (intOf j).toNat)
          case atStart => exact ⟨0, 0, none, by omega, rfl, rfl, World.ownsRow_nil _ _ _ _, Q.refl _⟩
          case round =>
            obtain ⟨k2, cp2, b2, hk2, rfl, rfl, hown2, hq2⟩ := hrel
            have HO2 := Lib.hid hown2
            have HQ2 := Lib.hid hq2
            have HB2 := Lib.hid hq2.size
            clear hown2 hq2
            by_cases h3 : k2 < z
            · have HN2 := Lib.hid (upR_succ m k2)
              have m0 : 0 ≤ (k2 : Int) * (m % 5) := Int.mul_nonneg (by omega) q5
              have m1 : (k2 : Int) * (m % 5) ≤ 140 * 4 := Int.mul_le_mul (by omega) q5' q5 (by omega)
              have hby : byR m k2 = (m / 7 + k2 * (m % 5)) % 256 := rfl
              have HBY := Lib.hid hby
              clear hby
              go_wp2_with (at_builtin; refine append_one rfl _ _ 27 rfl W.heap.size 5 i0 _ 1 1 Try.underlying27 HI.out hz0 hz1 hz2 rfl (by decide) _ k2 _ rfl HO2.out 1 _ rfl [.int .u8 ((m / 7 + k2 * (m % 5)) % 256)] rfl rfl (by simp [Value.oneCell']) (by omega) (by decide) HB2.out ?_; intro g3 cap3 w4 hown4 hq4)
              go_roundw
              case rel => exact ⟨k2 + 1, cap3, _, by omega, by go_num, rfl, by rw [HN2.out]; unfold bV; rw [List.map_append]; exact hown4, hq4 _ HQ2.out (Nat.le_refl _)⟩
              case measure => simp [intOf]; omega
            · have e2 : k2 = z := by omega
              have HE2 := Lib.hid e2
              have h3' : ¬ (k2 : Int) < z := by omega
              have HXL := Lib.hid (show z = (recOf m).length by rw [HR.out, upR_len])
              have HOW := Lib.hid (show wr.ownsRow W.heap.size 5 1 (.slice b2 z cp2) z (bV (recOf m)) by rw [HR.out]; rw [e2] at HO2; exact HO2.out)
              have HB3 := Lib.hid (HQ.out.trans HQ2.out).size
              subst e2
              go_wp2_with (at_builtin; refine wpList_append_sl rfl _ _ 23 rfl w.heap.size 27 i1 _ 1 24 Try.underlying23 HI1.out hy0 hy1 hy2 rfl (by decide) _ k _ rfl (own_q HO.out.own (HQ2.out.alloc _)) (some ⟨wr.heap.size, 0, none⟩) 1 1 [.slice b2 k2 cp2] rfl (slAlloc wr [.slice b2 k2 cp2] 27 1 rfl) (by simp [Value.oneCell']) (by omega) (by decide) (by have := HB3.out; simp; omega) ?_; intro a' cap' w' hown' hgrow' hT')
              have HP := Lib.hid (HO.out.push (x := recOf m) (HQ2.out.alloc _) hown' hgrow' hT' HXL.out ((Sl.of_own HOW.out).q ((Q.refl wr).alloc _)) (fun y hy => by
                have h2 := own_pos HOW.out y hy
                have h3 := HQ.out.size
                refine ⟨by omega, by rw [World.size_alloc]; omega, fun z hz he => ?_⟩
                have h4 := own_pos HO.out.own z hz
                omega))
              have HQ3 := Lib.hid ((HQ.out.trans (HQ2.out.alloc _)).grown_own (own_q HO.out.own (HQ2.out.alloc _)) (Nat.le_refl _) hgrow')
              clear hown' hgrow' hT'
              go_roundw
              case rel => exact ⟨k + 1, cap', a', _, by omega, by omega, by go_num, rfl, by rw [HN.out]; exact HP.out, HQ3.out⟩
              case measure => simp [intOf]; omega
      · have e1 := FIN.out k rfl (.inr (by omega))
        have HE := Lib.hid e1
        clear e1
        have h2' : ¬ (k : Int) < 10 := by omega
        go_wp2
        go_ret
        rw [HE.out.1] at HO
        refine ⟨b, cp, vs, by rw [HE.out.2]; rfl, by rw [HE.out.2]; exact HO.out, HQ.out⟩
    · have e1 := FIN.out k rfl (.inl (by omega))
      have HE := Lib.hid e1
      clear e1
      have h2' : ¬ (k : Int) < n := by omega
      go_wp2
      go_ret
      rw [HE.out.1] at HO
      refine ⟨b, cp, vs, by rw [HE.out.2]; rfl, by rw [HE.out.2]; exact HO.out, HQ.out⟩
end Go.Proofs.Ytfkbdiheccnohaa
