/- Contract: the operations made from numbers. -/
import Derived.Test.YtcpicifnadoeoaaCrM
import Derived.Deep.Cut
namespace Go.Proofs.Ytcpicifnadoeoaa
open Go Go.RowKit Go.BigFrame

def kindOf (n : Int) : Int := if n % 8 = 3 ∨ n % 8 = 4 ∨ n % 8 = 5 ∨ n % 8 = 7 then 1 else 0
theorem kind_get (m : Int) : [Value.int .i64 0, Value.int .i64 0, Value.int .i64 0, Value.int .i64 1, Value.int .i64 1, Value.int .i64 1, Value.int .i64 0, Value.int .i64 1][(m % 8).toNat]? = some (Value.int .i64 (kindOf m)) := by
  have h : m % 8 = 0 ∨ m % 8 = 1 ∨ m % 8 = 2 ∨ m % 8 = 3 ∨ m % 8 = 4 ∨ m % 8 = 5 ∨ m % 8 = 6 ∨ m % 8 = 7 := by omega
  unfold kindOf
  rcases h with h | h | h | h | h | h | h | h <;> rw [h] <;> rfl
def acOf (n : Int) : Ac := ⟨if n % 41 = 7 then 2 else kindOf n, n / 8 % 5 - n / 40 % 13 / 12, n / 1040 % 3, decide (n % 37 = 5), n / 520 % 2⟩
theorem acOf_ok (n : Int) : AcOk (acOf n) := by
  have hk : kindOf n = 0 ∨ kindOf n = 1 := by unfold kindOf; split <;> simp
  refine ⟨?_, ?_, ?_, ?_, ?_, ?_, ?_, ?_⟩ <;> simp only [acOf]
  · split <;> omega
  · split <;> omega
  all_goals omega
def acsOf (zs : List Int) : List Ac := zs.map fun z => acOf (aroundZ z 1000000)
theorem acsOf_snoc (zs : List Int) (z : Int) : acsOf (zs ++ [z]) = acsOf zs ++ [acOf (aroundZ z 1000000)] := by simp [acsOf]
theorem infoAct : (Try.prog.info? 49).map (fun i => (i.zero, i.size, i.bytes)) = some (some (.agg #[.int .i64 0, .int .i64 0, .int .i64 0, .int .i64 0, .int .i64 0, .int .u64 0]), 6, 48) := by kernel_rfl

set_option maxRecDepth 100000 in
set_option maxHeartbeats 1000000 in
theorem acts_any (a : Option Addr) (n cap : Nat) (zs : List Int) (w : World) (hs : Sl w 1 a n cap (zs.map (Value.int .i64))) (hz : ∀ z ∈ zs, -9223372036854775808 ≤ z ∧ z ≤ 9223372036854775807) :
    Calls Try.prog 22 #[.slice a n cap] w (RetOwn w 49 6 (min n 24) ((acsOf (zs.take 24)).flatMap acC)) := by
  obtain ⟨i0, hi, hz0, hz1, hz2⟩ := info_parts infoAct
  have hlen : zs.length = n := by have := hs.1; simpa using this
  have hcapn := hs.2.1
  have hcap := hs.2.2.1
  unfold maxLen at hcap
  have HS := Lib.hid hs
  have HL := Lib.hid hlen
  have HZ := Lib.hid hz
  have HI := Lib.hid hi
  clear hs hlen hz hi
  go_enter Try.func22, Try.ntmps22
  go_wp2_with (fail)
  go_loopw [3, 4] (fun v i wr => ∃ (k cp : Nat) (b : Option Addr), k ≤ n ∧ k ≤ 24 ∧ i = .int .i64 k ∧ v = .slice b k cp ∧ wr.ownsRow w.heap.size 49 6 (.slice b k cp) k ((acsOf (zs.take k)).flatMap acC) ∧ Q w wr) (fun _ i _ => n - (intOf i).toNat)
  case atStart => exact ⟨0, 0, none, by omega, by omega, rfl, rfl, World.ownsRow_nil _ _ _ _, Q.refl _⟩
  case round =>
    obtain ⟨k, cp, b, hkn, hk24, rfl, rfl, hown, hq⟩ := hrel
    have HO := Lib.hid hown
    have HQ := Lib.hid hq
    by_cases h1 : k < n ∧ k < 24
    · obtain ⟨h1, h2⟩ := h1
      have h1' : (k : Int) < n := by omega
      have hzl : k < zs.length := by rw [HL.out]; exact h1
      obtain ⟨g, o, rfl, hg, hcs⟩ := (HS.out.q hq).pos (by omega)
      have hce : wr.cell? ⟨g, o + k, none⟩ = some (.int .i64 zs[k]) := hcs k _ (by simp [hzl])
      have hzr := Lib.hid (HZ.out _ (List.getElem_mem hzl))
      have HN := Lib.hid (show acsOf (zs.take (k + 1)) = acsOf (zs.take k) ++ [acOf (aroundZ zs[k] 1000000)] by rw [take_snoc_get _ _ hzl, acsOf_snoc])
      generalize zs[k] = z at *
      clear hcs hzl hown hq
      go_wp2_with (fail)
      refine (around_any z 1000000 _ hzr.out (by omega)).mono ?_
      rintro e w1 ⟨rfl, rfl⟩
      have p0 := aroundZ_lo z 1000000 (by omega)
      have p1 := aroundZ_hi z 1000000 (by omega)
      generalize aroundZ z 1000000 = m at *
      clear hce
      have hkg := kind_get m
      go_wp2_with (fail)
      have hQA : Q wr ((wr.alloc (.cells #[.int .i64 0, .int .i64 0, .int .i64 0, .int .i64 1, .int .i64 1, .int .i64 1, .int .i64 0, .int .i64 1] 3)).alloc (.cells #[.int .i64 (kindOf m), .int .i64 (m / 8 % 5 - m / 40 % 13 / 12), .int .i64 0, .int .i64 0, .int .i64 0, .int .u64 (m / 520 % 2)] 49)) := ((Q.refl wr).alloc _).alloc _
      have hBA : Box ((wr.alloc (.cells #[.int .i64 0, .int .i64 0, .int .i64 0, .int .i64 1, .int .i64 1, .int .i64 1, .int .i64 0, .int .i64 1] 3)).alloc (.cells #[.int .i64 (kindOf m), .int .i64 (m / 8 % 5 - m / 40 % 13 / 12), .int .i64 0, .int .i64 0, .int .i64 0, .int .u64 (m / 520 % 2)] 49)) (wr.heap.size + 1) [.int .i64 (kindOf m), .int .i64 (m / 8 % 5 - m / 40 % 13 / 12), .int .i64 0, .int .i64 0, .int .i64 0, .int .u64 (m / 520 % 2)] := by
        have := Box.new (wr.alloc (.cells #[.int .i64 0, .int .i64 0, .int .i64 0, .int .i64 1, .int .i64 1, .int .i64 1, .int .i64 0, .int .i64 1] 3)) [.int .i64 (kindOf m), .int .i64 (m / 8 % 5 - m / 40 % 13 / 12), .int .i64 0, .int .i64 0, .int .i64 0, .int .u64 (m / 520 % 2)] 49
        rw [World.size_alloc] at this
        exact this
      have HQA := Lib.hid hQA
      have HBA := Lib.hid hBA
      have hx36 : aroundZ (m / 1040 % 3) 36 = m / 1040 % 3 := by unfold aroundZ; rw [if_neg (by omega)]; omega
      have HX := Lib.hid hx36
      clear hQA hBA hkg hx36
      refine (of_any _ _ (by omega)).mono ?_
      rintro e w2 ⟨rfl, hq2⟩
      rw [HX.out]
      have HQ2 := Lib.hid (HQA.out.trans hq2)
      have hb2 := Box.q HBA.out hq2
      have HB2 := Lib.hid hb2
      have hlt2 := hb2.1
      obtain ⟨e0, f0⟩ := hb2.2 0 _ rfl
      obtain ⟨e1, f1⟩ := hb2.2 1 _ rfl
      obtain ⟨e2, f2⟩ := hb2.2 2 _ rfl
      obtain ⟨e3, f3⟩ := hb2.2 3 _ rfl
      obtain ⟨e4, f4⟩ := hb2.2 4 _ rfl
      obtain ⟨e5, f5⟩ := hb2.2 5 _ rfl
      have HSZ := Lib.hid (show w.heap.size ≤ w2.heap.size from (HQ.out.trans HQ2.out).size)
      have HW := Lib.hid (show wr.heap.size ≤ wr.heap.size + 1 from Nat.le_succ _)
      clear hq2 hb2 HQA HBA HX
      have hx0 : 0 ≤ m / 1040 % 3 := by omega
      have hx3 : m / 1040 % 3 < 3 := by omega
      generalize hxx : m / 1040 % 3 = x at *
      have HXX := Lib.hid hxx
      generalize hpp : m / 8 % 5 - m / 40 % 13 / 12 = p at *
      have HPP := Lib.hid hpp
      generalize hnn : m / 520 % 2 = nn at *
      have HNN := Lib.hid hnn
      clear hxx hpp hnn
      have HQ3 := Lib.hid (((HQ2.out.setCell (p := ⟨wr.heap.size + 1, 2, none⟩) HW.out (.int .i64 (x % 3 - 1))).setCell (p := ⟨wr.heap.size + 1, 3, none⟩) HW.out (.int .i64 (x / 3 % 3 - 1))).setCell (p := ⟨wr.heap.size + 1, 4, none⟩) HW.out (.int .i64 (x / 9)))
      have HB3 := Lib.hid (Box.set (Box.set (Box.set HB2.out 2 (.int .i64 (x % 3 - 1)) (by simp)) 3 (.int .i64 (x / 3 % 3 - 1)) (by simp)) 4 (.int .i64 (x / 9)) (by simp))
      by_cases h41 : m % 41 = 7
      · have b41 : (m % 41 == 7) = true := by simp; omega
        have H41 := Lib.hid h41
        clear h41
        go_upto_region 10 with fail
        clear e0 e1 e2 e3 e4 e5 f0 f1 f2 f3 f4 f5 hlt2 b41
        have HQW := Lib.hid (HQ3.out.setCell (p := ⟨wr.heap.size + 1, 0, none⟩) HW.out (.int .i64 2))
        have hBW : Box ((((w2.setCell ⟨wr.heap.size + 1, 2, none⟩ (.int .i64 (x % 3 - 1))).setCell ⟨wr.heap.size + 1, 3, none⟩ (.int .i64 (x / 3 % 3 - 1))).setCell ⟨wr.heap.size + 1, 4, none⟩ (.int .i64 (x / 9))).setCell ⟨wr.heap.size + 1, 0, none⟩ (.int .i64 2)) (wr.heap.size + 1) [.int .i64 2, .int .i64 p, .int .i64 (x % 3 - 1), .int .i64 (x / 3 % 3 - 1), .int .i64 (x / 9), .int .u64 nn] := Box.set HB3.out 0 (.int .i64 2) (by simp)
        generalize ((((w2.setCell ⟨wr.heap.size + 1, 2, none⟩ (.int .i64 (x % 3 - 1))).setCell ⟨wr.heap.size + 1, 3, none⟩ (.int .i64 (x / 3 % 3 - 1))).setCell ⟨wr.heap.size + 1, 4, none⟩ (.int .i64 (x / 9))).setCell ⟨wr.heap.size + 1, 0, none⟩ (.int .i64 2)) = W at *
        clear HQ3 HB3 HQ2 HB2
        obtain ⟨e0, f0⟩ := hBW.2 0 _ rfl
        obtain ⟨e1, f1⟩ := hBW.2 1 _ rfl
        obtain ⟨e2, f2⟩ := hBW.2 2 _ rfl
        obtain ⟨e3, f3⟩ := hBW.2 3 _ rfl
        obtain ⟨e4, f4⟩ := hBW.2 4 _ rfl
        obtain ⟨e5, f5⟩ := hBW.2 5 _ rfl
        have hltW := hBW.1
        clear hBW
        by_cases h37 : m % 37 = 5
        · have HAC := Lib.hid (show acC (acOf m) = [.int .i64 2, .int .i64 p, .int .i64 (x % 3 - 1), .int .i64 (x / 3 % 3 - 1), .int .i64 9, .int .u64 nn] by
            simp only [acC, acOf, Ac.f]
            rw [HXX.out, HPP.out, HNN.out]
            simp [H41.out, h37])
          have b37 : (m % 37 == 5) = true := by simp; omega
          have HQ4 := Lib.hid (HQW.out.setCell (p := ⟨wr.heap.size + 1, 4, none⟩) HW.out (.int .i64 9))
          have HO4 := Lib.hid (own_q HO.out HQ4.out)
          have HB4 := Lib.hid (HQ.out.trans HQ4.out)
          clear h37
          go_wp2_with (at_builtin; refine append_one rfl _ _ 45 rfl w.heap.size 49 i0 _ 6 48 Try.underlying45 HI.out hz0 hz1 hz2 rfl (by decide) _ k _ rfl HO4.out 1 _ (by simp) [.int .i64 2, .int .i64 p, .int .i64 (x % 3 - 1), .int .i64 (x / 3 % 3 - 1), .int .i64 9, .int .u64 nn] rfl rfl (by simp [Value.oneCell']) (by omega) (by decide) HB4.out.size ?_; intro g5 cap5 w5 hown5 hq5)
          go_roundw
          case rel => exact ⟨k + 1, cap5, _, by omega, by omega, by go_num, rfl, by rw [HN.out, List.flatMap_append, List.flatMap_singleton, HAC.out]; exact hown5, hq5 _ HB4.out (Nat.le_refl _)⟩
          case measure => simp [intOf]; omega
        · have HAC := Lib.hid (show acC (acOf m) = [.int .i64 2, .int .i64 p, .int .i64 (x % 3 - 1), .int .i64 (x / 3 % 3 - 1), .int .i64 (x / 9), .int .u64 nn] by
            simp only [acC, acOf, Ac.f]
            rw [HXX.out, HPP.out, HNN.out]
            simp [H41.out, h37])
          have b37 : (m % 37 == 5) = false := by simp; omega
          have HQ4 := Lib.hid HQW.out
          have HO4 := Lib.hid (own_q HO.out HQ4.out)
          have HB4 := Lib.hid (HQ.out.trans HQ4.out)
          clear h37
          go_wp2_with (at_builtin; refine append_one rfl _ _ 45 rfl w.heap.size 49 i0 _ 6 48 Try.underlying45 HI.out hz0 hz1 hz2 rfl (by decide) _ k _ rfl HO4.out 1 _ (by simp) [.int .i64 2, .int .i64 p, .int .i64 (x % 3 - 1), .int .i64 (x / 3 % 3 - 1), .int .i64 (x / 9), .int .u64 nn] rfl rfl (by simp [Value.oneCell']) (by omega) (by decide) HB4.out.size ?_; intro g5 cap5 w5 hown5 hq5)
          go_roundw
          case rel => exact ⟨k + 1, cap5, _, by omega, by omega, by go_num, rfl, by rw [HN.out, List.flatMap_append, List.flatMap_singleton, HAC.out]; exact hown5, hq5 _ HB4.out (Nat.le_refl _)⟩
          case measure => simp [intOf]; omega
      · have b41 : (m % 41 == 7) = false := by simp; omega
        have H41 := Lib.hid h41
        clear h41
        go_upto_region 10 with fail
        clear e0 e1 e2 e3 e4 e5 f0 f1 f2 f3 f4 f5 hlt2 b41
        have HQW := Lib.hid (HQ3.out)
        have hBW : Box (((w2.setCell ⟨wr.heap.size + 1, 2, none⟩ (.int .i64 (x % 3 - 1))).setCell ⟨wr.heap.size + 1, 3, none⟩ (.int .i64 (x / 3 % 3 - 1))).setCell ⟨wr.heap.size + 1, 4, none⟩ (.int .i64 (x / 9))) (wr.heap.size + 1) [.int .i64 (kindOf m), .int .i64 p, .int .i64 (x % 3 - 1), .int .i64 (x / 3 % 3 - 1), .int .i64 (x / 9), .int .u64 nn] := HB3.out
        generalize (((w2.setCell ⟨wr.heap.size + 1, 2, none⟩ (.int .i64 (x % 3 - 1))).setCell ⟨wr.heap.size + 1, 3, none⟩ (.int .i64 (x / 3 % 3 - 1))).setCell ⟨wr.heap.size + 1, 4, none⟩ (.int .i64 (x / 9))) = W at *
        clear HQ3 HB3 HQ2 HB2
        obtain ⟨e0, f0⟩ := hBW.2 0 _ rfl
        obtain ⟨e1, f1⟩ := hBW.2 1 _ rfl
        obtain ⟨e2, f2⟩ := hBW.2 2 _ rfl
        obtain ⟨e3, f3⟩ := hBW.2 3 _ rfl
        obtain ⟨e4, f4⟩ := hBW.2 4 _ rfl
        obtain ⟨e5, f5⟩ := hBW.2 5 _ rfl
        have hltW := hBW.1
        clear hBW
        by_cases h37 : m % 37 = 5
        · have HAC := Lib.hid (show acC (acOf m) = [.int .i64 (kindOf m), .int .i64 p, .int .i64 (x % 3 - 1), .int .i64 (x / 3 % 3 - 1), .int .i64 9, .int .u64 nn] by
            simp only [acC, acOf, Ac.f]
            rw [HXX.out, HPP.out, HNN.out]
            simp [H41.out, h37])
          have b37 : (m % 37 == 5) = true := by simp; omega
          have HQ4 := Lib.hid (HQW.out.setCell (p := ⟨wr.heap.size + 1, 4, none⟩) HW.out (.int .i64 9))
          have HO4 := Lib.hid (own_q HO.out HQ4.out)
          have HB4 := Lib.hid (HQ.out.trans HQ4.out)
          clear h37
          go_wp2_with (at_builtin; refine append_one rfl _ _ 45 rfl w.heap.size 49 i0 _ 6 48 Try.underlying45 HI.out hz0 hz1 hz2 rfl (by decide) _ k _ rfl HO4.out 1 _ (by simp) [.int .i64 (kindOf m), .int .i64 p, .int .i64 (x % 3 - 1), .int .i64 (x / 3 % 3 - 1), .int .i64 9, .int .u64 nn] rfl rfl (by simp [Value.oneCell']) (by omega) (by decide) HB4.out.size ?_; intro g5 cap5 w5 hown5 hq5)
          go_roundw
          case rel => exact ⟨k + 1, cap5, _, by omega, by omega, by go_num, rfl, by rw [HN.out, List.flatMap_append, List.flatMap_singleton, HAC.out]; exact hown5, hq5 _ HB4.out (Nat.le_refl _)⟩
          case measure => simp [intOf]; omega
        · have HAC := Lib.hid (show acC (acOf m) = [.int .i64 (kindOf m), .int .i64 p, .int .i64 (x % 3 - 1), .int .i64 (x / 3 % 3 - 1), .int .i64 (x / 9), .int .u64 nn] by
            simp only [acC, acOf, Ac.f]
            rw [HXX.out, HPP.out, HNN.out]
            simp [H41.out, h37])
          have b37 : (m % 37 == 5) = false := by simp; omega
          have HQ4 := Lib.hid HQW.out
          have HO4 := Lib.hid (own_q HO.out HQ4.out)
          have HB4 := Lib.hid (HQ.out.trans HQ4.out)
          clear h37
          go_wp2_with (at_builtin; refine append_one rfl _ _ 45 rfl w.heap.size 49 i0 _ 6 48 Try.underlying45 HI.out hz0 hz1 hz2 rfl (by decide) _ k _ rfl HO4.out 1 _ (by simp) [.int .i64 (kindOf m), .int .i64 p, .int .i64 (x % 3 - 1), .int .i64 (x / 3 % 3 - 1), .int .i64 (x / 9), .int .u64 nn] rfl rfl (by simp [Value.oneCell']) (by omega) (by decide) HB4.out.size ?_; intro g5 cap5 w5 hown5 hq5)
          go_roundw
          case rel => exact ⟨k + 1, cap5, _, by omega, by omega, by go_num, rfl, by rw [HN.out, List.flatMap_append, List.flatMap_singleton, HAC.out]; exact hown5, hq5 _ HB4.out (Nat.le_refl _)⟩
          case measure => simp [intOf]; omega
    · have hkm : k = min n 24 := by omega
      have HT := Lib.hid (show zs.take 24 = zs.take k by
        by_cases h24 : n ≤ 24
        · rw [List.take_of_length_le (by rw [HL.out]; omega), List.take_of_length_le (by rw [HL.out]; omega)]
        · rw [show k = 24 by omega])
      have HK := Lib.hid hkm
      have hcond : ¬ ((k : Int) < n ∧ (k : Int) < 24) := by omega
      clear hkm
      by_cases h3 : k < n
      · have h3' : (k : Int) < n := by omega
        have h4' : ¬ (k : Int) < 24 := by omega
        go_wp2
        go_ret
        rw [HT.out, ← HK.out]
        exact ⟨_, _, rfl, HO.out, hq⟩
      · have h3' : ¬ (k : Int) < n := by omega
        go_wp2
        go_ret
        rw [HT.out, ← HK.out]
        exact ⟨_, _, rfl, HO.out, hq⟩
end Go.Proofs.Ytcpicifnadoeoaa
