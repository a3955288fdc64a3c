/- Contracts of the functions over rows of inputs. -/
import Derived.Test.YtcpicifnadoeoaaSlices
namespace Go.Proofs.Ytcpicifnadoeoaa
open Go Go.RowKit

theorem inputs_any (a : Option Addr) (n cap most : Nat) (zs : List Int) (w : World) (hs : Sl w 1 a n cap (zs.map (Value.int .i64)))
    (hz : ∀ z ∈ zs, -9223372036854775808 ≤ z ∧ z ≤ 9223372036854775807) (hmost : most ≤ 100) :
    Calls Try.prog 14 #[.slice a n cap, .int .i64 most] w (RetOwn w 25 3 (min n most) (inCells (codesOf (zs.take most)))) := by
  obtain ⟨i0, hi, hz0, hz1, hz2⟩ := info_parts infoIn
  have hlen : zs.length = n := by have := hs.1; simpa using this
  have hcapn := hs.2.1
  have hcap := hs.2.2.1
  unfold maxLen at hcap
  have HS := Lib.hid hs
  have HL := Lib.hid hlen
  have HZ := Lib.hid hz
  have HI := Lib.hid hi
  clear hs hlen hz
  go_enter Try.func14, Try.ntmps14
  go_wp2_with (fail)
  go_loopw [5, 6] (fun v i wr => ∃ (k cp : Nat) (b : Option Addr), k ≤ n ∧ k ≤ most ∧ i = .int .i64 k ∧ v = .slice b k cp ∧ wr.ownsRow w.heap.size 25 3 (.slice b k cp) k (inCells (codesOf (zs.take k))) ∧ Q w wr) (fun _ i _ => n - (intOf i).toNat)
  case atStart => exact ⟨0, 0, none, by omega, by omega, rfl, rfl, World.ownsRow_nil _ _ _ _, Q.refl _⟩
  case round =>
    obtain ⟨k, cp, b, hkn, hkm, rfl, rfl, hown, hq⟩ := hrel
    by_cases h1 : k < n
    · by_cases h2 : k < most
      · have hzl : k < zs.length := by rw [HL.out]; exact h1
        obtain ⟨g, o, rfl, hg, hc⟩ := (HS.out.q hq).pos (by omega)
        have hck : wr.cell? ⟨g, o + k, none⟩ = some (.int .i64 zs[k]) := hc k _ (by simp [hzl])
        have hzk := HZ.out _ (List.getElem_mem hzl)
        have HN := Lib.hid (show codesOf (zs.take (k + 1)) = codesOf (zs.take k) ++ [aroundZ zs[k] 36] by rw [take_snoc_get _ _ hzl, codesOf_snoc])
        generalize hx : zs[k] = x at *
        clear hc hx hzl
        go_wp2_with (fail)
        refine (of_any _ _ hzk).mono ?_
        rintro e w1 ⟨rfl, hq1⟩
        have hown1 := (own_q hown hq1).alloc (.cells (inC (aroundZ x 36)).toArray 25)
        have hnews := World.news_of_block (heap_alloc_new w1 (.cells (inC (aroundZ x 36)).toArray 25))
        have hsz : w.heap.size ≤ (w1.alloc (.cells (inC (aroundZ x 36)).toArray 25)).heap.size := ((hq.trans hq1).alloc _).size
        have HQ := Lib.hid ((hq.trans hq1).alloc (.cells (inC (aroundZ x 36)).toArray 25))
        have HO := Lib.hid hown1
        have HNW := Lib.hid hnews
        have HSZ := Lib.hid hsz
        clear hq hq1 hown hown1 hnews hsz
        have l1 : k + 1 ≤ maxLen := by unfold maxLen; omega
        have l2 : (k + 1) * 24 ≤ 140737488355328 := by omega
        go_wp2_with (at_builtin; refine wpList_append_lies _ rfl _ _ 32 rfl w.heap.size 25 i0 _ 3 24 Try.underlying32 HI.out hz0 hz1 hz2 rfl (by decide) _ k _ rfl HO.out ⟨w1.heap.size, 0, none⟩ 1 1 (inC (aroundZ x 36)) rfl rfl HNW.out (by simp [inC, Value.oneCell']) (by decide) l1 l2 HSZ.out _ rfl ?_; intro g2 cap2 w2 hown2 hgrow2 hat2 hlt2)
        have HQ2 := Lib.hid (HQ.out.grown_own HO.out (Nat.le_refl _) hgrow2)
        go_roundw
        case rel => exact ⟨k + 1, cap2, _, by omega, by omega, by go_num, rfl, by rw [HN.out, inCells_snoc]; exact hown2, HQ2.out⟩
        case measure => simp [intOf]; omega
      · have e1 : min n most = k := by omega
        have e2 : zs.take k = zs.take most := by rw [show k = most by omega]
        have HE := Lib.hid e1
        have HE2 := Lib.hid e2
        clear e1 e2
        go_wp2
        go_ret
        rw [HE.out, ← HE2.out]
        exact ⟨_, _, rfl, hown, hq⟩
    · have e1 : min n most = k := by omega
      have e2 : zs.take k = zs.take most := by rw [List.take_of_length_le (by rw [HL.out]; omega), List.take_of_length_le (by rw [HL.out]; omega)]
      have HE := Lib.hid e1
      have HE2 := Lib.hid e2
      clear e1 e2
      go_wp2
      go_ret
      rw [HE.out, ← HE2.out]
      exact ⟨_, _, rfl, hown, hq⟩
end Go.Proofs.Ytcpicifnadoeoaa
