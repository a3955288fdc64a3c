/- Contracts: Bytes of a log and of a list of records. -/
import Derived.Test.YtfkbdiheccnohaaJF
namespace Go.Proofs.Ytfkbdiheccnohaa
open Go Go.RowKit Go.BigFrame

def bytesL (rs : List (List Int)) : List Int := rs.flatMap frameZ
theorem bytesL_take (rs : List (List Int)) (k : Nat) (hk : k < rs.length) : bytesL (rs.take (k + 1)) = bytesL (rs.take k) ++ frameZ rs[k] := by
  unfold bytesL
  rw [take_snoc_get _ _ hk, List.flatMap_append, List.flatMap_singleton]
theorem bytesL_le (rs : List (List Int)) (k : Nat) : (bytesL (rs.take k)).length ≤ (bytesL rs).length := by
  have h : bytesL rs = bytesL (rs.take k) ++ bytesL (rs.drop k) := by unfold bytesL; rw [← List.flatMap_append, List.take_append_drop]
  rw [h, List.length_append]
  omega
theorem own_q0 {w w1 w' : World} {E : TypeId} {size n cap : Nat} {a : Option Addr} {cs : List Value} (h : w'.ownsRow w1.heap.size E size (.slice a n cap) n cs) (q : Q w w1) : w'.ownsRow w.heap.size E size (.slice a n cap) n cs := by
  obtain ⟨h1, h2⟩ := h
  refine ⟨h1, ?_⟩
  rcases h2 with h2 | ⟨g, c, cur, he, hb, r⟩
  · exact .inl h2
  · exact .inr ⟨g, c, cur, he, Nat.le_trans q.size hb, r⟩
set_option maxRecDepth 100000 in
set_option maxHeartbeats 1000000 in
theorem jBytes_any (LB : Nat) (col : Nat → Nat) (rs : List (List Int)) (w : World) (hL : LogAt w LB col rs) (ht : (bytesL rs).length ≤ 90000) :
    Calls Try.prog 12 #[.pointer (some ⟨LB, 0, none⟩)] w (RetOwn w 5 1 (bytesL rs).length (bV (bytesL rs))) := by
  obtain ⟨i0, hi, hz0, hz1, hz2⟩ := info_parts infoU8
  have HI := Lib.hid hi
  have HOK := Lib.hid hL.ok
  have hsm := hL.small
  obtain ⟨a, cap, hbox, hsl⟩ := hL.slr
  have HSL := Lib.hid hsl
  have c0 := (hbox.2 0 _ rfl).1
  have hlt := hbox.1
  clear hi hL hbox hsl
  go_enter Try.func12, Try.ntmps12
  go_wp2_with (fail)
  clear c0
  go_loopw [3, 11] (fun v i wr => ∃ (k cp m : Nat) (b : Option Addr), k ≤ rs.length ∧ i = .int .i64 k ∧ m = (bytesL (rs.take k)).length ∧ v = .slice b m cp ∧ wr.ownsRow w.heap.size 5 1 (.slice b m cp) m (bV (bytesL (rs.take k))) ∧ Q w wr) (fun _ i _ => rs.length - (intOf i).toNat)
  case atStart => exact ⟨0, 0, 0, none, by omega, rfl, rfl, rfl, World.ownsRow_nil _ _ _ _, Q.refl _⟩
  case round =>
    obtain ⟨k, cp, m, b, hkn, rfl, hm, rfl, hown, hq⟩ := hrel
    have HO := Lib.hid hown
    have HQ := Lib.hid hq
    have HM := Lib.hid hm
    clear hown hq hm
    by_cases h1 : k < rs.length
    · obtain ⟨g, o, d, dc, rfl, hc, hsd, _⟩ := (HSL.out.q HQ.out).at k h1
      have HSD := Lib.hid hsd
      have hxl := HOK.out _ (List.getElem_mem h1)
      have HN := Lib.hid (bytesL_take rs k h1)
      have HLE := Lib.hid (bytesL_le rs (k + 1))
      have HX := Lib.hid hxl
      clear hsd hxl
      generalize rs[k] = x at *
      go_wp2_with (fail)
      refine (jFrame_any d x.length dc x wr HSD.out HX.out.2 (by have := HX.out.1; omega)).mono ?_
      rintro e w1 ⟨b1, cp1, rfl, hown1, hq1⟩
      have HO1 := Lib.hid (own_q HO.out hq1)
      have HS1 := Lib.hid (Sl.of_own hown1)
      have HQ1 := Lib.hid (HQ.out.trans hq1)
      have HB := Lib.hid HQ1.out.size
      have hml : m + (frameZ x).length ≤ 90000 := by
        have h2 := HLE.out
        rw [HN.out, List.length_append, ← HM.out] at h2
        omega
      clear hown1 hq1
      go_wp2_with (at_builtin; refine wpList_append_sl rfl _ _ 27 rfl w.heap.size 5 i0 _ 1 1 Try.underlying27 HI.out hz0 hz1 hz2 rfl (by decide) _ m _ rfl HO1.out b1 _ cp1 _ rfl HS1.out (bV_one _) (by omega) (by decide) HB.out ?_; intro a' cap' w' hown' hgrow' _)
      have HQ2 := Lib.hid (HQ1.out.grown_own HO1.out (Nat.le_refl _) hgrow')
      go_roundw
      case rel =>
        refine ⟨k + 1, cap', _, a', by omega, by go_num, ?_, rfl, ?_, HQ2.out⟩
        · rw [HN.out, List.length_append, ← HM.out]
        · rw [HN.out]
          unfold bV
          rw [List.map_append]
          exact hown'
      case measure => simp [intOf]; omega
    · have e1 : k = rs.length := by omega
      have HE := Lib.hid (show rs.take k = rs from List.take_of_length_le (by omega))
      have h1' : ¬ (k : Int) < rs.length := by omega
      go_wp2
      go_ret
      rw [HE.out] at HM HO
      refine ⟨b, cp, by rw [← HM.out]; rfl, by rw [← HM.out]; exact HO.out, HQ.out⟩
set_option maxRecDepth 100000 in
set_option maxHeartbeats 1000000 in
theorem rBytes34_any (C : Nat → Prop) (a : Option Addr) (n cap : Nat) (rs : List (List Int)) (w : World) (hS : SlR w C a n cap rs) (hok : OkRs rs) (hn5 : n ≤ 5000) (ht : (bytesL rs).length ≤ 90000) :
    Calls Try.prog 14 #[.slice a n cap] w (RetOwn w 5 1 (bytesL rs).length (bV (bytesL rs))) := by
  obtain ⟨i0, hi, hz0, hz1, hz2⟩ := info_parts infoU8
  have HI := Lib.hid hi
  have HOK := Lib.hid hok
  have HSL := Lib.hid hS
  have HNN := Lib.hid hS.1
  clear hi hok hS
  go_enter Try.func14, Try.ntmps14
  go_wp2_with (fail)
  go_loopw [3, 4] (fun v i wr => ∃ (k cp m : Nat) (b : Option Addr), k ≤ n ∧ i = .int .i64 k ∧ m = (bytesL (rs.take k)).length ∧ v = .slice b m cp ∧ wr.ownsRow w.heap.size 5 1 (.slice b m cp) m (bV (bytesL (rs.take k))) ∧ Q w wr) (fun _ i _ => n - (intOf i).toNat)
  case atStart => exact ⟨0, 0, 0, none, by omega, rfl, rfl, rfl, World.ownsRow_nil _ _ _ _, Q.refl _⟩
  case round =>
    obtain ⟨k, cp, m, b, hkn, rfl, hm, rfl, hown, hq⟩ := hrel
    have HO := Lib.hid hown
    have HQ := Lib.hid hq
    have HM := Lib.hid hm
    clear hown hq hm
    by_cases h1 : k < n
    · have h1r : k < rs.length := by rw [← HNN.out]; exact h1
      obtain ⟨g, o, d, dc, rfl, hc, hsd, _⟩ := (HSL.out.q HQ.out).at k h1r
      have HSD := Lib.hid hsd
      have hxl := HOK.out _ (List.getElem_mem h1r)
      have HN := Lib.hid (bytesL_take rs k h1r)
      have HLE := Lib.hid (bytesL_le rs (k + 1))
      have HX := Lib.hid hxl
      clear hsd hxl
      generalize rs[k] = x at *
      clear h1r
      go_wp2_with (fail)
      refine (rFrame_any d x.length dc x wr HSD.out HX.out.2 (by have := HX.out.1; omega)).mono ?_
      rintro e w1 ⟨b1, cp1, rfl, hown1, hq1⟩
      have HO1 := Lib.hid (own_q HO.out hq1)
      have HS1 := Lib.hid (Sl.of_own hown1)
      have HQ1 := Lib.hid (HQ.out.trans hq1)
      have HB := Lib.hid HQ1.out.size
      have hml : m + (frameZ x).length ≤ 90000 := by
        have h2 := HLE.out
        rw [HN.out, List.length_append, ← HM.out] at h2
        omega
      clear hown1 hq1
      go_wp2_with (at_builtin; refine wpList_append_sl rfl _ _ 27 rfl w.heap.size 5 i0 _ 1 1 Try.underlying27 HI.out hz0 hz1 hz2 rfl (by decide) _ m _ rfl HO1.out b1 _ cp1 _ rfl HS1.out (bV_one _) (by omega) (by decide) HB.out ?_; intro a' cap' w' hown' hgrow' _)
      have HQ2 := Lib.hid (HQ1.out.grown_own HO1.out (Nat.le_refl _) hgrow')
      go_roundw
      case rel =>
        refine ⟨k + 1, cap', _, a', by omega, by go_num, ?_, rfl, ?_, HQ2.out⟩
        · rw [HN.out, List.length_append, ← HM.out]
        · rw [HN.out]
          unfold bV
          rw [List.map_append]
          exact hown'
      case measure => simp [intOf]; omega
    · have HE := Lib.hid (show rs.take k = rs from List.take_of_length_le (by rw [← HNN.out]; omega))
      have h1' : ¬ (k : Int) < n := by omega
      go_wp2
      go_ret
      rw [HE.out] at HM HO
      refine ⟨b, cp, by rw [← HM.out]; rfl, by rw [← HM.out]; exact HO.out, HQ.out⟩
end Go.Proofs.Ytfkbdiheccnohaa
