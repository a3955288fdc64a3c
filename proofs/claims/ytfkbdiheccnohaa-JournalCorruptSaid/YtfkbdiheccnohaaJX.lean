/- Contracts: Crash, the law's filled. -/
import Derived.Test.YtfkbdiheccnohaaJU
namespace Go.Proofs.Ytfkbdiheccnohaa
open Go Go.RowKit Go.BigFrame

theorem Sl.take {w : World} {n cap : Nat} {a : Option Addr} {bs : List Int} (h : Sl w 1 a n cap (bV bs)) (k : Nat) (hk : k ≤ n) : Sl w 1 a k cap (bV (bs.take k)) := by
  obtain ⟨h1, h2, h3, h4, h5⟩ := h
  rw [bV_len] at h1
  refine ⟨by rw [bV_len, List.length_take]; omega, by omega, h3, h4, ?_⟩
  rcases h5 with h5 | ⟨g, o, he, hg, hc⟩
  · exact .inl (by omega)
  · refine .inr ⟨g, o, he, hg, fun j u hu => hc j u ?_⟩
    unfold bV at hu ⊢
    rw [List.map_take, List.getElem?_take] at hu
    split at hu
    · exact hu
    · cases hu
/-- a call that returns a slice of bytes in memory of its own -/
def RetSl (w : World) (bs : List Int) (e : Ending) (w' : World) : Prop :=
  ∃ a cap, e = .returned (.slice a bs.length cap) ∧ Sl w' 1 a bs.length cap (bV bs) ∧ Q w w' ∧ ∀ y, a = some y → w.heap.size ≤ y.block ∧ y.block < w'.heap.size
/-- a call that returns a log in memory of its own -/
def LogRet (w : World) (rs : List (List Int)) (e : Ending) (w' : World) : Prop :=
  Q w w' ∧ ∃ LB col, e = .returned (.pointer (some ⟨LB, 0, none⟩)) ∧ LogAt w' LB col rs ∧ ∀ b, col b ≠ 0 → w.heap.size ≤ b
def crashN (left : Int) (n : Nat) : Nat := if left < 0 then 0 else if left ≤ n then left.toNat else n
theorem crashYtfkbdiheccnohaalo {left : Int} (h : left ≤ 0) (n : Nat) : crashN left n = 0 := by
  unfold crashN
  by_cases h1 : left < 0
  · rw [if_pos h1]
  · rw [if_neg h1, if_pos (by omega)]; omega
set_option maxRecDepth 100000 in
set_option maxHeartbeats 1000000 in
theorem jCrash_any (LB : Nat) (col : Nat → Nat) (rs : List (List Int)) (left : Int) (w : World) (hL : LogAt w LB col rs) (ht : (bytesL rs).length ≤ 90000) (hl : -9223372036854775808 ≤ left ∧ left ≤ 9223372036854775807) :
    Calls Try.prog 23 #[.pointer (some ⟨LB, 0, none⟩), .int .i64 left] w (RetSl w ((bytesL rs).take (crashN left (bytesL rs).length))) := by
  have HL := Lib.hid hL
  have HR := Lib.hid hl
  clear hL hl
  go_enter Try.func23, Try.ntmps23
  go_wp2_with (fail)
  refine (jBytes_any LB col rs w HL.out ht).mono ?_
  rintro e w1 ⟨b, cb, rfl, hown, hq⟩
  have hcap := (Sl.of_own hown).2.1
  have hmax := (Sl.of_own hown).2.2.1
  unfold maxLen at hmax
  have HS := Lib.hid (Sl.of_own hown)
  have HP := Lib.hid (own_pos hown)
  have HQ := Lib.hid hq
  clear hown hq
  generalize hbs : bytesL rs = bs at *
  generalize hbn : bs.length = n at *
  have HN := Lib.hid hbn
  clear hbs hbn
  by_cases h1 : left ≤ 0
  · have HT := Lib.hid (crashYtfkbdiheccnohaalo h1 n)
    have HK := Lib.hid (show (bs.take (crashN left n)).length = 0 by rw [HT.out]; rfl)
    have h2 : left ≤ (n : Int) := by omega
    go_wp2
    go_ret
    refine ⟨b, cb, by rw [HK.out]; rfl, ?_, HQ.out, fun y hy => ⟨(HP.out y hy).1, (HP.out y hy).2.1⟩⟩
    rw [HK.out, HT.out]
    exact HS.out.take 0 (by omega)
  · obtain ⟨k, rfl⟩ := Int.eq_ofNat_of_zero_le (show 0 ≤ left by omega)
    by_cases h2 : k ≤ n
    · have HT := Lib.hid (show crashN k n = k by unfold crashN; rw [if_neg (by omega), if_pos (by omega)]; rfl)
      have HK := Lib.hid (show (bs.take (crashN k n)).length = k by rw [HT.out, List.length_take]; have := HN.out; omega)
      have h3 : (k : Int) ≤ (n : Int) := by omega
      have h4 : (0 : Int) < (k : Int) := by omega
      have h5 : 0 < k := by omega
      clear h1
      go_wp2
      go_ret
      refine ⟨b, cb, by rw [HK.out]; rfl, ?_, HQ.out, fun y hy => ⟨(HP.out y hy).1, (HP.out y hy).2.1⟩⟩
      rw [HK.out, HT.out]
      exact HS.out.take k (by omega)
    · have HT := Lib.hid (show crashN k n = n by unfold crashN; rw [if_neg (by omega), if_neg (by omega)])
      have HK := Lib.hid (show (bs.take (crashN k n)).length = n by rw [HT.out, List.length_take]; have := HN.out; omega)
      have h3 : ¬ (k : Int) ≤ (n : Int) := by omega
      have h4 : (0 : Int) ≤ (n : Int) := by omega
      clear h1
      rcases Nat.eq_zero_or_pos n with rfl | h5
      all_goals
       go_wp2
       go_ret
       refine ⟨b, cb, by rw [HK.out]; rfl, ?_, HQ.out, fun y hy => ⟨(HP.out y hy).1, (HP.out y hy).2.1⟩⟩
       rw [HK.out, HT.out]
       exact HS.out.take _ (by omega)
theorem bys_nil : Bys [] := fun b hb => by cases hb
theorem sl_nil (w : World) : Sl w 1 none 0 0 (bV []) := ⟨rfl, Nat.le_refl _, by unfold maxLen; decide, fun _ => rfl, .inl rfl⟩
set_option maxRecDepth 100000 in
set_option maxHeartbeats 1000000 in
theorem filled34_any (C : Nat → Prop) (a : Option Addr) (n cap : Nat) (rs : List (List Int)) (w : World) (hS : SlR w C a n cap rs) (hok : OkRs rs) (h4 : Ok4 rs) (hn : n ≤ 5000) :
    Calls Try.prog 11 #[.slice a n cap] w (LogRet w rs) := by
  have HS := Lib.hid hS
  have HO := Lib.hid hok
  have H4 := Lib.hid h4
  have HNN := Lib.hid hS.1
  clear hS hok h4
  go_enter Try.func11, Try.ntmps11
  go_wp2_with (fail)
  refine (jOpen_any none 0 0 [] w (sl_nil w) bys_nil (by omega) (fun y hy => by cases hy)).mono ?_
  rintro e w1 ⟨hq, ⟨_, LB, col, rfl, hL, hc⟩ | ⟨hx, _⟩⟩
  case inr => exact absurd rfl hx
  have HQ1 := Lib.hid hq
  have HL1 := Lib.hid hL
  have HC1 := Lib.hid hc
  clear hq hL hc
  go_wp2_with (fail)
  go_loopw [5] (fun i wr => ∃ (k : Nat) (col : Nat → Nat), k ≤ n ∧ i = .int .i64 k ∧ LogAt wr LB col (rs.take k) ∧ (∀ b, col b ≠ 0 → w.heap.size ≤ b) ∧ Q w wr) (fun i _ => n - (intOf i).toNat)
  case atStart => exact ⟨0, col, by omega, rfl, HL1.out, HC1.out, HQ1.out⟩
  case round =>
    obtain ⟨k, col, hk, rfl, hL, hc, hq⟩ := hrel
    have HQ := Lib.hid hq
    have HL := Lib.hid hL
    have HC := Lib.hid hc
    clear hq hL hc
    by_cases h1 : k < n
    · have h1r : k < rs.length := by rw [← HNN.out]; exact h1
      obtain ⟨g, o, d, dc, rfl, hcell, hsd, _⟩ := (HS.out.q HQ.out).at k h1r
      have HSD := Lib.hid hsd
      have HX := Lib.hid (HO.out _ (List.getElem_mem h1r))
      have HX4 := Lib.hid (H4.out _ (List.getElem_mem h1r))
      have HN := Lib.hid (take_snoc_get rs k h1r)
      have HTL := Lib.hid (show (rs.take k).length = k by rw [List.length_take]; omega)
      clear hsd
      generalize rs[k] = x at *
      clear h1r
      go_wp2_with (fail)
      refine (jAppend_any LB col (rs.take k) d x.length dc x wr HL.out HSD.out HX.out.2 HX.out.1 (by rw [HTL.out]; omega)).mono ?_
      rintro e w2 (⟨hx, _⟩ | ⟨_, rfl, hd⟩)
      · exact absurd HX4.out (by omega)
      · obtain ⟨col', hL', hE, hF⟩ := hd
        have HL' := Lib.hid hL'
        have HQ' := Lib.hid (show Q w w2 from hF.q HQ.out (fun i hi => HC.out i hi))
        have HC' := Lib.hid (show ∀ b, col' b ≠ 0 → w.heap.size ≤ b from fun b hb => by
          rcases Nat.lt_or_ge b wr.heap.size with h | h
          · rw [hE b h] at hb; exact HC.out b hb
          · have := HQ.out.size; omega)
        clear hL' hE hF
        go_wp2
        go_roundw
        case rel => exact ⟨k + 1, col', by omega, by go_num, by rw [HN.out]; exact HL'.out, HC'.out, HQ'.out⟩
        case measure => simp [intOf]; omega
    · have e1 : k = n := by omega
      have HE := Lib.hid (show rs.take k = rs from List.take_of_length_le (by rw [← HNN.out]; omega))
      have h1' : ¬ (k : Int) < n := by omega
      go_wp2
      go_ret
      rw [HE.out] at HL
      exact ⟨HQ.out, LB, col, rfl, HL.out, HC.out⟩
end Go.Proofs.Ytfkbdiheccnohaa
