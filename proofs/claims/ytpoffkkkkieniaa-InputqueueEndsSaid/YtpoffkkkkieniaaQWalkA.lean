/- The walk of InputqueueEnds. -/
import Derived.Test.YtpoffkkkkieniaaQG
import Derived.Test.YtpoffkkkkieniaaQP
namespace Go.Proofs.Ytpoffkkkkieniaa
open Go Go.RowKit Go.BigFrame

theorem wfI {n : Int} (h : (Lit.int .i64 n).wf = true) : -9223372036854775808 ≤ n ∧ n ≤ 9223372036854775807 := wf_i64 h
set_option maxRecDepth 100000 in
set_option maxHeartbeats 1000000 in
theorem ends_walk (wait more : Int) (w : World) (w0 : (Lit.int .i64 wait).wf = true) (w1 : (Lit.int .i64 more).wf = true) :
    Calls Try.prog 9 #[.int .i64 wait, .int .i64 more] w fun e w' => e = .returned (.bool true) ∧ Q w w' := by
  have G0 := Lib.hid (wf_i64 w0)
  have G1 := Lib.hid (wf_i64 w1)
  clear w0 w1
  go_enter Try.func9, Try.ntmps9
  go_wp2_with (fail)
  refine (around_any wait 9 _ G0.out (by omega)).mono ?_
  rintro e w1 ⟨rfl, rfl⟩
  have p0 := aroundZ_lo wait 9 (by omega)
  have p1 := aroundZ_hi wait 9 (by omega)
  obtain ⟨k, hk⟩ := Int.eq_ofNat_of_zero_le p0
  rw [hk] at p1 ⊢
  clear hk p0
  have hk9 : k < 9 := by omega
  clear p1
  go_wp2_with (fail)
  refine (qNew_any 1 k _).mono ?_
  rintro e w1 ⟨B, col, rfl, hQ, hq, hc⟩
  have HQ1 := Lib.hid hQ
  have Hq1 := Lib.hid hq
  have HC1 := Lib.hid hc
  clear hQ hq hc
  go_wp2_with (fail)
  refine (around_any more 1000 _ G1.out (by omega)).mono ?_
  rintro e w2 ⟨rfl, rfl⟩
  have p0 := aroundZ_lo more 1000 (by omega)
  have p1 := aroundZ_hi more 1000 (by omega)
  have hn0 : 6000 ≤ 6000 + aroundZ more 1000 := by omega
  have hn1 : 6000 + aroundZ more 1000 ≤ 6999 := by omega
  clear p0 p1
  go_upto_region 6 with (fail)
  generalize 6000 + aroundZ more 1000 = nw at *
  have ok0' := Lib.hid (ok0 (k := 1) (wt := k) (by omega) (by omega) (by omega))
  obtain ⟨a1, a2, a3, a4⟩ := adv_empty (qs0 1 k) (nw - 6000) (Nat.le_refl 1) (fun _ => rfl) (Nat.zero_le _)
  have okA' := Lib.hid (ok_adv ok0'.out (nw - 6000))
  have hz : ((qs0 1 k).tks.length : Int) = 0 := rfl
  have hwk : ((qs0 1 k).wt : Int) = k := rfl
  obtain ⟨b1, b2, b3, b4⟩ := adv_empty (advT (qs0 1 k) (nw - 6000)) (nw + 8) (by rw [a3]; exact Nat.le_refl 1) (fun t => by rw [a2]; rfl) okA'.out.n6000
  have HL2 := Lib.hid (show (advT (advT (qs0 1 k) (nw - 6000)) (nw + 8)).tks.length = 6000 by
    rw [a4] at b1
    omega)
  have HMX : ∃ mx : Int, Hid (((advT (qs0 1 k) (nw - 6000)).tks.length : Int) = mx) ∧ ((nw - 6000 - k + 1 ≤ 0 ∧ mx = 0) ∨ (0 < nw - 6000 - k + 1 ∧ mx = nw - 6000 - k + 1)) := ⟨_, Lib.hid rfl, by omega⟩
  obtain ⟨mx, HL1, hmx⟩ := HMX
  have HZ := Lib.hid hz
  have okB' := Lib.hid (ok_adv okA'.out (nw + 8))
  have HK2 := Lib.hid (show (advT (advT (qs0 1 k) (nw - 6000)) (nw + 8)).k = 1 by rw [b3, a3]; rfl)
  have HS3 := Lib.hid (show advT (advT (advT (qs0 1 k) (nw - 6000)) (nw + 8)) (nw + 9) = advT (advT (qs0 1 k) (nw - 6000)) (nw + 8) from advT_end (by rw [HL2.out]; decide))
  have HMX := Lib.hid hmx
  clear a1 a2 a3 a4 b1 b2 b3 b4 hz hwk hmx
  go_wp2_with (fail)
  refine (qAdvance_any B col _ (nw - 6000) _ HQ1.out ok0'.out (by omega)).mono ?_
  rintro e w3 ⟨rfl, hd⟩
  rw [HL1.out, HZ.out, Int.sub_zero]
  obtain ⟨col3, h1, h2, h3, _, _⟩ := qstep Hq1.out HC1.out hd
  have HQ3 := Lib.hid h1
  have Hq3 := Lib.hid h2
  have HC3 := Lib.hid h3
  clear hd h1 h2 h3 HQ1 Hq1 HC1
  generalize advT (qs0 1 k) (nw - 6000) = s1 at *
  go_wp2_with (fail)
  refine (qAdvance_any B col3 _ (nw + 8) _ HQ3.out okA'.out (by omega)).mono ?_
  rintro e w4 ⟨rfl, hd⟩
  rw [HL2.out, HL1.out]
  obtain ⟨col4, h1, h2, h3, _, _⟩ := qstep Hq3.out HC3.out hd
  have HQ4 := Lib.hid h1
  have Hq4 := Lib.hid h2
  have HC4 := Lib.hid h3
  clear hd h1 h2 h3 HQ3 Hq3 HC3
  generalize advT s1 (nw + 8) = s2 at *
  go_wp2_with (fail)
  refine (qFixed_no B col4 _ 6000 _ HQ4.out (by rw [HL2.out]; omega)).mono ?_
  rintro e w5 ⟨rfl, rfl⟩
  have HO1 := Lib.hid (show offE s2 (nw + 9) 0 6000 0 0 0 = 18 by
    unfold offE
    rw [if_neg (by rw [HK2.out]; omega), if_neg (by decide), if_pos (by omega)])
  have HO2 := Lib.hid (show offE s2 (nw + 9) 0 5999 0 0 0 = 20 by
    unfold offE
    rw [if_neg (by rw [HK2.out]; omega), if_neg (by decide), if_neg (by omega), if_pos (by rw [HL2.out]; omega)])
  have HT1 := Lib.hid (show offT s2 (nw + 9) 0 6000 0 0 0 = s2 by unfold offT; rw [HO1.out, if_neg (by decide)])
  rcases HMX.out with ⟨c1, rfl⟩ | ⟨c1, rfl⟩
  all_goals
    go_wp2_with (fail)
    refine (qNext_any B col4 _ _ HQ4.out).mono ?_
    rintro e w6 ⟨rfl, rfl⟩
    rw [HL2.out]
    go_wp2_with (fail)
    refine (qAdvance_any B col4 _ (nw + 9) _ HQ4.out okB'.out (by omega)).mono ?_
    rintro e w7 ⟨rfl, hd⟩
    rw [HS3.out] at hd ⊢
    rw [Int.sub_self]
    obtain ⟨col7, h1, h2, h3, _, _⟩ := qstep Hq4.out HC4.out hd
    have HQ7 := Lib.hid h1
    have Hq7 := Lib.hid h2
    have HC7 := Lib.hid h3
    clear hd h1 h2 h3
    go_wp2_with (fail)
    refine (qOffer_any B col7 _ (nw + 9) 0 6000 0 0 0 _ HQ7.out okB'.out (by omega) (by omega)).mono ?_
    rintro e w8 ⟨rfl, hd⟩
    rw [HT1.out] at hd
    rw [HO1.out]
    obtain ⟨col8, h1, h2, h3, _, _⟩ := qstep Hq7.out HC7.out hd
    have HQ8 := Lib.hid h1
    have Hq8 := Lib.hid h2
    have HC8 := Lib.hid h3
    clear hd h1 h2 h3
    go_wp2_with (fail)
    refine (qOffer_any B col8 _ (nw + 9) 0 5999 0 0 0 _ HQ8.out okB'.out (by omega) (by omega)).mono ?_
    rintro e w9 ⟨rfl, hd⟩
    rw [HO2.out]
    obtain ⟨col9, h1, h2, h3, _, _⟩ := qstep Hq8.out HC8.out hd
    have Hq9 := Lib.hid h2
    clear hd h1 h2 h3
    go_wp2_with (fail)
    refine (lives22_any _).mono ?_
    rintro e w10 ⟨rfl, hq⟩
    have Hq10 := Lib.hid (Hq9.out.trans hq)
    clear hq
    go_wp2
    go_ret
    exact ⟨rfl, Hq10.out⟩
end Go.Proofs.Ytpoffkkkkieniaa
