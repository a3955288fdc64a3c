/- The walk of JournalPrefix. -/
import Derived.Test.YtfkbdiheccnohaaJWalkA
namespace Go.Proofs.Ytfkbdiheccnohaa
open Go Go.RowKit Go.BigFrame

theorem Sl.takeV {w : World} {n cap : Nat} {a : Option Addr} {vs : List Value} (h : Sl w 1 a n cap vs) (k : Nat) (hk : k ≤ n) : Sl w 1 a k cap (vs.take k) := by
  obtain ⟨h1, h2, h3, h4, h5⟩ := h
  refine ⟨by rw [List.length_take]; omega, by omega, h3, h4, ?_⟩
  rcases h5 with h5 | ⟨g, o, he, hg, hc⟩
  · exact .inl (by omega)
  · refine .inr ⟨g, o, he, hg, fun j u hu => hc j u ?_⟩
    rw [List.getElem?_take] at hu
    split at hu
    · exact hu
    · cases hu
theorem SlR.take {w : World} {C : Nat → Prop} {a : Option Addr} {n cap : Nat} {rs : List (List Int)} (h : SlR w C a n cap rs) (k : Nat) (hk : k ≤ n) : SlR w C a k cap (rs.take k) := by
  obtain ⟨h1, vs, h2, h3, h4⟩ := h
  exact ⟨by rw [List.length_take]; omega, vs.take k, h2.takeV k hk, h3, h4.take k⟩
theorem openZ_pre (bs : List Int) (k : Nat) (hb : Bys bs) (hk : k ≤ bs.length) {r1 r2 : List (List Int)} (h1 : openZ k (bs.take k) [] = (r1, 0)) (h2 : openZ bs.length bs [] = (r2, 0)) : r1.length ≤ r2.length ∧ r2.take r1.length = r1 := by
  have hp : bs.take k ++ bs.drop k = bs := List.take_append_drop k bs
  obtain ⟨s, hs⟩ := openZ_prefix k bs.length (bs.take k) (bs.drop k) [] r1 r2 (by rw [hp]; exact hb) (by rw [List.length_take]; omega) (by rw [hp]; omega) h1 (by rw [hp]; exact h2)
  subst hs
  exact ⟨by rw [List.length_append]; omega, by simp⟩
set_option maxRecDepth 100000 in
set_option maxHeartbeats 4000000 in
theorem jprefix_walk (a0 : Option Addr) (len0 cap0 : Nat) (z0 : List Int) (a1 : Option Addr) (len1 cap1 : Nat) (z1 : List Int) (cut : Int) (w : World) (w0 : IsRow .u8 w a0 len0 cap0 z0) (w1 : IsRow .i64 w a1 len1 cap1 z1) (w2 : (Lit.int .i64 cut).wf = true) :
    Calls Try.prog 4 #[.slice a0 len0 cap0, .slice a1 len1 cap1, .int .i64 cut] w fun e w' => e = .returned (.bool true) ∧ Q w w' := by
  obtain ⟨i0, hi, hz0, hz1, hz2⟩ := info_parts infoU8
  have HI := Lib.hid hi
  have s0 := Lib.hid (Sl.of_row w0)
  have r0 := Lib.hid (rowU8j w0)
  have s1 := Lib.hid (Sl.of_row w1)
  have r1 := Lib.hid (rowI64j w1)
  have rc := Lib.hid (wf_i64 w2)
  clear w0 w1 w2 hi
  go_enter Try.func4, Try.ntmps4
  go_wp2_with (fail)
  refine (rRecords34_any a1 len1 cap1 _ w s1.out r1.out).mono ?_
  rintro e w1 ⟨b1, cp1, vs1, rfl, hO1, hq1⟩
  have HOK := Lib.hid (recsOf_ok (z1.take len1))
  have HO4 := Lib.hid (recsOf_ok4 (z1.take len1))
  have hrl := recsOf_len (z1.take len1)
  have hbl := recsOf_bytes (z1.take len1)
  generalize recsOf (z1.take len1) = rs at *
  have HR1 := Lib.hid hO1
  have HQ1 := Lib.hid hq1
  clear hO1 hq1
  go_wp2_with (fail)
  refine (rBytes34_any _ b1 rs.length cp1 rs w1 HR1.out.slr HOK.out (by omega) (by omega)).mono ?_
  rintro e w2 ⟨b2, cp2, rfl, hown2, hq2⟩
  have HQ2 := Lib.hid (HQ1.out.trans hq2)
  have HW2 := Lib.hid hown2
  have HB1 := Lib.hid HQ1.out.size
  have HB2 := Lib.hid hq2.size
  clear hown2 hq2
  go_wp2_with (fail)
  refine (few_any a0 len0 cap0 60 (z0.take len0) w2 (s0.out.q HQ2.out) (by omega)).mono ?_
  rintro e w3 ⟨b3, cp3, rfl, hown3, hq3⟩
  have HQ3 := Lib.hid (HQ2.out.trans hq3)
  have HB3 := Lib.hid (Nat.le_trans HB2.out hq3.size)
  have HS3 := Lib.hid (Sl.of_own hown3)
  have HW3 := Lib.hid (own_q HW2.out hq3)
  have hfl : ((z0.take len0).take 60).length = min len0 60 := by have := HS3.out.1; simp at this; simp; omega
  have HF := Lib.hid (show Bys ((z0.take len0).take 60) from fun b hb => r0.out b (List.mem_of_mem_take hb))
  generalize (z0.take len0).take 60 = fs at *
  clear hown3 hq3
  go_wp2_with (at_builtin; refine wpList_append_sl rfl _ _ 27 rfl w1.heap.size 5 i0 _ 1 1 Try.underlying27 HI.out hz0 hz1 hz2 rfl (by decide) _ (bytesL rs).length _ rfl HW3.out b3 (min len0 60) cp3 _ rfl HS3.out (bV_one _) (by omega) (by decide) HB3.out ?_; intro b4 cp4 w4 hown4 hgrow4 _)
  have HQ4 := Lib.hid (HQ3.out.grown_own HW3.out HB1.out hgrow4)
  have hlen : (bytesL rs ++ fs).length = (bytesL rs).length + min len0 60 := by rw [List.length_append, hfl]
  have HS4 := Lib.hid (show Sl w4 1 b4 ((bytesL rs).length + min len0 60) cp4 (bV (bytesL rs ++ fs)) from by
    have h := Sl.of_own hown4
    unfold bV
    rw [List.map_append]
    exact h)
  have HP4 := Lib.hid (own_pos hown4)
  have HBY := Lib.hid (bys_app (bytesL_bys HOK.out) HF.out)
  have hn : (bytesL rs).length + min len0 60 ≤ 1560 := by omega
  have hni : ((bytesL rs).length : Int) + (min len0 60 : Nat) = (((bytesL rs).length + min len0 60 : Nat) : Int) := by omega
  rw [hni]
  clear hown4 hgrow4 hfl hbl hni HS3 HW3 HW2
  generalize bytesL rs ++ fs = bs at *
  generalize (bytesL rs).length + min len0 60 = n at *
  have HLN := Lib.hid hlen
  clear hlen
  refine (around_any _ _ _ rc.out (by omega)).mono ?_
  rintro e w5 ⟨rfl, rfl⟩
  have p0 := aroundZ_lo cut ((n : Int) + 1) (by omega)
  have p1 := aroundZ_hi cut ((n : Int) + 1) (by omega)
  generalize aroundZ cut ((n : Int) + 1) = m at *
  obtain ⟨k, rfl⟩ := Int.eq_ofNat_of_zero_le p0
  have hk : k ≤ n := by omega
  clear p0 p1
  have hcap := HS4.out.2.1
  have hmax := HS4.out.2.2.1
  unfold maxLen at hmax
  go_wp2_with (fail)
  refine (jOpen_any b4 n cp4 bs w4 HS4.out HBY.out (by omega) (fun y hy => (HP4.out y hy).2.1)).mono ?_
  rintro e w6 ⟨hq6, hr6⟩
  have HQ6 := Lib.hid (HQ4.out.trans hq6)
  have HS6 := Lib.hid (HS4.out.q hq6)
  have HP6 := Lib.hid (fun y hy => Nat.lt_of_lt_of_le (HP4.out y hy).2.1 hq6.size)
  clear hq6
  obtain ⟨q1, x1, hz1'⟩ : ∃ q1 x1, openZ n bs [] = (q1, x1) := ⟨_, _, rfl⟩
  obtain ⟨q2, x2, hz2'⟩ : ∃ q2 x2, openZ k (bs.take k) [] = (q2, x2) := ⟨_, _, rfl⟩
  have HZ1 := Lib.hid hz1'
  have HZ2 := Lib.hid hz2'
  rw [hz1'] at hr6
  clear hz1' hz2'
  -- the second opening, and what is known behind it
  have second : ∀ (w' : World), Q w w' → Sl w' 1 b4 n cp4 (bV bs) → (∀ y, b4 = some y → y.block < w'.heap.size) → Calls Try.prog 13 #[.slice b4 k cp4] w' (OpenRet w' (q2, x2)) := fun w' _ hs hp => by
    rw [← HZ2.out]
    exact jOpen_any b4 k cp4 (bs.take k) w' (hs.take k hk) (HBY.out.take k) (by omega) hp
  have SEC := Lib.hid second
  clear second
  rcases hr6 with ⟨h0, L6, col6, rfl, hL6, _⟩ | ⟨h0, rfl⟩
  · have h0' : x1 = 0 := h0
    subst h0'
    have HL6 := Lib.hid hL6
    clear hL6 h0
    go_wp2_with (fail)
    refine (SEC.out w6 HQ6.out HS6.out HP6.out).mono ?_
    rintro e w7 ⟨hq7, hr7⟩
    have HQ7 := Lib.hid (HQ6.out.trans hq7)
    have HL7 := Lib.hid (HL6.out.q hq7)
    clear hq7
    rcases hr7 with ⟨h0, L7, col7, rfl, hL7, _⟩ | ⟨h0, rfl⟩
    · have h0' : x2 = 0 := h0
      subst h0'
      have HM7 := Lib.hid hL7
      clear hL7 h0
      have hpre := openZ_pre bs k HBY.out (by rw [HLN.out]; exact hk) HZ2.out (by rw [HLN.out]; exact HZ1.out)
      have hle := hpre.1
      have HPT := Lib.hid hpre.2
      have hq5k := HL7.out.small
      have hq5k2 := HM7.out.small
      clear hpre
      change q1.length ≤ 5000 at hq5k
      change q2.length ≤ 5000 at hq5k2
      go_wp2_with (fail)
      refine (jRecords_any L6 col6 q1 w7 HL7.out).mono ?_
      rintro e w8 ⟨b8, cp8, vs8, rfl, hO8, hq8⟩
      have HQ8 := Lib.hid (HQ7.out.trans hq8)
      have HM8 := Lib.hid (HM7.out.q hq8)
      have HO8 := Lib.hid hO8
      clear hO8 hq8
      go_wp2_with (fail)
      refine (jRecords_any L7 col7 q2 w8 HM8.out).mono ?_
      rintro e w9 ⟨b9, cp9, vs9, rfl, hO9, hq9⟩
      have HQ9 := Lib.hid (HQ8.out.trans hq9)
      have HO8' := Lib.hid (HO8.out.q hq9)
      have HO9 := Lib.hid hO9
      clear hO9 hq9
      have hc8 := (Sl.of_own HO8'.out.own).2.1
      have hm8 := (Sl.of_own HO8'.out.own).2.2.1
      unfold maxLen at hm8
      have hlei : (q2.length : Int) ≤ (q1.length : Int) := by omega
      go_wp2_with (fail)
      refine (rSame34_any _ _ b8 b9 q2.length q2.length cp8 cp9 q2 q2 w9 (by have h := HO8'.out.slr.take q2.length hle; rw [HPT.out] at h; exact h) HO9.out.slr HM7.out.ok HM7.out.ok (by omega) (by omega)).mono ?_
      rintro e w10 ⟨rfl, hq10⟩
      have HQ10 := Lib.hid (HQ9.out.trans hq10)
      clear hq10
      rw [show decide (q2 = q2) = true from decide_eq_true rfl]
      go_wp2_with (fail)
      refine (lives34_any w10).mono ?_
      rintro e w11 ⟨rfl, hq11⟩
      have HQ11 := Lib.hid (HQ10.out.trans hq11)
      clear hq11
      go_wp2
      go_ret
      exact ⟨rfl, HQ11.out⟩
    · have hx2 : (x2 != 0) = true := by simpa using h0
      clear h0
      go_wp2_with (fail)
      refine (lives34_any w7).mono ?_
      rintro e w11 ⟨rfl, hq11⟩
      have HQ11 := Lib.hid (HQ7.out.trans hq11)
      clear hq11
      go_wp2
      go_ret
      exact ⟨rfl, HQ11.out⟩
  · have hx1 : (x1 != 0) = true := by simpa using h0
    clear h0
    go_wp2_with (fail)
    refine (SEC.out w6 HQ6.out HS6.out HP6.out).mono ?_
    rintro e w7 ⟨hq7, hr7⟩
    have HQ7 := Lib.hid (HQ6.out.trans hq7)
    clear hq7
    rcases hr7 with ⟨h0, L7, col7, rfl, hL7, _⟩ | ⟨h0, rfl⟩
    · have h0' : x2 = 0 := h0
      subst h0'
      clear hL7 h0
      go_wp2_with (fail)
      refine (lives34_any w7).mono ?_
      rintro e w11 ⟨rfl, hq11⟩
      have HQ11 := Lib.hid (HQ7.out.trans hq11)
      clear hq11
      go_wp2
      go_ret
      exact ⟨rfl, HQ11.out⟩
    · have hx2 : (x2 != 0) = true := by simpa using h0
      clear h0
      go_wp2_with (fail)
      refine (lives34_any w7).mono ?_
      rintro e w11 ⟨rfl, hq11⟩
      have HQ11 := Lib.hid (HQ7.out.trans hq11)
      clear hq11
      go_wp2
      go_ret
      exact ⟨rfl, HQ11.out⟩
end Go.Proofs.Ytfkbdiheccnohaa
