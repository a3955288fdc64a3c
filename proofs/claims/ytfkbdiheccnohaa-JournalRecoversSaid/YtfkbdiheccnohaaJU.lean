/- Contract: the closure of Open, all together; Open. -/
import Derived.Test.YtfkbdiheccnohaaJT
import Derived.Test.YtfkbdiheccnohaaJV
namespace Go.Proofs.Ytfkbdiheccnohaa
open Go Go.RowKit Go.BigFrame

theorem jNext_any (w : World) (DB AB LX LB : Nat) (col : Nat → Nat) (a : Option Addr) (n cap k : Nat) (bs : List Int) (rs : List (List Int)) (hN : NextAt w DB AB LX LB col a n cap k bs rs) (hbb : Bys bs) (hk : k < n) (hn : n ≤ 40000) (hr : rs.length ≤ 4999) :
    Calls Try.prog 25 #[.pointer (some ⟨DB, 0, none⟩), .pointer (some ⟨AB, 0, none⟩), .pointer (some ⟨LX, 0, none⟩)] w fun e w' =>
      ((stepZ (bs.drop k)).1 ≠ 0 ∧ e = .returned (eI (stepZ (bs.drop k)).1) ∧ Q w w') ∨
      ((stepZ (bs.drop k)).1 = 0 ∧ e = .returned .nilIface ∧ NextDone w DB AB LX LB col a n cap (k + (stepZ (bs.drop k)).2.2) bs (rs ++ [(stepZ (bs.drop k)).2.1]) w') := by
  have hlen : bs.length = n := by have := hN.sl.1; rw [bV_len] at this; omega
  have hdl : (bs.drop k).length = n - k := by rw [List.length_drop, hlen]
  by_cases he : (lenZ (bs.drop k)).2.2 ≠ 0
  · have hs : (stepZ (bs.drop k)).1 = (lenZ (bs.drop k)).2.2 := by unfold stepZ; rw [if_pos he]
    refine (jNext_err w DB AB LX LB col a n cap k bs rs hN hbb hk (by omega) he).mono ?_
    rintro e w' ⟨rfl, rfl⟩
    refine .inl ⟨by rw [hs]; exact he, ?_, Q.refl _⟩
    unfold eV34
    rw [hs, if_neg he]
  · obtain ⟨m, sz, hz, hm, h1, h2, h3⟩ := lenZ_ok (bs.drop k) (hbb.drop k) (Classical.not_not.1 he)
    have hst : stepZ (bs.drop k) = if (n : Int) - k < sz + 8 + m then (25, [], 0) else
        if frameZ ((bs.drop (k + sz + 8)).take m) = (bs.drop k).take (sz + 8 + m) then (0, (bs.drop (k + sz + 8)).take m, sz + 8 + m) else if (n : Int) - k = sz + 8 + m then (25, [], 0) else (26, [], 0) := by
      unfold stepZ
      rw [if_neg he, hz]
      simp only [Int.toNat_natCast]
      rw [List.drop_drop, show k + (sz + 8) = k + sz + 8 by omega, hdl, show ((n - k : Nat) : Int) = (n : Int) - k by omega]
    by_cases hs : n < k + sz + 8 + m
    · rw [if_pos (by omega)] at hst
      refine (jNext_short w DB AB LX LB col a n cap k m sz bs rs hN hbb hk (by omega) hz hm h2 hs).mono ?_
      rintro e w' ⟨rfl, rfl⟩
      rw [hst]
      exact .inl ⟨by decide, rfl, Q.refl _⟩
    · rw [if_neg (by omega)] at hst
      refine (jNext_frame w DB AB LX LB col a n cap k m sz bs rs hN hbb hk (by omega) hz hm h2 (by omega) hr).mono ?_
      rintro e w' (⟨hf, rfl, hq⟩ | ⟨hf, rfl, hd⟩)
      · rw [if_neg hf] at hst
        have h26 : (stepZ (bs.drop k)).1 = endE (k + sz + 8 + m) n := by
          rw [hst]
          unfold endE
          by_cases h : k + sz + 8 + m = n
          · rw [if_pos h, if_pos (by omega)]
          · rw [if_neg h, if_neg (by omega)]
        refine .inl ⟨?_, by rw [h26], hq⟩
        rw [h26]
        unfold endE
        split <;> decide
      · rw [if_pos hf] at hst
        rw [hst]
        exact .inr ⟨rfl, rfl, by rw [show k + (sz + 8 + m) = k + sz + 8 + m by omega]; exact hd⟩
theorem stepZ_errs (p : List Int) : (stepZ p).1 = 0 ∨ (stepZ p).1 = 25 ∨ (stepZ p).1 = 26 ∨ (stepZ p).1 = 8 := by
  have hl : (lenZ p).2.2 = 0 ∨ (lenZ p).2.2 = 25 ∨ (lenZ p).2.2 = 8 := by
    cases p with
    | nil => exact .inr (.inl rfl)
    | cons c t =>
      by_cases h : c < 128
      · simp only [lenZ]; rw [if_pos h]; exact .inl rfl
      · cases t with
        | nil => simp only [lenZ]; rw [if_neg h]; exact .inr (.inl rfl)
        | cons d u =>
          simp only [lenZ]; rw [if_neg h]
          split
          · exact .inr (.inr rfl)
          · exact .inl rfl
  unfold stepZ
  split
  · rcases hl with h | h | h <;> simp only [h] <;> simp
  · split
    · exact .inr (.inl rfl)
    · split
      · exact .inl rfl
      · split
        · exact .inr (.inl rfl)
        · exact .inr (.inr (.inl rfl))
/-- what Open leaves -/
def OpenRet (w : World) (r : List (List Int) × Int) (e : Ending) (w' : World) : Prop :=
  Q w w' ∧ ((r.2 = 0 ∧ ∃ LB col, e = .returned (.tuple #[.pointer (some ⟨LB, 0, none⟩), .int .i64 0]) ∧ LogAt w' LB col r.1 ∧ ∀ b, col b ≠ 0 → w.heap.size ≤ b) ∨
    (r.2 ≠ 0 ∧ e = .returned (.tuple #[.pointer none, .int .i64 r.2])))
theorem openStart (w : World) (a : Option Addr) (n cap : Nat) (bs : List Int) (hs : Sl w 1 a n cap (bV bs)) (hf : ∀ y, a = some y → y.block < w.heap.size) (t1 t2 t3 t4 : TypeId) :
    NextAt ((((w.alloc (.cells #[.slice a n cap] t1)).alloc (.cells #[.slice none 0 0] t2)).alloc (.cells #[.pointer (some ⟨w.heap.size + 1, 0, none⟩)] t3)).alloc (.cells #[.int .i64 0] t4))
      w.heap.size (w.heap.size + 1 + 1 + 1) (w.heap.size + 1 + 1) (w.heap.size + 1) (fun b => if b = w.heap.size + 1 then 1 else 0) a n cap 0 bs [] := by
  have b0 := Box.new w [.slice a n cap] t1
  have b1 := Box.new (w.alloc (.cells #[.slice a n cap] t1)) [.slice none 0 0] t2
  have b2 := Box.new ((w.alloc (.cells #[.slice a n cap] t1)).alloc (.cells #[.slice none 0 0] t2)) [.pointer (some ⟨w.heap.size + 1, 0, none⟩)] t3
  have b3 := Box.new (((w.alloc (.cells #[.slice a n cap] t1)).alloc (.cells #[.slice none 0 0] t2)).alloc (.cells #[.pointer (some ⟨w.heap.size + 1, 0, none⟩)] t3)) [.int .i64 0] t4
  simp only [World.size_alloc] at b1 b2 b3
  refine ⟨((b0.alloc _).alloc _).alloc _, b3, b2.alloc _, ⟨⟨none, 0, [], (b1.alloc _).alloc _, World.ownsRow_nil _ _ _ _, (fun y hy => by cases hy), Recs.nil _ _⟩, if_pos rfl, fun b hb => ?_, by decide, fun x hx => by cases hx⟩, ⟨by omega, by omega, ?_, ?_, ?_⟩, hs.q (((((Q.refl w).alloc _).alloc _).alloc _).alloc _), fun y hy => ⟨?_, ?_, ?_⟩⟩
  · simp only [World.size_alloc] at hb
    exact if_neg (by omega)
  · exact if_neg (by omega)
  · exact if_neg (by omega)
  · exact if_neg (by omega)
  · have := hf y hy; omega
  · have := hf y hy
    exact if_neg (by omega)
  · have := hf y hy
    simp only [World.size_alloc]
    omega
set_option maxRecDepth 100000 in
set_option maxHeartbeats 2000000 in
theorem jOpen_any (a : Option Addr) (n cap : Nat) (bs : List Int) (w : World) (hs : Sl w 1 a n cap (bV bs)) (hbb : Bys bs) (hn : n ≤ 40000) (hf : ∀ y, a = some y → y.block < w.heap.size) :
    Calls Try.prog 13 #[.slice a n cap] w (OpenRet w (openZ n bs [])) := by
  have HS := Lib.hid hs
  have HB := Lib.hid hbb
  have HF := Lib.hid hf
  clear hs hbb hf
  go_enter Try.func13, Try.ntmps13
  go_wp2_with (fail)
  have HN0 := Lib.hid (openStart w a n cap bs HS.out HF.out 27 50 25 3)
  have HQ0 := Lib.hid (((((Q.refl w).alloc (.cells #[.slice a n cap] 27)).alloc (.cells #[.slice none 0 0] 50)).alloc (.cells #[.pointer (some ⟨w.heap.size + 1, 0, none⟩)] 25)).alloc (.cells #[.int .i64 0] 3))
  go_loopw [7] (fun v wr => ∃ (k f : Nat) (col : Nat → Nat) (rs : List (List Int)), Q w wr ∧ NextAt wr w.heap.size (w.heap.size + 1 + 1 + 1) (w.heap.size + 1 + 1) (w.heap.size + 1) col a n cap k bs rs ∧ k ≤ n ∧ 9 * rs.length ≤ k ∧ n ≤ k + f ∧ openZ f (bs.drop k) rs = openZ n bs [] ∧ ∀ b, col b ≠ 0 → w.heap.size ≤ b) (fun _ wr => n - (intOf ((wr.cell? ⟨w.heap.size + 1 + 1 + 1, 0, none⟩).getD undef)).toNat)
  case atStart => exact ⟨0, n, _, [], HQ0.out, HN0.out, by omega, by simp, by omega, by simp, fun b hb => by
    by_cases h : b = w.heap.size + 1
    · omega
    · exact absurd (if_neg h) hb⟩
  case round =>
    obtain ⟨k, f, col, rs, hq, hN, hk, h9, hf, ho, hc⟩ := hrel
    have HQ := Lib.hid hq
    have HN := Lib.hid hN
    have HO := Lib.hid ho
    have HC := Lib.hid hc
    have c0 := (hN.data.2 0 _ rfl).1
    have c1 := (hN.pos.2 0 _ rfl).1
    have HCP := Lib.hid c1
    have hD := hN.data.1
    have hA := hN.pos.1
    clear hq hN ho hc
    have hbl : bs.length = n := by have := HS.out.1; rw [bV_len] at this; omega
    by_cases h1 : k < n
    · have hd0 : bs.drop k ≠ [] := fun e => by have := congrArg List.length e; rw [List.length_drop, hbl] at this; simp at this; omega
      obtain ⟨f', rfl⟩ : ∃ f', f = f' + 1 := ⟨f - 1, by omega⟩
      obtain ⟨er, x, m, hst⟩ : ∃ er x m, stepZ (bs.drop k) = (er, x, m) := ⟨_, _, _, rfl⟩
      have HST := Lib.hid hst
      have HD0 := Lib.hid hd0
      clear hst hd0 hbl
      go_wp2_with (fail)
      clear c0 c1 hD hA
      refine (jNext_any wr _ _ _ _ col a n cap k bs rs HN.out HB.out h1 hn (by omega)).mono ?_
      rw [HST.out]
      rintro e w1 (⟨he, rfl, hq1⟩ | ⟨he, rfl, hd⟩)
      · have HO2 := Lib.hid (openZ_bad HD0.out HST.out he (f := f') (rs := rs))
        have HQ1 := Lib.hid (HQ.out.trans hq1)
        have HLG := Lib.hid (HN.out.log.q hq1)
        have x0 := ((HN.out.ptr.q hq1).2 0 _ rfl).1
        have xl := (HN.out.ptr.q hq1).1
        have herr := stepZ_errs (bs.drop k)
        rw [HST.out] at herr
        have hno := eql34_nil
        have HCC := Lib.hid (HN.out.log.c1)
        clear hq1
        rcases herr with rfl | rfl | rfl | rfl
        · exact absurd rfl he
        · clear he
          have HO3 := Lib.hid (HO.out.symm.trans (HO2.out.trans (if_pos rfl)))
          unfold eI
          go_wp2_with (fail)
          refine (eIs_hit 25 w1 (eql34_2525 w1)).mono ?_
          rintro e w2 ⟨rfl, rfl⟩
          go_wp2
          go_ret2
          exact ⟨HQ1.out, by rw [HO3.out]; exact .inl ⟨rfl, _, col, rfl, HLG.out, HC.out⟩⟩
        · clear he
          have HO3 := Lib.hid (HO.out.symm.trans (HO2.out.trans (if_neg (by decide))))
          unfold eI
          go_wp2_with (fail)
          refine (eIs_miss 26 25 w1 (eql34_2625 w1)).mono ?_
          rintro e w2 ⟨rfl, rfl⟩
          go_wp2_with (fail)
          refine (eIs_hit 26 w2 (eql34_2626 w2)).mono ?_
          rintro e w3 ⟨rfl, rfl⟩
          go_wp2
          go_ret2
          exact ⟨HQ1.out, by rw [HO3.out]; exact .inr ⟨by decide, rfl⟩⟩
        · clear he
          have HO3 := Lib.hid (HO.out.symm.trans (HO2.out.trans (if_neg (by decide))))
          unfold eI
          go_wp2_with (fail)
          refine (eIs_miss 8 25 w1 (eql34_825 w1)).mono ?_
          rintro e w2 ⟨rfl, rfl⟩
          go_wp2_with (fail)
          refine (eIs_miss 8 26 w2 (eql34_826 w2)).mono ?_
          rintro e w3 ⟨rfl, rfl⟩
          go_wp2
          go_ret2
          exact ⟨HQ1.out, by rw [HO3.out]; exact .inr ⟨by decide, rfl⟩⟩
      · obtain ⟨u, hu, hxl, hml⟩ := stepZ_ok (HB.out.drop k) (show stepZ (bs.drop k) = (0, x, m) by rw [HST.out]; rw [show er = 0 from he])
        have h9f := frameZ_pos x
        have hno := neq34_nn
        have hnn : ∀ w : World, (binOp .eql 52 .nilIface .nilIface).run Try.prog w = .ok (.bool true) w := fun w => by kernel_rfl
        have hlu : m ≤ n - k := by
          have := congrArg List.length hu
          rw [List.length_append, List.length_drop] at this
          have := HS.out.1
          rw [bV_len] at this
          omega
        have HO2 := Lib.hid (openZ_step HD0.out (show stepZ (bs.drop k) = (0, x, m) by rw [HST.out]; rw [show er = 0 from he]) (f := f') (rs := rs))
        obtain ⟨col', hN', hE, hF⟩ := hd
        rw [show k + ((er, x, m) : Int × List Int × Nat).2.2 = k + m from rfl, show ((er, x, m) : Int × List Int × Nat).2.1 = x from rfl] at hN'
        have HN' := Lib.hid hN'
        have HQ' := Lib.hid (show Q w w1 from hF.q HQ.out (fun i hi => by
          rcases hi with hi | hi
          · exact HC.out i hi
          · omega))
        have HC' := Lib.hid (show ∀ b, col' b ≠ 0 → w.heap.size ≤ b from fun b hb => by
          rcases Nat.lt_or_ge b wr.heap.size with h | h
          · rw [hE b h] at hb; exact HC.out b hb
          · have := HQ.out.size; omega)
        have HP' := Lib.hid (hN'.pos.2 0 _ rfl).1
        clear hN' hE hF hu he
        go_wp2
        go_roundw
        case rel => exact ⟨k + m, f', col', rs ++ [x], HQ'.out, HN'.out, by omega, by rw [List.length_append]; show 9 * (rs.length + 1) ≤ k + m; omega, by omega, by rw [← HO.out, HO2.out, List.drop_drop], HC'.out⟩
        case measure =>
          rw [HP'.out, HCP.out]
          simp only [Option.getD_some, intOf]
          omega
    · have e1 : k = n := by omega
      have HO2 := Lib.hid (show openZ n bs [] = (rs, 0) by rw [← HO.out, List.drop_of_length_le (by omega), openZ_nil])
      have HLG := Lib.hid HN.out.log
      have x0 := (HN.out.ptr.2 0 _ rfl).1
      have xl := HN.out.ptr.1
      have h1' : decide ((k : Int) < (n : Int)) = false := decide_eq_false (by omega)
      clear hbl
      go_wp2
      go_ret2
      exact ⟨HQ.out, by rw [HO2.out]; exact .inl ⟨rfl, _, col, rfl, HLG.out, HC.out⟩⟩
end Go.Proofs.Ytfkbdiheccnohaa
