/- Contract: the closure of Open where the frame lies in the data. -/
import Derived.Test.YtfkbdiheccnohaaJS
namespace Go.Proofs.Ytfkbdiheccnohaa
open Go Go.RowKit Go.BigFrame

theorem NextAt.q {w w' : World} {DB AB LX LB : Nat} {col : Nat → Nat} {a : Option Addr} {n cap k : Nat} {bs : List Int} {rs : List (List Int)} (h : NextAt w DB AB LX LB col a n cap k bs rs) (q : Q w w') : NextAt w' DB AB LX LB col a n cap k bs rs :=
  ⟨h.data.q q, h.pos.q q, h.ptr.q q, h.log.q q, h.apart, h.sl.q q, fun y hy => ⟨(h.far y hy).1, (h.far y hy).2.1, Nat.lt_of_lt_of_le (h.far y hy).2.2 q.size⟩⟩
/-- the error of a frame that does not fit -/
def endE (k n : Nat) : Int := if k = n then 25 else 26
/-- what the closure leaves where it has read a record -/
def NextDone (w : World) (DB AB LX LB : Nat) (col : Nat → Nat) (a : Option Addr) (n cap k : Nat) (bs : List Int) (rs : List (List Int)) (w' : World) : Prop :=
  ∃ col', NextAt w' DB AB LX LB col' a n cap k bs rs ∧ ExtL w col col' ∧ QF (fun i => colL col i ∨ i = AB) w w'
theorem NextAt.at10 {w w' : World} {DB AB LX LB : Nat} {col : Nat → Nat} {a : Option Addr} {n cap k : Nat} {bs : List Int} {rs rs' : List (List Int)} (h : NextAt w DB AB LX LB col a n cap k bs rs) (d : LDone LB col w rs' w') : AB < w'.heap.size ∧ w'.cell? ⟨AB, 0, none⟩ = some (.int .i64 k) ∧ w'.frozen? ⟨AB, 0, none⟩ = false := by
  obtain ⟨col', h1, h2, h3⟩ := d
  have hb := h.pos.qf h3 (fun e => e h.apart.2.2.2.1)
  exact ⟨hb.1, hb.2 0 _ rfl⟩
theorem NextAt.done {w w' : World} {DB AB LX LB : Nat} {col : Nat → Nat} {a : Option Addr} {n cap k k' : Nat} {bs : List Int} {rs rs' : List (List Int)} {v : Int} (h : NextAt w DB AB LX LB col a n cap k bs rs) (d : LDone LB col w rs' w') (hv : v = k') : NextDone w DB AB LX LB col a n cap k' bs rs' (w'.setCell ⟨AB, 0, none⟩ (.int .i64 v)) := by
  subst hv
  obtain ⟨col', h1, h2, h3⟩ := d
  obtain ⟨a1, a2, a3, a4, a5⟩ := h.apart
  have hs : QF (· = AB) w' (w'.setCell ⟨AB, 0, none⟩ (.int .i64 k')) := QF.set (F := (· = AB)) w' AB 0 _ rfl
  have cD : col' DB = 0 := by rw [h2 DB h.data.1]; exact a3
  have cA : col' AB = 0 := by rw [h2 AB h.pos.1]; exact a4
  have cX : col' LX = 0 := by rw [h2 LX h.ptr.1]; exact a5
  refine ⟨col', ⟨(h.data.qf h3 (fun e => e a3)).qf hs (fun e => a1 e.symm), ?_, (h.ptr.qf h3 (fun e => e a5)).qf hs (fun e => a2 e.symm), h1.qf hs (fun b hb => by rw [hb]; exact cA), ⟨a1, a2, cD, cA, cX⟩, ?_, ?_⟩, h2, ?_⟩
  · exact Box.set (h.pos.qf h3 (fun e => e a4)) 0 _ (show 0 < 1 by decide)
  · exact (h.sl.qf h3 (fun y hy e => e (h.far y hy).2.1)).qf hs (fun y hy e => (h.far y hy).1 e)
  · intro y hy
    exact ⟨(h.far y hy).1, by rw [h2 _ (h.far y hy).2.2]; exact (h.far y hy).2.1, by rw [World.size_setCell]; exact Nat.lt_of_lt_of_le (h.far y hy).2.2 h3.size⟩
  · exact (h3.mono (fun i hi => .inl hi)).trans hs (fun i hi => .inl (.inr hi))
set_option maxRecDepth 100000 in
set_option maxHeartbeats 2000000 in
theorem jNext_frame (w : World) (DB AB LX LB : Nat) (col : Nat → Nat) (a : Option Addr) (n cap k m sz : Nat) (bs : List Int) (rs : List (List Int)) (hN : NextAt w DB AB LX LB col a n cap k bs rs) (hbb : Bys bs) (hk : k < n) (hn : n ≤ 90000) (he : lenZ (bs.drop k) = ((m : Int), (sz : Int), 0)) (hm : m ≤ 4000) (hsz : sz ≤ 2) (hs : k + sz + 8 + m ≤ n) (hr : rs.length ≤ 4999) :
    Calls Try.prog 25 #[.pointer (some ⟨DB, 0, none⟩), .pointer (some ⟨AB, 0, none⟩), .pointer (some ⟨LX, 0, none⟩)] w fun e w' =>
      (frameZ ((bs.drop (k + sz + 8)).take m) ≠ (bs.drop k).take (sz + 8 + m) ∧ e = .returned (eI (endE (k + sz + 8 + m) n)) ∧ Q w w') ∨
      (frameZ ((bs.drop (k + sz + 8)).take m) = (bs.drop k).take (sz + 8 + m) ∧ e = .returned .nilIface ∧ NextDone w DB AB LX LB col a n cap (k + sz + 8 + m) bs (rs ++ [(bs.drop (k + sz + 8)).take m]) w') := by
  obtain ⟨i0, hi, hz0, hz1, hz2⟩ := info_parts infoBytes
  have HI := Lib.hid hi
  clear hi
  have hlen : bs.length = n := by have := hN.sl.1; rw [bV_len] at this; omega
  have hcap := hN.sl.2.1
  have hmax := hN.sl.2.2.1
  unfold maxLen at hmax
  have HN := Lib.hid hN
  obtain ⟨g, o, rfl, hg, hcs⟩ := hN.sl.pos (by omega)
  have HS := Lib.hid (sl_part hN.sl hlen hg hcs k (n - k) (cap - k) (by omega) (by omega) (by omega))
  have HS2 := Lib.hid (sl_part hN.sl hlen hg hcs (k + sz + 8) m (cap - (k + sz + 8)) (by omega) (by omega) (by omega))
  have HS4 := Lib.hid (show cap = k + sz + 8 → Sl w 1 (some ⟨g, o, none⟩) m 0 (bV ((bs.drop (k + sz + 8)).take m)) from fun h => by
    have h0 : m = 0 := by omega
    subst h0
    exact sl_part hN.sl hlen hg hcs 0 0 0 (by omega) (by omega) (by omega))
  have HS3 := Lib.hid (show Sl w 1 (some ⟨g, o + k, none⟩) (k + sz + 8 + m - k) (cap - k) (bV ((bs.drop k).take (sz + 8 + m))) from by
    rw [show k + sz + 8 + m - k = sz + 8 + m by omega]
    exact sl_part hN.sl hlen hg hcs k (sz + 8 + m) (cap - k) (by omega) (by omega) (by omega))
  have c0 := (hN.data.2 0 _ rfl).1
  have c1 := (hN.pos.2 0 _ rfl).1
  have hD := hN.data.1
  have hA := hN.pos.1
  have HT := Lib.hid (show (bs.drop k).take (n - k) = bs.drop k from List.take_of_length_le (by rw [List.length_drop]; omega))
  have HB := Lib.hid (show Bys (bs.drop k) from fun b hb => hbb b (List.mem_of_mem_drop hb))
  have HB2 := Lib.hid (show Bys ((bs.drop (k + sz + 8)).take m) from fun b hb => hbb b (List.mem_of_mem_drop (List.mem_of_mem_take hb)))
  have HX2 := Lib.hid (show ((bs.drop (k + sz + 8)).take m).length = m by rw [List.length_take, List.length_drop]; omega)
  clear hN hcs hbb
  rw [HT.out] at HS
  have HV := Lib.hid (show lenV (lenZ (bs.drop k)) = .tuple #[.int .i64 m, .int .i64 sz, .nilIface] by rw [he]; rfl)
  have hnn := neq34_nn
  clear he
  go_enter Try.func25, Try.ntmps25
  go_wp2_with (fail)
  refine (jLength_any _ _ _ (bs.drop k) w HS.out HB.out (by omega)).mono ?_
  rintro e w1 ⟨rfl, rfl⟩
  rw [HV.out]
  have h1 : decide ((n : Int) < (k : Int) + (sz : Int) + 8 + (m : Int)) = false := decide_eq_false (by omega)
  have h2 : (k : Int) + (sz : Int) + 8 + (m : Int) - (m : Int) = ((k + sz + 8 : Nat) : Int) := by omega
  go_wp2_with (fail)
  all_goals
    rename_i h
    refine (cloneBytes_any _ m _ ((bs.drop (k + sz + 8)).take m) w1 (by first | exact HS2.out | exact HS4.out h) (by omega)).mono ?_
    rintro e w2 ⟨b1, cp1, rfl, hown1, hq1⟩
    first | subst h | skip
    have HO1 := Lib.hid hown1
    have HQ1 := Lib.hid hq1
    have d0 := (HN.out.data.q hq1).2 0 _ rfl
    have d1 := (HN.out.pos.q hq1).2 0 _ rfl
    clear hown1 hq1
    go_wp2_with (fail)
    refine wp_region_mix [(0, true), (2, true), (3, true), (4, true), (5, true), (1, false), (6, false), (7, true)] (by kernel_rfl) (by kernel_rfl) (fun _ _ _ _ _ h => h) ?_
    have d0s := cell_soft34 d0.1
    have d1s := cell_soft34 d1.1
    have HQ2 := Lib.hid (HQ1.out.drew)
    have HO2 := Lib.hid (own_q HO1.out (Q.drew (Q.refl w2)))
    generalize w2.drew = W at *
    repeat (refine mix_val rfl rfl ?_; go_big_quiet_step (fail); refine wpQuiet_nil ?_)
    clear d0s d1s d0 d1
    refine mix_run rfl rfl ?_
    intro K hK
    go_wp2_with (fail)
    refine (jFrame_any b1 m cp1 ((bs.drop (k + sz + 8)).take m) W (Sl.of_own HO2.out) HB2.out (by omega)).mono ?_
    rintro e w3 ⟨b3, cp3, rfl, hown3, hq3⟩
    refine hK _ _ hq3 ?_
    clear hK K
    have HO3 := Lib.hid hown3
    have HQ3 := Lib.hid (HQ2.out.trans hq3)
    have HOX := Lib.hid (own_q HO2.out hq3)
    clear hown3 hq3
    refine mix_run rfl rfl ?_
    intro K hK
    go_wp2_with (fail)
    have hfl := frameZ_len ((bs.drop (k + sz + 8)).take m)
    have hfv := varZ_len ((bs.drop (k + sz + 8)).take m).length
    have hfs : (frameZ ((bs.drop (k + sz + 8)).take m)).length ≤ 100000 := by
      rw [HX2.out] at hfl hfv
      split at hfv <;> omega
    refine (equalBytes_any b3 _ _ _ cp3 _ (frameZ ((bs.drop (k + sz + 8)).take m)) ((bs.drop k).take (sz + 8 + m)) w3 (Sl.of_own HO3.out) (HS3.out.q HQ3.out) hfs (by omega)).mono ?_
    clear hfl hfv hfs
    rintro e w4 ⟨rfl, hq4⟩
    refine hK _ _ hq4 ?_
    clear hK K
    have HQ4 := Lib.hid (HQ3.out.trans hq4)
    have HO4 := Lib.hid (own_q HOX.out hq4)
    clear hq4
    have e0 := (HN.out.data.q HQ4.out).2 0 _ rfl
    have e1 := (HN.out.pos.q HQ4.out).2 0 _ rfl
    by_cases hne : frameZ ((bs.drop (k + sz + 8)).take m) = (bs.drop k).take (sz + 8 + m)
    case neg =>
      rw [decide_eq_false hne]
      have HNE := Lib.hid hne
      clear hne
      refine mix_val rfl rfl ?_
      go_big_quiet_step (fail)
      refine wpQuiet_nil ?_
      refine mix_end ?_
      have e0' := e0.1
      clear e0 e1
      by_cases hE : k + sz + 8 + m = n
      · have HEE := Lib.hid hE
        have hb : ((k : Int) + (sz : Int) + 8 + (m : Int) == (n : Int)) = true := by simp; omega
        clear hE
        go_wp2
        all_goals
          go_ret
          exact .inl ⟨HNE.out, by rw [show endE (k + sz + 8 + m) n = 25 from if_pos HEE.out]; rfl, HQ4.out⟩
      · have HEE := Lib.hid hE
        have hb : ((k : Int) + (sz : Int) + 8 + (m : Int) == (n : Int)) = false := by simp; omega
        clear hE
        go_wp2
        all_goals
          go_ret
          exact .inl ⟨HNE.out, by rw [show endE (k + sz + 8 + m) n = 26 from if_neg HEE.out]; rfl, HQ4.out⟩
    case pos =>
      rw [decide_eq_true hne]
      have HNE := Lib.hid hne
      clear hne
      refine mix_val rfl rfl ?_
      go_big_quiet_step (fail)
      refine wpQuiet_nil ?_
      refine mix_end ?_
      clear e0 e1
      have HL4 := Lib.hid (HN.out.log.q (HQ4.out.drew))
      have HQD := Lib.hid (HQ4.out.drew)
      have HLX := Lib.hid (HN.out.ptr.q (HQ4.out.drew))
      have HRX := Lib.hid (Sl.of_own (own_q HO4.out (Q.drew (Q.refl w4))))
      have HBN := Lib.hid (own_pos (own_q HO4.out (Q.drew (Q.refl w4))))
      obtain ⟨ap1, ap2, ap3, ap4, ap5⟩ := HN.out.apart
      have HAP := Lib.hid ap1
      clear ap1
      go_upto_region 12 with (fail)
      refine wp_region_mixS (F := fun b => col b = 2) 10 [(0, true), (1, true), (2, true), (3, true), (4, true), (5, true), (6, false), (7, false), (8, true), (9, true), (10, false)] (by kernel_rfl) (by kernel_rfl) (fun _ _ _ _ _ h => h) ?_
      generalize w4.drew = W at *
      obtain ⟨ta, tc, vs, hbox, hown, hta, hrec⟩ := HL4.out.ex
      have hn2 : ¬ col LB = 2 := by rw [HL4.out.c1]; decide
      have hx2 : ¬ col LX = 2 := by rw [ap5]; decide
      have b0 : ∀ x : AfterF (fun b => col b = 2) W, x.w.cell? ⟨LB, 0, none⟩ = some (.slice ta rs.length tc) := Box.sF (F := fun b => col b = 2) hbox hn2 0 _ rfl
      have x0 : ∀ x : AfterF (fun b => col b = 2) W, x.w.cell? ⟨LX, 0, none⟩ = some (.pointer (some ⟨LB, 0, none⟩)) := Box.sF (F := fun b => col b = 2) HLX.out hx2 0 _ rfl
      have HBX := Lib.hid hbox
      have HOW := Lib.hid hown
      have HTA := Lib.hid hta
      have HRC := Lib.hid hrec
      clear hbox hown hta hrec
      repeat (first | (refine mixS_val rfl rfl ?_; go_big_quiet_step (fail); refine wpQuiet_nil ?_) | (refine mixS_nil rfl rfl rfl ?_; go_big_quiet_step (fail); refine wpQuiet_nil ?_))
      clear b0 x0
      refine mixS_run rfl rfl ?_
      intro K hK
      go_wp2_with (fail)
      refine hK _ _ (QF.of ((Q.refl W).alloc _)) ?_
      clear hK K
      refine mixS_run rfl rfl ?_
      intro K hK
      refine wp_append_sl _ _ 23 rfl 0 27 i0 _ 1 24 Try.underlying23 HI.out hz0 hz1 hz2 rfl (by decide) _ rs.length vs rfl (own_q HOW.out ((Q.refl W).alloc _)) (some ⟨W.heap.size, 0, none⟩) 1 1 [.slice b1 m cp1] rfl (slAlloc W [.slice b1 m cp1] 27 1 rfl) (by simp [Value.oneCell']) (by omega) (by decide) (by omega) ?_
      intro a' tc' w9 hown hgrow hgT
      have HG := Lib.hid (show QF (fun b => col b = 2) (W.alloc (.cells #[.slice b1 m cp1] 27)) w9 from QF.grown hgrow (fun k hk => by
        cases ta with
        | none => cases hk
        | some y => have h1 := HTA.out y rfl; have h2 : y.block = k := Option.some.inj (show some y.block = some k from hk)
                    rw [← h2]; exact h1))
      have HG2 := Lib.hid (show QF (fun b => col b = 2) W w9 from (QF.of ((Q.refl W).alloc _)).trans HG.out (fun i h => .inl h))
      have HO9 := Lib.hid hown
      have HP9 := Lib.hid (own_pos hown)
      have HT := Lib.hid (show ∀ y, a' = some y → col y.block = 2 ∨ W.heap.size + 1 = y.block from fun y hy => by
        subst hy
        rcases hgT y.block rfl with h | h
        · left
          cases ta with
          | none => cases h
          | some z => have h1 := HTA.out z rfl; have h2 : z.block = y.block := Option.some.inj (show some z.block = some y.block from h)
                      rw [← h2]; exact h1
        · right
          rw [h, World.size_alloc])
      clear hgrow hgT hown
      refine hK _ _ HG.out ?_
      clear hK K
      go_frame
      have hb3 := (HBX.out.qf HG2.out hn2).2 0 _ rfl
      have hBl := (HBX.out.qf HG2.out hn2).1
      obtain ⟨hb3, hb3'⟩ := hb3
      repeat (first | (refine mixS_val rfl rfl ?_; go_big_quiet_step (fail); refine wpQuiet_nil ?_) | (refine mixS_nil rfl rfl rfl ?_; go_big_quiet_step (fail); refine wpQuiet_nil ?_))
      refine mixS_last rfl rfl ?_
      intro K hK
      go_wp2_with (fail)
      refine mixS_end ?_
      clear hb3 hb3' hBl
      have hD : LDone LB col w1 (rs ++ [(bs.drop (k + sz + 8)).take m]) (w9.setCell ⟨LB, 0, none⟩ (.slice a' (rs.length + 1) tc')) := by
        have h1 := HQD.out.size
        have n0 : ∀ i, W.heap.size ≤ i → col i = 0 := fun i hi => HL4.out.new0 i hi
        have n0' : ∀ i, w1.heap.size ≤ i → col i = 0 := fun i hi => HN.out.log.new0 i hi
        have hc1 := HL4.out.c1
        have hqs : QF (· = LB) w9 (w9.setCell ⟨LB, 0, none⟩ (.slice a' (rs.length + 1) tc')) := QF.set (F := (· = LB)) w9 LB 0 _ rfl
        have hgs := HG2.out.size
        have hLl : LB < w1.heap.size := HN.out.log.lt LB (by rw [HN.out.log.c1]; decide)
        have hbne : ∀ y, b1 = some y → y.block ≠ LB := fun y hy e => by have := (HBN.out y hy).1; omega
        have htne : ∀ y, a' = some y → y.block ≠ LB := fun y hy e => by
          rcases HT.out y hy with h | h
          · rw [e, hc1] at h; cases h
          · omega
        refine LogAt.push (vs := vs) (a' := a') (cap' := tc') (b := b1) (n := m) (cb := cp1) hc1 n0' hr HN.out.log.ok (by rw [HX2.out]; omega) HB2.out HX2.out.symm ?_ ?_ ?_ ?_ ?_ ?_ ?_ ?_
        · refine ((QF.of HQD.out).trans HG2.out (fun i hi => .inl (by show col i ≠ 0; rw [hi]; decide))).trans hqs (fun i hi => .inl (by show col i ≠ 0; rw [hi, hc1]; decide))
        · exact Box.set (HBX.out.qf HG2.out hn2) 0 _ (show 0 < 1 by decide)
        · exact own_cellTurn HO9.out LB 0 _ htne
        · intro y hy
          rcases HT.out y hy with h | h
          · exact .inl h
          · exact .inr ⟨by omega, by rw [World.size_setCell]; exact (HP9.out y hy).2.1⟩
        · refine (HRC.out.qf HG2.out (fun i hi e => by rw [hi] at e; cases e)).qf hqs (fun i hi e => by rw [e, hc1] at hi; cases hi)
        · exact ((HRX.out.q ((Q.refl W).alloc _)).qf HG.out (fun y hy e => by rw [n0' _ (HBN.out y hy).1] at e; cases e)).qf hqs hbne
        · intro y hy
          have h3 := HBN.out y hy
          rw [World.size_setCell]
          omega
        · intro y z hy hz e
          have h3 := HBN.out z hz
          rcases HT.out y hy with h | h
          · rw [e, n0' _ h3.1] at h; cases h
          · omega
      have HD := Lib.hid hD
      clear hD
      generalize w9.setCell ⟨LB, 0, none⟩ (.slice a' (rs.length + 1) tc') = w10 at *
      have hA0 := HN.out.apart
      have HND := Lib.hid (show NextDone w1 DB AB LX LB col (some ⟨g, o, none⟩) n _ (k + sz + 8 + m) bs (rs ++ [(bs.drop (k + sz + 8)).take m]) (w10.setCell ⟨AB, 0, none⟩ (.int .i64 ((k : Int) + sz + 8 + m))) from NextAt.done HN.out HD.out (by omega))
      have hAB := HN.out.at10 HD.out
      obtain ⟨hA1, hA2, hA3⟩ := hAB
      clear hA0
      go_wp2
      go_ret
      exact .inr ⟨HNE.out, rfl, HND.out⟩
end Go.Proofs.Ytfkbdiheccnohaa
