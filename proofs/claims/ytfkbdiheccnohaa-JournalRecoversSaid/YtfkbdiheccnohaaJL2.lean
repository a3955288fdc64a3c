/- Contract: the law's lives. -/
import Derived.Test.YtfkbdiheccnohaaJX
import Derived.Lib.SlBytesConst
namespace Go.Proofs.Ytfkbdiheccnohaa
open Go Go.RowKit Go.BigFrame

theorem live_of (S : Int) : varZ 1 ++ leUp S 8 ++ [97] = [1, S / 256 ^ 0 % 256, S / 256 ^ 1 % 256, S / 256 ^ 2 % 256, S / 256 ^ 3 % 256, S / 256 ^ 4 % 256, S / 256 ^ 5 % 256, S / 256 ^ 6 % 256, S / 256 ^ 7 % 256, 97] := rfl
theorem live_bytes : bytesL [[97]] = varZ 1 ++ leUp (sumB [97]) 8 ++ [97] := by
  unfold bytesL
  rw [List.flatMap_cons, List.flatMap_nil, List.append_nil]
  rfl
theorem live_len : (bytesL [[97]]).length = 10 := by rw [live_bytes, live_of]; rfl
theorem live_0 : (bV (bytesL [[97]]))[0]? = some (.int .u8 1) := by rw [live_bytes, live_of]; rfl
theorem live_9 : (bV (bytesL [[97]]))[9]? = some (.int .u8 97) := by rw [live_bytes, live_of]; rfl
theorem varZ_bys (n : Nat) (h : n ≤ 10000) : Bys (varZ n) := by
  unfold varZ
  split
  · intro b hb; rw [List.mem_singleton.1 hb]; omega
  · intro b hb
    rcases List.mem_cons.1 hb with rfl | hb
    · omega
    · rw [List.mem_singleton.1 hb]; omega
theorem leUp_bys (s : Int) (k : Nat) : Bys (leUp s k) := fun b hb => by
  obtain ⟨i, _, rfl⟩ := List.mem_map.1 hb
  omega
theorem bys_app {p q : List Int} (h : Bys p) (k : Bys q) : Bys (p ++ q) := fun b hb => (List.mem_append.1 hb).elim (h b) (k b)
theorem frameZ_bys {x : List Int} (h : Bys x) (hl : x.length ≤ 10000) : Bys (frameZ x) := bys_app (bys_app (varZ_bys _ hl) (leUp_bys _ _)) h
theorem bytesL_bys {rs : List (List Int)} (h : OkRs rs) : Bys (bytesL rs) := fun b hb => by
  obtain ⟨x, hx, hb⟩ := List.mem_flatMap.1 hb
  exact frameZ_bys (h x hx).2 (by have := (h x hx).1; omega) b hb
theorem ok_97 : OkRs [[97]] := fun x hx => by rw [List.mem_singleton.1 hx]; exact ⟨by decide, fun b hb => by rw [List.mem_singleton.1 hb]; decide⟩
theorem ok4_97 : Ok4 [[97]] := fun x hx => by rw [List.mem_singleton.1 hx]; decide
theorem live_open9 : openZ 9 ((bytesL [[97]]).take 9) [] = ([], 0) := by
  rw [openZ_cut [[97]] 9 9 [] ok4_97 (bytesL_bys ok_97) (by rw [List.length_take]; omega)]
  have h : wholeZ [[97]] 9 = 0 := by
    unfold wholeZ
    rw [if_neg]
    have := live_len
    rw [bytesL_cons, List.length_append] at this
    simp [bytesL] at this
    omega
  rw [h]
  rfl
theorem live_open : openZ 10 (bytesL [[97]]) [] = ([[97]], 0) := by
  have h := openZ_bytes [[97]] 9 [] [] ok4_97
  rw [List.append_nil, openZ_nil] at h
  exact h
/-- a log is kept by what turns only other blocks -/
theorem LDone.got {w0 w w' : World} {LB : Nat} {col : Nat → Nat} {rs : List (List Int)} (h : LDone LB col w rs w') (q : Q w0 w) (hc : ∀ b, col b ≠ 0 → w0.heap.size ≤ b) : Q w0 w' ∧ ∃ col', LogAt w' LB col' rs ∧ ∀ b, col' b ≠ 0 → w0.heap.size ≤ b := by
  obtain ⟨col', h1, hE, hF⟩ := h
  refine ⟨hF.q q (fun i hi => hc i hi), col', h1, fun b hb => ?_⟩
  rcases Nat.lt_or_ge b w.heap.size with h | h
  · rw [hE b h] at hb; exact hc b hb
  · have := q.size; omega
theorem slMark (w : World) (cs : List Value) (t : TypeId) (m : Nat × Nat) (n : Nat) (hl : cs.length = n) (hn : n ≤ 1000000) : Sl (w.alloc (.cells cs.toArray t m)) 1 (some ⟨w.heap.size, 0, none⟩) n n cs :=
  ⟨by omega, Nat.le_refl _, by unfold maxLen; omega, (fun e => by cases e), .inr ⟨w.heap.size, 0, rfl, by simp, fun j u hu => by
    have h := World.cell?_alloc_mark w cs.toArray t m j
    rw [Nat.zero_add]
    refine Eq.trans h ?_
    simpa using hu⟩⟩
set_option maxRecDepth 100000 in
set_option maxHeartbeats 2000000 in
theorem lives34_any (w : World) : Calls Try.prog 17 #[] w fun e w' => e = .returned (.bool true) ∧ Q w w' := by
  have kc := fun (w : World) (C : Array Value) (n c : Nat) => Lib.run_convert_bytes_const (P := Try.prog) w 27 5 C n c Try.underlying27 Try.underlying5
  go_enter Try.func17, Try.ntmps17
  go_wp2_with (fail)
  refine (jOpen_any none 0 0 [] w (sl_nil w) bys_nil (by omega) (fun y hy => by cases hy)).mono ?_
  rintro e w1 ⟨hq, ⟨_, LB, col, rfl, hL, hc⟩ | ⟨hx, _⟩⟩
  case inr => exact absurd rfl hx
  have HQ1 := Lib.hid hq
  have HL1 := Lib.hid hL
  have HC1 := Lib.hid hc
  clear hq hL hc
  go_wp2_with (fail)
  refine (jBytes_any LB col _ w1 HL1.out (by show (0 : Nat) ≤ 90000; omega)).mono ?_
  rintro e w2 ⟨b2, cp2, rfl, hown2, hq2⟩
  have HQ2 := Lib.hid (HQ1.out.trans hq2)
  have HL2 := Lib.hid (HL1.out.q hq2)
  have hz0 : (bytesL (openZ 0 [] []).1).length = 0 := rfl
  clear hown2 hq2
  rw [hz0]
  go_wp2_with (fail)
  have HS3 := Lib.hid (slMark w2 (bV [97]) 5 (1, 1 + 1) 1 rfl (by omega))
  have HQ3 := Lib.hid (HQ2.out.alloc (.cells #[.int .u8 97] 5 (1, 1 + 1)))
  have HL3 := Lib.hid (HL2.out.q ((Q.refl w2).alloc (.cells #[.int .u8 97] 5 (1, 1 + 1))))
  refine (jAppend_any LB col _ _ 1 1 [97] _ HL3.out HS3.out (ok_97 _ List.mem_cons_self).2 (by omega) (by show (0 : Nat) ≤ 4999; omega)).mono ?_
  rintro e w4 (⟨hx, _⟩ | ⟨_, rfl, hd⟩)
  case inl => exact absurd hx (by omega)
  obtain ⟨hq4, col4, hL4, hc4⟩ := hd.got HQ3.out HC1.out
  have HL4 := Lib.hid (show LogAt w4 LB col4 [[97]] from hL4)
  have HQ4 := Lib.hid hq4
  clear hd hq4 hL4 hc4
  go_wp2_with (fail)
  refine (jBytes_any LB col4 _ w4 HL4.out (by rw [live_len]; omega)).mono ?_
  rintro e w5 ⟨b5, cp5, rfl, hown5, hq5⟩
  have HQ5 := Lib.hid (HQ4.out.trans hq5)
  have HS5 := Lib.hid (Sl.of_own hown5)
  have HP5 := Lib.hid (own_pos hown5)
  clear hown5 hq5
  rw [live_len] at HS5 HP5 ⊢
  have hcap5 := HS5.out.2.1
  have hmax5 := HS5.out.2.2.1
  unfold maxLen at hmax5
  go_wp2_with (fail)
  refine (jOpen_any b5 9 cp5 ((bytesL [[97]]).take 9) w5 (HS5.out.take 9 (by omega)) ((bytesL_bys ok_97).take 9) (by omega) (fun y hy => (HP5.out y hy).2.1)).mono ?_
  rw [live_open9]
  rintro e w6 ⟨hq6, ⟨_, L6, col6, rfl, hL6, _⟩ | ⟨hx, _⟩⟩
  case inr => exact absurd rfl hx
  have HQ6 := Lib.hid (HQ5.out.trans hq6)
  have HS6 := Lib.hid (HS5.out.q hq6)
  have HL6 := Lib.hid hL6
  have HP6 := Lib.hid (fun y hy => Nat.lt_of_lt_of_le (HP5.out y hy).2.1 hq6.size)
  clear hq6 hL6
  go_wp2_with (fail)
  refine (jOpen_any b5 10 cp5 (bytesL [[97]]) w6 HS6.out (bytesL_bys ok_97) (by omega) HP6.out).mono ?_
  rw [live_open]
  rintro e w7 ⟨hq7, ⟨_, L7, col7, rfl, hL7, _⟩ | ⟨hx, _⟩⟩
  case inr => exact absurd rfl hx
  have HQ7 := Lib.hid (HQ6.out.trans hq7)
  have HL7 := Lib.hid hL7
  have HL67 := Lib.hid (HL6.out.q hq7)
  obtain ⟨g, o, rfl, hg, hcl⟩ := (HS6.out.q hq7).pos (by omega)
  have c0 := hcl 0 _ live_0
  have c9 := hcl 9 _ live_9
  clear hq7 hL7 hcl
  rw [Nat.add_zero] at c0
  go_wp2_with (fail)
  refine (jRecords_any L6 col6 _ w7 HL67.out).mono ?_
  rintro e w8 ⟨b8, cp8, vs8, rfl, _, hq8⟩
  have HQ8 := Lib.hid (HQ7.out.trans hq8)
  have HL8 := Lib.hid (HL7.out.q hq8)
  clear hq8 c0 c9
  go_wp2_with (fail)
  refine (jRecords_any L7 col7 _ w8 HL8.out).mono ?_
  rintro e w9 ⟨b9, cp9, vs9, rfl, _, hq9⟩
  have HQ9 := Lib.hid (HQ8.out.trans hq9)
  clear hq9
  go_wp2
  go_ret
  exact ⟨rfl, HQ9.out⟩
end Go.Proofs.Ytfkbdiheccnohaa
