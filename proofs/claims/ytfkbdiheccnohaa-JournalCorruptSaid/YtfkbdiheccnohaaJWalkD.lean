/- The walk of JournalLimits. -/
import Derived.Test.YtfkbdiheccnohaaJWalkC
import Derived.Test.YtfkbdiheccnohaaOwnSet
namespace Go.Proofs.Ytfkbdiheccnohaa
open Go Go.RowKit Go.BigFrame

theorem own_repl34 (w : World) (base k : Nat) (hk : k ≤ 10000) (hb : base ≤ w.heap.size) : (w.alloc (.cells (Array.replicate k (Value.int .u8 0)) 5)).ownsRow base 5 1 (.slice (some ⟨w.heap.size, 0, none⟩) k k) k (bV (List.replicate k 0)) :=
  ⟨by simp [bV], .inr ⟨w.heap.size, k, (Array.replicate k (Value.int .u8 0)), rfl, hb, heap_alloc_new w _, Nat.le_refl _, by unfold maxLen; omega, by simp, by simp [bV]⟩⟩
theorem mkBytes34 (w : World) (k : Nat) (hk : k ≤ 10000) : (Instr.makeSlice 27 (.int .i64 k) (.int .i64 k)).run Try.prog w = .ok (.slice (some ⟨w.heap.size, 0, none⟩) k k) (w.alloc (.cells (Array.replicate k (Value.int .u8 0)) 5)) := by
  obtain ⟨i, hi, hz, h1, h2⟩ := info_parts infoU8
  have h := run_makeSlice (P := Try.prog) w 27 5 i _ Try.underlying27 hi hz .i64 .i64 k k (by omega) (by omega) (by rw [h1]; omega) (by rw [h2]; omega) (by omega)
  rw [h]
  have e : madeCells (Value.int .u8 0).cells ((k : Int).toNat * i.size) = (Array.replicate k (Value.int .u8 0)) := by
    rw [h1]
    apply Array.ext'
    rw [show (k : Int).toNat * 1 = k by omega]
    have := toList_madeCells_one (Value.int .u8 0) k
    rw [Array.toList_replicate]
    exact this
  rw [e]
  rfl
/-- the first k bytes written -/
def halfW (c : Int) (n k : Nat) : List Int := List.replicate k c ++ List.replicate (n - k) 0
theorem halfW_0 (c : Int) (n : Nat) : halfW c n 0 = List.replicate n 0 := by simp [halfW]
theorem halfW_set (c : Int) (n k : Nat) (hk : k < n) : (halfW c n k).set k c = halfW c n (k + 1) := by
  unfold halfW
  rw [List.set_append, if_neg (by simp), List.length_replicate, Nat.sub_self, show n - k = (n - (k + 1)) + 1 by omega, List.replicate_succ, List.set_cons_zero, List.replicate_succ', List.append_assoc]
  rfl
theorem halfW_at (c : Int) (n k : Nat) (hk : k < n) : (bV (halfW c n k))[k]? = some (.int .u8 0) := by
  unfold bV halfW
  rw [List.getElem?_map, List.getElem?_append_right (by simp), List.length_replicate, Nat.sub_self]
  rw [show n - k = (n - (k + 1)) + 1 by omega]
  rfl
theorem halfW_len (c : Int) (n k : Nat) (hk : k ≤ n) : (halfW c n k).length = n := by unfold halfW; simp; omega
theorem halfW_bys (c : Int) (n k : Nat) (hc : 0 ≤ c ∧ c ≤ 255) : Bys (halfW c n k) := fun b hb => by
  unfold halfW at hb
  rcases List.mem_append.1 hb with hb | hb
  · rw [(List.mem_replicate.1 hb).2]; exact hc
  · rw [(List.mem_replicate.1 hb).2]; omega
set_option maxRecDepth 100000 in
set_option maxHeartbeats 4000000 in
theorem jlimits_walk (size c : Int) (w : World) (w0 : (Lit.int .i64 size).wf = true) (w1 : (Lit.int .u8 c).wf = true) :
    Calls Try.prog 7 #[.int .i64 size, .int .u8 c] w fun e w' => e = .returned (.bool true) ∧ Q w w' := by
  have G0 := Lib.hid (wf_i64 w0)
  have G1 := Lib.hid (show 0 ≤ c ∧ c ≤ 255 from wf_u8 w1)
  clear w0 w1
  go_enter Try.func7, Try.ntmps7
  go_wp2_with (fail)
  refine (around_any _ 6 _ G0.out (by omega)).mono ?_
  rintro e w1 ⟨rfl, rfl⟩
  have p0 := aroundZ_lo size 6 (by omega)
  have p1 := aroundZ_hi size 6 (by omega)
  generalize aroundZ size 6 = m at *
  obtain ⟨k0, rfl⟩ := Int.eq_ofNat_of_zero_le p0
  obtain ⟨n, hn⟩ : ∃ n : Nat, (3998 : Int) + (k0 : Int) = (n : Int) := ⟨3998 + k0, by omega⟩
  have hn0 : 3998 ≤ n := by omega
  have hn1 : n ≤ 4003 := by omega
  have hmk : ∀ w : World, (Instr.makeSlice 27 (.int .i64 n) (.int .i64 n)).run Try.prog w = .ok (.slice (some ⟨w.heap.size, 0, none⟩) n n) (w.alloc (.cells (Array.replicate n (Value.int .u8 0)) 5)) := fun w => mkBytes34 w n (by omega)
  clear p0 p1
  go_wp2_with (fail)
  have HO1 := Lib.hid (own_repl34 w w.heap.size n (by omega) (Nat.le_refl _))
  have HQ1 := Lib.hid ((Q.refl w).alloc (.cells (Array.replicate n (Value.int .u8 0)) 5))
  clear hmk
  have HN := Lib.hid hn
  clear hn
  generalize hB : w.heap.size = B at *
  have HB := Lib.hid hB
  clear hB
  go_loopw [7] (fun i wr => ∃ k : Nat, k ≤ n ∧ i = .int .i64 k ∧ wr.ownsRow B 5 1 (.slice (some ⟨B, 0, none⟩) n n) n (bV (halfW c n k)) ∧ Q w wr) (fun i _ => n - (intOf i).toNat)
  case atStart => exact ⟨0, by omega, rfl, by rw [halfW_0]; exact HO1.out, HQ1.out⟩
  case round =>
    obtain ⟨k, hk, rfl, hown, hq⟩ := hrel
    have HO := Lib.hid hown
    have HQ := Lib.hid hq
    clear hown hq
    by_cases h1 : k < n
    · obtain ⟨c0, f0⟩ := own_cell HO.out k _ (halfW_at c n k h1)
      have HO2 := Lib.hid (own_set HO.out k (.int .u8 c))
      have HE := Lib.hid (show (bV (halfW c n k)).set k (.int .u8 c) = bV (halfW c n (k + 1)) by unfold bV; rw [← List.map_set, halfW_set c n k h1])
      have HQ2 := Lib.hid (HQ.out.setCell (p := ⟨B, k, none⟩) (by rw [HB.out]; exact Nat.le_refl _) (.int .u8 c))
      have hbl := (own_pos HO.out _ rfl).2.1
      rw [HE.out] at HO2
      go_wp2
      go_roundw
      case rel => exact ⟨k + 1, by omega, by go_num, HO2.out, HQ2.out⟩
      case measure => simp [intOf]; omega
    · have e1 : k = n := by omega
      subst e1
      have HS := Lib.hid (Sl.of_own HO.out)
      have HL := Lib.hid (halfW_len c k k (Nat.le_refl _))
      have HY := Lib.hid (halfW_bys c k k G1.out)
      have HP := Lib.hid (own_pos HO.out _ rfl).2.1
      clear HO HO1
      generalize halfW c k k = xs at *
      have h1' : ¬ (k : Int) < (k : Int) := by omega
      go_wp2_with (fail)
      refine (jOpen_any none 0 0 [] wr (sl_nil wr) bys_nil (by omega) (fun y hy => by cases hy)).mono ?_
      rintro e w1 ⟨hq, ⟨_, LB, col, rfl, hL, hc⟩ | ⟨hx, _⟩⟩
      case inr => exact absurd rfl hx
      have HQ1 := Lib.hid (HQ.out.trans hq)
      have HS1 := Lib.hid (HS.out.q hq)
      have HL1 := Lib.hid hL
      have HC0 := Lib.hid hc
      have HC1 := Lib.hid (show ∀ b, col b ≠ 0 → w.heap.size ≤ b from fun b hb => Nat.le_trans HQ.out.size (hc b hb))
      clear hq hL hc
      go_wp2_with (fail)
      refine (jAppend_any LB col [] (some ⟨B, 0, none⟩) k k xs w1 HL1.out HS1.out HY.out (by omega) (by show (0 : Nat) ≤ 4999; omega)).mono ?_
      have HW := Lib.hid (show B < w1.heap.size from (HS1.out.pos (by omega)).elim fun g h => h.elim fun o h => by cases h.1; exact h.2.1)
      rintro e w2 (⟨hx, rfl, rfl⟩ | ⟨hx, rfl, hd⟩)
      · go_wp2_with (fail)
        refine (rFrame_any (some ⟨B, 0, none⟩) k k xs w2 HS1.out HY.out (by omega)).mono ?_
        rintro e w3 ⟨b3, cp3, rfl, hown3, hq3⟩
        have HQ3 := Lib.hid (HQ1.out.trans hq3)
        have HL3 := Lib.hid (HL1.out.q hq3)
        have HS3 := Lib.hid (Sl.of_own hown3)
        have HP3 := Lib.hid (own_pos hown3)
        have hfl := frameZ_le xs
        have hfp := frameZ_pos xs
        rw [HL.out] at hfl
        clear hown3 hq3
        go_wp2_with (fail)
        refine (jOpen_any b3 _ cp3 (frameZ xs) w3 HS3.out (frameZ_bys HY.out (by rw [HL.out]; omega)) (by omega) (fun y hy => (HP3.out y hy).2.1)).mono ?_
        have hop : openZ (frameZ xs).length (frameZ xs) [] = ([], 8) := by
          have h := stepZ_limit xs (by rw [HL.out]; exact hx) (by rw [HL.out]; omega) []
          rw [List.append_nil] at h
          obtain ⟨f, hf⟩ : ∃ f, (frameZ xs).length = f + 1 := ⟨(frameZ xs).length - 1, by omega⟩
          rw [hf, openZ_bad (fun e => by rw [e] at hfp; simp at hfp) h (by decide), if_neg (by decide)]
        rw [hop]
        rintro e w4 ⟨hq4, ⟨h0, _⟩ | ⟨_, rfl⟩⟩
        · exact absurd h0 (by decide)
        have HQ4 := Lib.hid (HQ3.out.trans hq4)
        have HL4 := Lib.hid (HL3.out.q hq4)
        clear hq4 hop hfl hfp
        have hxi : (4000 : Int) < (k : Int) := by omega
        go_wp2_with (fail)
        refine (jBytes_any LB col [] w4 HL4.out (by show (0 : Nat) ≤ 90000; omega)).mono ?_
        rintro e w5 ⟨b5, cp5, rfl, _, hq5⟩
        have HQ5 := Lib.hid (HQ4.out.trans hq5)
        have hz0 : (bytesL []).length = 0 := rfl
        rw [hz0]
        clear hq5
        go_wp2_with (fail)
        refine (lives34_any w5).mono ?_
        rintro e w6 ⟨rfl, hq6⟩
        have HQ6 := Lib.hid (HQ5.out.trans hq6)
        clear hq6
        go_wp2
        go_ret
        exact ⟨rfl, HQ6.out⟩
      · obtain ⟨hq2, col2, hL2, hc2⟩ := hd.got HQ1.out HC1.out
        have HS2 := Lib.hid (show Sl w2 1 (some ⟨B, 0, none⟩) k k (bV xs) from by
          obtain ⟨c', _, _, hF⟩ := hd
          exact HS1.out.qf hF (fun y hy e => by cases hy; have h5 := HC0.out _ e; have := HP.out; simp only [] at h5 this; omega))
        have HQ2 := Lib.hid hq2
        have HL2 := Lib.hid (show LogAt w2 LB col2 [xs] from hL2)
        have HOK := Lib.hid (show OkRs [xs] from fun x hx => by rw [List.mem_singleton.1 hx]; exact ⟨by rw [HL.out]; omega, HY.out⟩)
        have HO4 := Lib.hid (show Ok4 [xs] from fun x hx => by rw [List.mem_singleton.1 hx, HL.out]; omega)
        have HFL := Lib.hid (show (frameZ xs).length = k + 10 by rw [frameZ_len, varZ_len, HL.out, if_neg (by omega)]; omega)
        clear hd hq2 hL2 hc2
        go_wp2_with (fail)
        refine (rFrame_any (some ⟨B, 0, none⟩) k k xs w2 HS2.out HY.out (by omega)).mono ?_
        rintro e w3 ⟨b3, cp3, rfl, hown3, hq3⟩
        have HQ3 := Lib.hid (HQ2.out.trans hq3)
        have HL3 := Lib.hid (HL2.out.q hq3)
        have HS3 := Lib.hid (Sl.of_own hown3)
        have HP3 := Lib.hid (own_pos hown3)
        clear hown3 hq3
        go_wp2_with (fail)
        refine (jOpen_any b3 _ cp3 (frameZ xs) w3 HS3.out (frameZ_bys HY.out (by rw [HL.out]; omega)) (by rw [HFL.out]; omega) (fun y hy => (HP3.out y hy).2.1)).mono ?_
        have hop := openZ_all [xs] HO4.out HOK.out
        rw [bytesL_one] at hop
        rw [hop]
        rintro e w4 ⟨hq4, ⟨_, L4, col4, rfl, hL4, _⟩ | ⟨hx, _⟩⟩
        case inr => exact absurd rfl hx
        have HQ4 := Lib.hid (HQ3.out.trans hq4)
        have HL4 := Lib.hid (HL3.out.q hq4)
        clear hq4 hop hL4
        have hxi : ¬ (4000 : Int) < (k : Int) := by omega
        go_wp2_with (fail)
        refine (jBytes_any LB col2 [xs] w4 HL4.out (by rw [bytesL_one, HFL.out]; omega)).mono ?_
        rintro e w5 ⟨b5, cp5, rfl, _, hq5⟩
        have HQ5 := Lib.hid (HQ4.out.trans hq5)
        rw [bytesL_one, HFL.out]
        have hbq : ((k : Int) + 10 == (k : Int) + 10) = true := by simp
        clear hq5
        go_wp2_with (fail)
        refine (lives34_any w5).mono ?_
        rintro e w6 ⟨rfl, hq6⟩
        have HQ6 := Lib.hid (HQ5.out.trans hq6)
        clear hq6
        go_wp2
        go_ret
        exact ⟨rfl, HQ6.out⟩
end Go.Proofs.Ytfkbdiheccnohaa
