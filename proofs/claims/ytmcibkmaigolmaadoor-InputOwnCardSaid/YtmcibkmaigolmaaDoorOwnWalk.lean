/- The walk of InputOwn. -/
import Derived.Test.YtmcibkmaigolmaaDoorRoundWalk
namespace Go.Proofs.YtmcibkmaigolmaaDoor
open Go Go.RowKit Go.BigFrame

/-- cells 0 .. n-1 of block g are there and may be written -/
def There (w : World) (g n : Nat) : Prop := ∀ i : Nat, i < n → (∃ v, w.cell? ⟨g, i, none⟩ = some v) ∧ w.frozen? ⟨g, i, none⟩ = false
theorem inCells_one (cs : List Int) : ∀ u ∈ inCells cs, u.oneCell' = true := by
  intro u hu
  simp only [inCells, List.mem_flatMap] at hu
  obtain ⟨c, _, hu⟩ := hu
  simp only [inC, List.mem_cons, List.not_mem_nil, or_false] at hu
  rcases hu with rfl | rfl | rfl <;> rfl
theorem own_addr {w : World} {base : Nat} {E : TypeId} {size g o n cap : Nat} {cs : List Value} (h : w.ownsRow base E size (.slice (some ⟨g, o, none⟩) n cap) n cs) (_hn : 0 < n) : o = 0 ∧ base ≤ g := by
  rcases h.2 with ⟨he, _⟩ | ⟨g', c, cur, he, hb, _⟩
  · cases he
  · cases he; exact ⟨rfl, hb⟩
theorem There.of_own {w : World} {base : Nat} {E : TypeId} {size g n cap : Nat} {cs : List Value} (h : w.ownsRow base E size (.slice (some ⟨g, 0, none⟩) n cap) n cs) : There w g (n * size) := by
  obtain ⟨h1, h2⟩ := h
  rcases h2 with ⟨he, _⟩ | ⟨g', c, cur, he, hb, hg, hn, hm, hs, ht⟩
  · cases he
  · cases he
    intro i hi
    have hlt : i < cur.size := by rw [hs]; exact Nat.lt_of_lt_of_le hi (Nat.mul_le_mul_right _ hn)
    refine ⟨⟨cur[i], ?_⟩, ?_⟩
    · rw [cell_of_row w g i cur E (0, 0) hg]; simp [hlt]
    · simp [World.frozen?, hg]
theorem There.setCell {w : World} {g n : Nat} (h : There w g n) (p : Addr) (u : Value) : There (w.setCell p u) g n := by
  intro i hi
  obtain ⟨⟨v, hv⟩, hf⟩ := h i hi
  obtain ⟨v', hv'⟩ := cell?_setCell_some (w := w) (p := p) (x := u) (q := ⟨g, i, none⟩) (v := v) hv
  exact ⟨⟨v', hv'⟩, by rw [World.frozen?_setCell]; exact hf⟩
theorem There.q {w w' : World} {g n : Nat} (h : There w g n) (q : Q w w') : There w' g n := by
  intro i hi
  obtain ⟨⟨v, hv⟩, hf⟩ := h i hi
  have hl := World.block_lt_of_cell? _ _ hv
  exact ⟨⟨v, (q.cells.1 _ _ hl).trans hv⟩, (q.cells.2 _ _ hl).trans hf⟩

theorem own_walk (a0 : Option Addr) (len0 cap0 : Nat) (z0 : List Int) (n : Int) (w : World) (hD : Dirs w)
    (w0 : IsRow .i64 w a0 len0 cap0 z0) (wn : (Lit.int .i64 n).wf = true) :
    Calls Tryd.prog 9 #[.slice a0 len0 cap0, .int .i64 n] w fun e w' => e = .returned (.bool true) ∧ Q w w' := by
  have s0 := Sl.of_row w0
  have r0 := row_i64 w0
  have gn := wf_i64 wn
  clear w0 wn
  obtain ⟨i0, hi, hz0, hz1, hz2⟩ := info_parts infoIn
  obtain ⟨i1, hi', hz0', hz1', hz2'⟩ := info_parts infoU8
  generalize z0.take len0 = zl at *
  have hzl : (zl.map (Value.int .i64)).length = len0 * 1 := s0.1
  have hll : zl.length = len0 := by simpa using hzl
  have S0 := Lib.hid s0
  have R0 := Lib.hid r0
  have HD := Lib.hid hD
  have HI := Lib.hid hi
  have HI' := Lib.hid hi'
  have HLL := Lib.hid hll
  have a0' := aroundZ_lo n 36 (by omega)
  have a1' := aroundZ_hi n 36 (by omega)
  clear s0 r0 hD hi hi' hzl hll
  generalize hx : aroundZ n 36 = x at *
  have HX := Lib.hid hx
  clear hx
  go_enter Tryd.func9, Tryd.ntmps9
  go_wp2_with (fail)
  refine (inputs_any a0 len0 cap0 7 zl w S0.out R0.out (by omega)).mono ?_
  rintro e w1 ⟨a1, cap1, rfl, hown1, hq1⟩
  have hcl : (codesOf (zl.take 7)).length = min len0 7 := by rw [codesOf_len, List.length_take, HLL.out, Nat.min_comm]
  have hm7 : min len0 7 ≤ 7 := Nat.min_le_right _ _
  have hcc := codesOf_code (zl.take 7)
  have H1 := Lib.hid hown1
  have Q1 := Lib.hid hq1
  have HCL := Lib.hid hcl
  have HCC := Lib.hid hcc
  have HM := Lib.hid hm7
  clear hown1 hq1 hm7 hcl hcc
  generalize codesOf (zl.take 7) = cs at *
  generalize min len0 7 = m at *
  have hm7 := HM.out
  go_wp2_with (fail)
  refine (of_any _ _ gn).mono ?_
  rintro e w2 ⟨rfl, hq2⟩
  rw [HX.out]
  have H2 := Lib.hid (own_q H1.out hq2)
  have Q2 := Lib.hid (Q1.out.trans hq2)
  have B2 := Lib.hid Q2.out.size
  clear hq2 H1 Q1
  go_wp2_with (at_builtin; refine stopAt ?_)
  refine goOn ?_
  refine append_one rfl _ _ 40 rfl w.heap.size 23 i0 _ 3 24 Tryd.underlying40 HI.out hz0 hz1 hz2 rfl (by decide) _ m _ rfl H2.out 1 _ rfl (inC x) rfl rfl (by simp [inC, Value.oneCell']) (by omega) (by decide) B2.out ?_
  intro g3 cap3 w3 hown3 hq3
  have S3 := Lib.hid (show Sl w3 3 (some ⟨g3, 0, none⟩) (m + 1) cap3 (inCells (cs ++ [x])) by rw [inCells_snoc]; exact Sl.of_own hown3)
  have Q3 := Lib.hid (hq3 _ Q2.out (Nat.le_refl _))
  have hcc : ∀ c ∈ cs ++ [x], 0 ≤ c ∧ c < 36 := by
    intro c hc
    rcases List.mem_append.1 hc with h | h
    · exact HCC.out c h
    · rw [List.mem_singleton.1 h]; exact ⟨a0', a1'⟩
  have CC := Lib.hid hcc
  have HL := Lib.hid (show (cs ++ [x]).length = m + 1 by rw [List.length_append, HCL.out]; rfl)
  clear hown3 hq3 hcc H2 Q2 B2
  generalize cs ++ [x] = ds at *
  go_wp2_with (at_builtin; refine stopAt ?_)
  refine goOn ?_
  have hS3 := S3.out
  have hcap3 : m + 1 ≤ cap3 := hS3.2.1
  have hcl3 : (inCells ds).length = (m + 1) * 3 := hS3.1
  have hn3 : ∀ j u, (inCells ds)[j]? = some u → w3.cell? ((⟨g3, 0, none⟩ : Addr).add j) = some u := by
    obtain ⟨g, o, he, _, hc⟩ := hS3.pos (by omega)
    cases he
    intro j u hu
    rw [Addr.add_lit]
    exact hc j u hu
  have S3a := Lib.hid (hS3.q ((Q.refl w3).alloc (.cells #[] 23)))
  refine wpList_append_lies _ rfl _ _ 40 rfl w3.heap.size 23 i0 _ 3 24 Tryd.underlying40 HI.out hz0 hz1 hz2 rfl (by decide) _ 0 [] rfl (World.ownsRow_made w3 #[] 0 (Nat.le_refl _) (by decide) rfl) ⟨g3, 0, none⟩ (m + 1) cap3 (inCells ds) rfl hcl3 (fun j u hu => (World.cell?_alloc_lt _ _ _ (World.block_lt_of_cell? _ _ (hn3 j u hu))).trans (hn3 j u hu)) (inCells_one _) (by omega) (by unfold maxLen; omega) (by omega) (by simp) _ rfl ?_
  intro g4 cap4 w4 hown4 hgrow4 hat4 hlt4
  have q34 : Q w3 w4 := ((Q.refl w3).alloc _).grown hgrow4 (fun k hk => by simp [Value.ownBlock, Act.eval] at hk; omega)
  rw [Nat.zero_add, List.nil_append] at hown4
  rw [Nat.zero_add]
  have S4 := Lib.hid (Sl.of_own hown4)
  have S3b := Lib.hid (S3.out.q q34)
  have Q4 := Lib.hid (Q3.out.trans q34)
  clear hown4 hgrow4 hat4 hlt4 q34 hS3 hcap3 hcl3 hn3
  have DR := Lib.hid (show ∀ z ∈ ds, 0 ≤ z ∧ z ≤ 255 from fun z hz => ⟨(CC.out z hz).1, by have := (CC.out z hz).2; omega⟩)
  have hp : ¬(((m : Int) + 1) < 1 ∨ 8 < ((m : Int) + 1)) := by omega
  have P1 := Lib.hid (show parseE ds ((m : Int) + 1) = 0 from parseE_ok hp (by rw [HL.out]; omega) (fun z hz => by have := (CC.out z hz).2; omega))
  have P1' := Lib.hid (show parseL ds ((m : Int) + 1) = ds by unfold parseL; rw [if_pos P1.out])
  clear hp
  go_wp2_with (fail)
  refine (iRow_any _ (m + 1) cap4 ds w4 S4.out CC.out (by omega)).mono ?_
  rintro e w5 ⟨a5, cap5, rfl, hown5, hq5⟩
  have s5 := Sl.of_own hown5
  obtain ⟨g5, o5, rfl, hg5, _⟩ := s5.pos (by omega)
  obtain ⟨rfl, hb5⟩ := own_addr hown5 (by omega)
  have T5 := Lib.hid (There.of_own hown5)
  have S5 := Lib.hid s5
  have B5 := Lib.hid hb5
  have Q45 := Lib.hid hq5
  clear s5 hown5 hq5 hg5 hb5
  go_wp2_with (fail)
  refine (iParse_any _ (m + 1) cap5 ds ((m : Int) + 1) w5 (HD.out.q (Q4.out.trans Q45.out)) S5.out DR.out (by omega)).mono ?_
  rintro e w6 ⟨a6, cap6, rfl, hown6, hq6⟩
  rw [P1.out]
  rw [P1'.out, HL.out] at hown6
  rw [P1'.out, HL.out]
  have s6 := Sl.of_own hown6
  obtain ⟨g6, o6, rfl, hg6, _⟩ := s6.pos (by omega)
  obtain ⟨rfl, hb6⟩ := own_addr hown6 (by omega)
  have T6 := Lib.hid (There.of_own hown6)
  have T5' := Lib.hid (T5.out.q hq6)
  have B6 := Lib.hid (Nat.le_trans Q45.out.size hb6)
  have Q46 := Lib.hid (Q45.out.trans hq6)
  clear s6 hown6 hq6 hg6 hb6 S5 T5 Q45
  go_wp2_with (fail)
  go_loopw [10] (fun i wr => ∃ k : Nat, k ≤ m + 1 ∧ i = .int .i64 k ∧ Q w4 wr ∧ There wr g5 ((m + 1) * 1) ∧ There wr g6 ((m + 1) * 3)) (fun i _ => m + 1 - (intOf i).toNat)
  case atStart => exact ⟨0, by omega, rfl, Q46.out, T5'.out, T6.out⟩
  case round =>
    obtain ⟨k, hk, rfl, hq, ht5, ht6⟩ := hrel
    have HT5 := Lib.hid ht5
    have HT6 := Lib.hid ht6
    have HQ := Lib.hid hq
    clear ht5 ht6 hq
    by_cases hkl : k < m + 1
    · obtain ⟨⟨v, hv⟩, hf⟩ := HT5.out k (by omega)
      have hlt : (k : Int) < (m : Int) + 1 := by omega
      go_wp2
      go_roundw
      case rel => exact ⟨k + 1, by omega, by go_num, HQ.out.setCell (by exact B5.out) _, HT5.out.setCell _ _, HT6.out.setCell _ _⟩
      case measure => simp [intOf]; omega
    · have hge : ¬ (k : Int) < (m : Int) + 1 := by omega
      go_wp2_with (fail)
      clear hkl hge
      go_loopw [11] (fun i wr2 => ∃ k : Nat, k ≤ m + 1 ∧ i = .int .i64 k ∧ Q w4 wr2 ∧ There wr2 g6 ((m + 1) * 3)) (fun i _ => m + 1 - (intOf i).toNat)
      case atStart => exact ⟨0, by omega, rfl, HQ.out, HT6.out⟩
      case round =>
        obtain ⟨k2, hk2, rfl, hq, ht6⟩ := hrel
        have HT7 := Lib.hid ht6
        have HQ7 := Lib.hid hq
        clear ht6 hq
        by_cases hkl : k2 < m + 1
        · obtain ⟨⟨v, hv⟩, hf⟩ := HT7.out (k2 * 3) (by omega)
          have hlt : (k2 : Int) < (m : Int) + 1 := by omega
          go_wp2
          go_roundw
          case rel => exact ⟨k2 + 1, by omega, by go_num, HQ7.out.setCell (by exact B6.out) _, HT7.out.setCell _ _⟩
          case measure => simp [intOf]; omega
        · have hge : ¬ (k2 : Int) < (m : Int) + 1 := by omega
          go_wp2_with (fail)
          have HQ8 := Lib.hid (HQ7.out.drew)
          refine wp_region_mix [(0, true), (1, true), (2, false), (3, true), (4, true), (7, true), (5, false), (6, true), (8, false), (9, true), (10, true), (11, true), (12, true), (13, false), (14, true), (15, true)] (by kernel_rfl) (by kernel_rfl) (fun _ _ _ _ _ h => h) ?_
          generalize wr.drew = W1 at *
          have S4' := Lib.hid (S4.out.q HQ8.out)
          have S3c := Lib.hid (S3b.out.q HQ8.out)
          have heq := eqB_refl ds
          repeat (refine mix_val rfl rfl ?_; go_big_quiet_step (fail); refine wpQuiet_nil ?_)
          refine mix_run rfl rfl ?_
          intro K hK
          go_wp2_with (fail)
          refine (equal_any _ _ (m + 1) (m + 1) cap4 cap3 ds ds W1 S4'.out S3c.out CC.out CC.out).mono ?_
          rintro e w7 ⟨rfl, hq7⟩
          refine hK _ _ hq7 ?_
          clear hK K
          have HQ9 := Lib.hid (HQ8.out.trans hq7)
          have S4'' := Lib.hid (S4'.out.q hq7)
          have S3d := Lib.hid (S3c.out.q hq7)
          clear hq7
          rw [heq]
          repeat (refine mix_val rfl rfl ?_; go_big_quiet_step (fail); refine wpQuiet_nil ?_)
          refine mix_run rfl rfl ?_
          intro K hK
          go_wp2_with (fail)
          refine (iRow_any _ (m + 1) cap4 ds w7 S4''.out CC.out (by omega)).mono ?_
          rintro e w8 ⟨b1, c1, rfl, hown8, hq8⟩
          refine hK _ _ hq8 ?_
          clear hK K
          have T1 := toStr_soft (Sl.of_own hown8)
          have S3e := Lib.hid (S3d.out.q hq8)
          have HQ10 := Lib.hid (HQ9.out.trans hq8)
          clear hown8 hq8
          repeat (refine mix_val rfl rfl ?_; go_big_quiet_step (fail); refine wpQuiet_nil ?_)
          refine mix_run rfl rfl ?_
          intro K hK
          go_wp2_with (fail)
          refine (rRow_any _ (m + 1) cap3 ds w8 S3e.out CC.out (by omega)).mono ?_
          rintro e w9 ⟨b2, c2, rfl, hown9, hq9⟩
          refine hK _ _ hq9 ?_
          clear hK K
          have T2 := toStr_soft (Sl.of_own hown9)
          have HQ11 := Lib.hid (HQ10.out.trans hq9)
          clear hown9 hq9 T1
          repeat (refine mix_val rfl rfl ?_; go_big_quiet_step (fail); refine wpQuiet_nil ?_)
          refine mix_run rfl rfl ?_
          intro K hK
          go_wp2_with (fail)
          refine (lives_any w9).mono ?_
          rintro e w10 ⟨rfl, hq10⟩
          refine hK _ _ hq10 ?_
          clear hK K
          have HQ12 := Lib.hid (Q4.out.trans (HQ11.out.trans hq10))
          clear hq10 T2
          repeat (refine mix_val rfl rfl ?_; go_big_quiet_step (fail); refine wpQuiet_nil ?_)
          refine mix_end ?_
          go_wp2
          go_ret
          exact ⟨rfl, HQ12.out⟩
end Go.Proofs.YtmcibkmaigolmaaDoor
