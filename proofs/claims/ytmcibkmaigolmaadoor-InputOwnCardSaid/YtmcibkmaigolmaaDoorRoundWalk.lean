/- The walk of InputRound. -/
import Derived.Test.YtmcibkmaigolmaaDoorRowsWalk
namespace Go.Proofs.YtmcibkmaigolmaaDoor
open Go Go.RowKit Go.BigFrame

theorem Sl.take {w : World} {a : Option Addr} {n cap : Nat} {f : Int → Value} {zs : List Int} (h : Sl w 1 a n cap (zs.map f)) (m : Nat) (hm : m ≤ n) : Sl w 1 a m cap ((zs.take m).map f) := by
  obtain ⟨h1, h2, h3, h4, h5⟩ := h
  have hl : zs.length = n := by simpa using h1
  refine ⟨by rw [List.length_map, List.length_take, hl]; omega, by omega, h3, h4, ?_⟩
  rcases h5 with h5 | ⟨g, o, ha, hg, hc⟩
  · exact .inl (by omega)
  · refine .inr ⟨g, o, ha, hg, fun j u hu => hc j u ?_⟩
    rw [List.map_take, List.getElem?_take] at hu
    split at hu
    · exact hu
    · cases hu

theorem round_walk (a0 : Option Addr) (len0 cap0 : Nat) (z0 : List Int) (n : Int) (w : World) (hD : Dirs w)
    (w0 : IsRow .i64 w a0 len0 cap0 z0) (wn : (Lit.int .i64 n).wf = true) :
    Calls Tryd.prog 8 #[.slice a0 len0 cap0, .int .i64 n] w fun e w' => e = .returned (.bool true) ∧ Q w w' := by
  have s0 := Sl.of_row w0
  have r0 := row_i64 w0
  have gn := wf_i64 wn
  clear w0 wn
  obtain ⟨i0, hi, hz0, hz1, hz2⟩ := info_parts infoIn
  obtain ⟨i1, hi', hz0', hz1', hz2'⟩ := info_parts infoU8
  generalize z0.take len0 = zl at *
  have hzl : (zl.map (Value.int .i64)).length = len0 * 1 := s0.1
  have hll : zl.length = len0 := by simpa using hzl
  have S0 := Lib.hid s0
  have R0 := Lib.hid r0
  have HD := Lib.hid hD
  have HI := Lib.hid hi
  have HI' := Lib.hid hi'
  have HLL := Lib.hid hll
  have a0' := aroundZ_lo n 36 (by omega)
  have a1' := aroundZ_hi n 36 (by omega)
  clear s0 r0 hD hi hi' hzl hll
  generalize hx : aroundZ n 36 = x at *
  have HX := Lib.hid hx
  clear hx
  go_enter Tryd.func8, Tryd.ntmps8
  go_wp2_with (fail)
  refine (inputs_any a0 len0 cap0 7 zl w S0.out R0.out (by omega)).mono ?_
  rintro e w1 ⟨a1, cap1, rfl, hown1, hq1⟩
  have hcl : (codesOf (zl.take 7)).length = min len0 7 := by rw [codesOf_len, List.length_take, HLL.out, Nat.min_comm]
  have hm7 : min len0 7 ≤ 7 := Nat.min_le_right _ _
  have hcc := codesOf_code (zl.take 7)
  have H1 := Lib.hid hown1
  have Q1 := Lib.hid hq1
  have HCL := Lib.hid hcl
  have HCC := Lib.hid hcc
  have HM := Lib.hid hm7
  clear hown1 hq1 hm7 hcl hcc
  generalize codesOf (zl.take 7) = cs at *
  generalize min len0 7 = m at *
  have hm7 := HM.out
  go_wp2_with (fail)
  refine (of_any _ _ gn).mono ?_
  rintro e w2 ⟨rfl, hq2⟩
  rw [HX.out]
  have H2 := Lib.hid (own_q H1.out hq2)
  have Q2 := Lib.hid (Q1.out.trans hq2)
  have B2 := Lib.hid Q2.out.size
  clear hq2 H1 Q1
  go_wp2_with (at_builtin; refine append_one rfl _ _ 40 rfl w.heap.size 23 i0 _ 3 24 Tryd.underlying40 HI.out hz0 hz1 hz2 rfl (by decide) _ m _ rfl H2.out 1 _ rfl (inC x) rfl rfl (by simp [inC, Value.oneCell']) (by omega) (by decide) B2.out ?_; intro g3 cap3 w3 hown3 hq3)
  have S3 := Lib.hid (show Sl w3 3 (some ⟨g3, 0, none⟩) (m + 1) cap3 (inCells (cs ++ [x])) by rw [inCells_snoc]; exact Sl.of_own hown3)
  have Q3 := Lib.hid (hq3 _ Q2.out (Nat.le_refl _))
  have hcc : ∀ c ∈ cs ++ [x], 0 ≤ c ∧ c < 36 := by
    intro c hc
    rcases List.mem_append.1 hc with h | h
    · exact HCC.out c h
    · rw [List.mem_singleton.1 h]; exact ⟨a0', a1'⟩
  have CC := Lib.hid hcc
  have HL := Lib.hid (show (cs ++ [x]).length = m + 1 by rw [List.length_append, HCL.out]; rfl)
  clear hown3 hq3 hcc H2 Q2 B2
  generalize cs ++ [x] = ds at *
  have DR := Lib.hid (show ∀ z ∈ ds, 0 ≤ z ∧ z ≤ 255 from fun z hz => ⟨(CC.out z hz).1, by have := (CC.out z hz).2; omega⟩)
  have hp : ¬(((m : Int) + 1) < 1 ∨ 8 < ((m : Int) + 1)) := by omega
  have P1 := Lib.hid (show parseE ds ((m : Int) + 1) = 0 from parseE_ok hp (by rw [HL.out]; omega) (fun z hz => by have := (CC.out z hz).2; omega))
  have P1' := Lib.hid (show parseL ds ((m : Int) + 1) = ds by unfold parseL; rw [if_pos P1.out])
  have P2 := Lib.hid (show parseE (ds.take m) ((m : Int) + 1) = 7 from parseE_short hp (by rw [List.length_take, HL.out]; omega))
  have P3 := Lib.hid (show parseE (ds ++ [0]) ((m : Int) + 1) = 8 from parseE_long hp (by rw [List.length_append, HL.out]; simp; omega))
  clear hp
  refine (iRow_any _ (m + 1) cap3 ds w3 S3.out CC.out (by omega)).mono ?_
  rintro e w4 ⟨a4, cap4, rfl, hown4, hq4⟩
  have s4 := Sl.of_own hown4
  have hc4 : m + 1 ≤ cap4 := s4.2.1
  obtain ⟨g4, o4, rfl, _⟩ := s4.pos (by omega)
  have S4 := Lib.hid s4
  clear s4
  have Q4 := Lib.hid (Q3.out.trans hq4)
  have S3' := Lib.hid (S3.out.q hq4)
  clear hown4 hq4
  go_wp2_with (fail)
  refine (iParse_any _ (m + 1) cap4 ds ((m : Int) + 1) w4 (HD.out.q Q4.out) S4.out DR.out (by omega)).mono ?_
  rintro e w5 ⟨a5, cap5, rfl, hown5, hq5⟩
  rw [P1.out]
  rw [P1'.out, HL.out] at hown5
  rw [P1'.out, HL.out]
  have S5 := Lib.hid (Sl.of_own hown5)
  have S4' := Lib.hid (S4.out.q hq5)
  have S3'' := Lib.hid (S3'.out.q hq5)
  have Q5 := Lib.hid (Q4.out.trans hq5)
  clear hown5 hq5
  have SS := Lib.hid (Sl.take S4'.out m (by omega))
  have hmax : (if 0 < m then (m : Int) else 0) = (m : Int) := by split <;> omega
  go_wp2_with (fail)
  refine (iParse_any _ m cap4 (ds.take m) ((m : Int) + 1) w5 (HD.out.q Q5.out) SS.out (fun z hz => DR.out z (List.mem_of_mem_take hz)) (by omega)).mono ?_
  rintro e w6 ⟨a6, cap6, rfl, hown6, hq6⟩
  rw [P2.out]
  have S5' := Lib.hid (S5.out.q hq6)
  have S4'' := Lib.hid (S4'.out.q hq6)
  have S3''' := Lib.hid (S3''.out.q hq6)
  have Q6 := Lib.hid (Q5.out.trans hq6)
  clear hown6 hq6 hmax
  go_wp2_with (fail)
  refine (few_any _ (m + 1) cap4 8 ds w6 S4''.out (by omega)).mono ?_
  rintro e w7 ⟨a7, cap7, rfl, hown7, hq7⟩
  have e1 : min (m + 1) 8 = m + 1 := by omega
  have e2 : ds.take 8 = ds := List.take_of_length_le (by rw [HL.out]; omega)
  rw [e1] at hown7 ⊢
  rw [e2] at hown7
  have H7 := Lib.hid hown7
  have Q67 := Lib.hid hq7
  have B6 := Lib.hid hq7.size
  clear hown7 hq7 e1 e2
  go_wp2_with (at_builtin; refine append_one rfl _ _ 37 rfl w6.heap.size 5 i1 _ 1 1 Tryd.underlying37 HI'.out hz0' hz1' hz2' rfl (by decide) _ (m + 1) _ rfl H7.out 1 _ rfl [.int .u8 0] rfl rfl (by simp [Value.oneCell']) (by omega) (by decide) B6.out ?_; intro g8 cap8 w8 hown8 hq8)
  have S8 := Lib.hid (show Sl w8 1 (some ⟨g8, 0, none⟩) (m + 1 + 1) cap8 ((ds ++ [0]).map (Value.int .u8)) by rw [List.map_append]; exact Sl.of_own hown8)
  have q68 := hq8 w6 Q67.out (Nat.le_refl _)
  have S5'' := Lib.hid (S5'.out.q q68)
  have S3'4 := Lib.hid (S3'''.out.q q68)
  have Q8 := Lib.hid (Q6.out.trans q68)
  clear hown8 hq8 q68
  have D2 := Lib.hid (show ∀ z ∈ ds ++ [0], 0 ≤ z ∧ z ≤ 255 from fun z hz => by
    rcases List.mem_append.1 hz with h | h
    · exact DR.out z h
    · rw [List.mem_singleton.1 h]; omega)
  refine (iParse_any _ (m + 1 + 1) cap8 (ds ++ [0]) ((m : Int) + 1) w8 (HD.out.q Q8.out) S8.out D2.out (by omega)).mono ?_
  rintro e w9 ⟨a9, cap9, rfl, hown9, hq9⟩
  rw [P3.out]
  have S5''' := Lib.hid (S5''.out.q hq9)
  have S3'5 := Lib.hid (S3'4.out.q hq9)
  have Q9 := Lib.hid (Q8.out.trans hq9)
  clear hown9 hq9
  have heq := eqB_refl ds
  go_wp2_with (fail)
  refine (equal_any _ a5 (m + 1) (m + 1) cap3 cap5 ds ds w9 S3'5.out S5'''.out CC.out CC.out).mono ?_
  rintro e w10 ⟨rfl, hq10⟩
  have Q10 := Lib.hid (Q9.out.trans hq10)
  clear hq10
  go_wp2_with (fail)
  refine (lives_any w10).mono ?_
  rintro e w11 ⟨rfl, hq11⟩
  have Q11 := Lib.hid (Q10.out.trans hq11)
  clear hq11
  go_wp2
  go_ret
  exact ⟨rfl, Q11.out⟩
end Go.Proofs.YtmcibkmaigolmaaDoor
