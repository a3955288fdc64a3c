/- The walk of MerkleSets. -/
import Derived.Test.YtcgnihgebifcjaaMkM
import Derived.Deep.DeepCutAuto
namespace Go.Proofs.Ytcgnihgebifcjaa
open Go Go.RowKit Go.BigFrame

theorem own_sF {w : World} {F : Nat → Prop} {base : Nat} {E : TypeId} {g n cap : Nat} {cs : List Value} (h : w.ownsRow base E 1 (.slice (some ⟨g, 0, none⟩) n cap) n cs) (hF : ¬ F g) (k : Nat) (v : Value) (hv : cs[k]? = some v) :
    ∀ y : AfterF F w, y.w.cell? ⟨g, k, none⟩ = some v := fun y => (own_cell (own_qf h y.q (fun b hb => by cases hb; exact hF)) k v hv).1
set_option maxRecDepth 100000 in
set_option maxHeartbeats 4000000 in
theorem merkleSets_walk (a0 : Option Addr) (len0 cap0 : Nat) (z0 : List Int) (a1 : Option Addr) (len1 cap1 : Nat) (z1 : List Int) (a2 : Option Addr) (len2 cap2 : Nat) (z2 : List Int) (w : World)
    (w0 : IsRow .i64 w a0 len0 cap0 z0) (w1 : IsRow .i64 w a1 len1 cap1 z1) (w2 : IsRow .i64 w a2 len2 cap2 z2) :
    Calls Try.prog 7 #[.slice a0 len0 cap0, .slice a1 len1 cap1, .slice a2 len2 cap2] w fun e w' => e = .returned (.bool true) ∧ Q w w' := by
  obtain ⟨i0, hinf, hz0, hz1, hz2⟩ := info_parts infoInt
  have HINF := Lib.hid hinf
  have S0 := Lib.hid (Sl.of_row w0)
  have R0 := Lib.hid (rowI64m w0)
  have S1 := Lib.hid (Sl.of_row w1)
  have R1 := Lib.hid (rowI64m w1)
  have S2 := Lib.hid (Sl.of_row w2)
  have R2 := Lib.hid (rowI64m w2)
  clear w0 w1 w2 hinf
  generalize z0.take len0 = zl at *
  generalize z1.take len1 = al at *
  generalize z2.take len2 = bl at *
  have LA := Lib.hid (show al.length = len1 by have := S1.out.1; simpa using this)
  have LB := Lib.hid (show bl.length = len2 by have := S2.out.1; simpa using this)
  have HM : min len0 20 ≤ 20 := Nat.min_le_right _ _
  have RC := Lib.hid (show I64s (zl.take 20) from fun z hz => R0.out z (List.mem_of_mem_take hz))
  go_enter Try.func7, Try.ntmps7
  go_wp2_with (fail)
  refine (rCells_any a0 len0 cap0 zl w S0.out).mono ?_
  rintro e w1 ⟨ac, cc, rfl, hown1, hq1⟩
  have Q1 := Lib.hid hq1
  have SC := Lib.hid (Sl.of_own hown1)
  have S1w := Lib.hid (S1.out.q hq1)
  have S2w := Lib.hid (S2.out.q hq1)
  clear hown1 hq1 S0 R0 S1 S2
  generalize zl.take 20 = cs at *
  generalize min len0 20 = n at *
  have HL := Lib.hid (show cs.length = n by have := SC.out.1; simpa using this)
  have hncc := SC.out.2.1
  go_wp2_with (fail)
  refine (mTree_any ac n cc cs w1 SC.out RC.out (by omega)).mono ?_
  rintro e w2 ⟨hq2, TB, col, rfl, hT, hcol⟩
  have Q2 := Lib.hid hq2
  have SC2 := Lib.hid (SC.out.q hq2)
  have T2 := Lib.hid hT
  have HC0 := Lib.hid (show ∀ b, w2.heap.size ≤ b → col b = 0 from hT.new0)
  have HCOL := Lib.hid (show ∀ b, col b ≠ 0 → w1.heap.size ≤ b from hcol)
  clear hq2 hT hcol
  go_wp2_with (at_builtin; refine stopAt ?_)
  refine goOn ?_
  refine wpList_append_sl rfl _ _ 26 rfl w2.heap.size 3 i0 _ 1 8 Try.underlying26 HINF.out hz0 hz1 hz2 rfl (by decide) _ 0 [] rfl (World.ownsRow_made w2 #[] 0 (Nat.le_refl _) (by decide) rfl) ac n cc _ rfl (SC2.out.q ((Q.refl w2).alloc _)) (oneCell_map _ _) (by omega) (by decide) (by simp) ?_
  intro na nc w3 hown3 hg3 _
  rw [Nat.zero_add] at hown3 ⊢
  have Q23 := Lib.hid (((Q.refl w2).alloc (.cells #[] 3)).grown hg3 (fun k hk => by cases hk; exact Nat.le_refl _))
  have SW := Lib.hid (show SetsW w3 w2.heap.size TB col n cs cs [] [] (.slice none 0 0) (.slice none 0 0) (.slice na n nc) from
    ⟨T2.out.q Q23.out, hown3, World.ownsRow_nil _ _ _ _, World.ownsRow_nil _ _ _ _, (fun k h => by cases h), (fun k h => by cases h), (fun k h => by cases h), Q23.out.size, HC0.out⟩)
  have Q3 := Lib.hid (Q2.out.trans Q23.out)
  have HB0 := Lib.hid (show w1.heap.size ≤ w2.heap.size from Q2.out.size)
  have HSS := Lib.hid (SetsS.start HL.out RC.out)
  clear hown3 hg3 Q23 Q2 SC2 T2
  generalize w2.heap.size = base at *
  go_wp2_with (fail)
  obtain ⟨m, hm⟩ : ∃ m : Nat, m = min (min len1 len2) 12 := ⟨_, rfl⟩
  have HMM := Lib.hid hm
  clear hm
  go_loopw [10, 11, 12] (fun pv ov iv wr => ∃ (i : Nat) (L : List (Nat × Int)) (cur : List Int), i ≤ m ∧ iv = .int .i64 i ∧ SetsS cs n i L cur ∧ SetsW wr base TB col n cur cur (L.map fun p => (p.1 : Int)) (L.map Prod.snd) pv ov (.slice na n nc) ∧ Q w1 wr) (fun _ _ iv _ => m - (intOf iv).toNat)
  case atStart => exact ⟨0, [], cs, by omega, rfl, HSS.out, SW.out, Q3.out⟩
  case round =>
    obtain ⟨i, L, cur, him, rfl, hs, hw, hq⟩ := hrel
    have HS := Lib.hid hs
    have HW := Lib.hid hw
    have HQ := Lib.hid hq
    clear hs hw hq SW Q3 HSS
    go_upto_region 9 with (fail)
    go_cut [37] (fun s37 wx => s37 = .bool (decide (i < m)) ∧ wx = wr)
    case first =>
      have hm := HMM.out
      by_cases h1 : i < len1
      · have h1' : (i : Int) < (len1 : Int) := by omega
        by_cases h2 : i < len2
        · have h2' : (i : Int) < (len2 : Int) := by omega
          by_cases h3 : i < 12
          · have h3' : (i : Int) < 12 := by omega
            have hd : i < m := by omega
            clear hm
            go_wp2_with (fail)
            go_meet
            exact ⟨by rw [decide_eq_true hd], rfl⟩
          · have h3' : ¬ (i : Int) < 12 := by omega
            have hd : ¬ i < m := by omega
            clear hm
            go_wp2_with (fail)
            go_meet
            exact ⟨by rw [decide_eq_false hd], rfl⟩
        · have h2' : ¬ (i : Int) < (len2 : Int) := by omega
          have hd : ¬ i < m := by omega
          clear hm
          go_wp2_with (fail)
          go_meet
          exact ⟨by rw [decide_eq_false hd], rfl⟩
      · have h1' : ¬ (i : Int) < (len1 : Int) := by omega
        have hd : ¬ i < m := by omega
        clear hm
        go_wp2_with (fail)
        go_meet
        exact ⟨by rw [decide_eq_false hd], rfl⟩
    case rest =>
      obtain ⟨rfl, rfl⟩ := hcut
      by_cases hi : i < m
      · have hd : decide (i < m) = true := by simpa using hi
        have hi1 : i < len1 := by have := HMM.out; omega
        have hi2 : i < len2 := by have := HMM.out; omega
        have hi12 : i < 12 := by have := HMM.out; omega
        obtain ⟨x, hx⟩ : ∃ x, al[i]? = some x := ⟨al[i]'(by rw [LA.out]; exact hi1), by rw [List.getElem?_eq_getElem]⟩
        obtain ⟨y, hy⟩ : ∃ y, bl[i]? = some y := ⟨bl[i]'(by rw [LB.out]; exact hi2), by rw [List.getElem?_eq_getElem]⟩
        have HX := Lib.hid (R1.out x (List.mem_of_getElem? hx))
        have HY := Lib.hid (R2.out y (List.mem_of_getElem? hy))
        obtain ⟨ga, oa, rfl, hga, hca⟩ := S1w.out.pos (by omega)
        obtain ⟨gb, ob, rfl, hgb, hcb⟩ := S2w.out.pos (by omega)
        have HCA := Lib.hid (show w1.cell? ⟨ga, oa + i, none⟩ = some (.int .i64 x) from hca i _ (by rw [List.getElem?_map, hx]; rfl))
        have HCB := Lib.hid (show w1.cell? ⟨gb, ob + i, none⟩ = some (.int .i64 y) from hcb i _ (by rw [List.getElem?_map, hy]; rfl))
        have HGA := Lib.hid hga
        have HGB := Lib.hid hgb
        clear hca hcb hx hy hga hgb
        have ca : wc.cell? ⟨ga, oa + i, none⟩ = some (.int .i64 x) := (HQ.out.cells.1 _ _ HGA.out).trans HCA.out
        have cb : wc.cell? ⟨gb, ob + i, none⟩ = some (.int .i64 y) := (HQ.out.cells.1 _ _ HGB.out).trans HCB.out
        go_wp2_with (fail)
        refine (around_any x (n + 2) _ HX.out (by omega)).mono ?_
        rintro e w4 ⟨rfl, rfl⟩
        have p0 := aroundZ_lo x ((n : Int) + 2) (by omega)
        have p1 := aroundZ_hi x ((n : Int) + 2) (by omega)
        generalize aroundZ x ((n : Int) + 2) = kk at *
        obtain ⟨z, rfl⟩ : ∃ z : Int, kk = z + 1 := ⟨kk - 1, by omega⟩
        by_cases hin : 0 ≤ z ∧ z < n
        · obtain ⟨k, rfl⟩ := Int.eq_ofNat_of_zero_le hin.1
          have hkn : k < n := by omega
          have hk0 : (0 : Int) ≤ (k : Int) := by omega
          have hkn' : (k : Int) < (n : Int) := by omega
          clear hin p0 p1
          go_wp2_with (fail)
          refine (mSet_any TB col cur k y _ HW.out.tree HY.out).mono ?_
          rintro e w5 hset
          have HQ5 := Lib.hid (hset.q HQ.out HCOL.out)
          have HW5 := Lib.hid (HW.out.set hset)
          obtain ⟨⟨x', rfl⟩, _, _⟩ := hset
          have HB5 := Lib.hid HW5.out.hb
          clear ca cb
          have hLs := HS.out.le
          obtain ⟨o, ho⟩ : ∃ o, cur[k]? = some o := ⟨cur[k]'(by rw [HS.out.len]; exact hkn), by rw [List.getElem?_eq_getElem]⟩
          have HSY := Lib.hid (HS.out.yes k o y ho HY.out)
          have HO := Lib.hid ho
          clear ho
          have HST := Lib.hid (show setZ cur k y = cur.set k y by unfold setZ; rw [if_pos ⟨by omega, by have := HS.out.len; omega⟩, Int.toNat_natCast])
          have HE1 := Lib.hid (show (L ++ [(k, o)]).map (fun p => (p.1 : Int)) = L.map (fun p => (p.1 : Int)) ++ [(k : Int)] by rw [List.map_append]; rfl)
          have HE2 := Lib.hid (show (L ++ [(k, o)]).map Prod.snd = L.map Prod.snd ++ [o] by rw [List.map_append]; rfl)
          have HP1 := Lib.hid (show (L.map fun p => (p.1 : Int)).length ≤ 100 by rw [List.length_map]; omega)
          have HP2 := Lib.hid (show (L.map Prod.snd).length ≤ 100 by rw [List.length_map]; omega)
          generalize (L.map fun p => (p.1 : Int)) = ps at *
          generalize L.map Prod.snd = os at *
          go_wp2_with (at_builtin; refine stopAt ?_)
          refine goOn ?_
          refine append_one_f rfl _ _ 26 rfl base 3 i0 _ 1 8 Try.underlying26 HINF.out hz0 hz1 hz2 rfl (by decide) _ _ _ rfl HW5.out.pl _ rfl [.int .i64 k] rfl rfl (by simp [Value.oneCell']) (by have := HP1.out; omega) (by decide) HB5.out ?_
          intro g6 cap6 w6 hown6 hqf6 hk6
          have HW6 := Lib.hid (HW5.out.addP hown6 hqf6 hk6)
          have HQ6 := Lib.hid (QF.q HQ5.out hqf6 (fun b hb => Nat.le_trans HB0.out (HW5.out.pl.lt b hb).1))
          clear hown6 hqf6 hk6 HB5 HW5 HQ5
          obtain ⟨gn, rfl, _, hgn⟩ := own_addr1 HW6.out.now (by omega)
          obtain ⟨n6, _⟩ := own_cell HW6.out.now k (.int .i64 o) (by rw [List.getElem?_map, HO.out]; rfl)
          have HB6 := Lib.hid HW6.out.hb
          go_wp2_with (at_builtin; refine stopAt ?_)
          refine goOn ?_
          refine append_one_f rfl _ _ 26 rfl base 3 i0 _ 1 8 Try.underlying26 HINF.out hz0 hz1 hz2 rfl (by decide) _ _ _ rfl HW6.out.ol _ rfl [.int .i64 o] rfl rfl (by simp [Value.oneCell']) (by have := HP2.out; omega) (by decide) HB6.out ?_
          intro g7 cap7 w7 hown7 hqf7 hk7
          have HW7 := Lib.hid (HW6.out.addO hown7 hqf7 hk7)
          have HQ7 := Lib.hid (QF.q HQ6.out hqf7 (fun b hb => Nat.le_trans HB0.out (HW6.out.ol.lt b hb).1))
          clear hown7 hqf7 hk7 HB6 HW6 HQ6 n6 hgn
          obtain ⟨n7, f7⟩ := own_cell HW7.out.now k (.int .i64 o) (by rw [List.getElem?_map, HO.out]; rfl)
          have cb : w7.cell? ⟨gb, ob + i, none⟩ = some (.int .i64 y) := (HQ7.out.cells.1 _ _ HGB.out).trans HCB.out
          have hgn := (HW7.out.now.lt gn rfl).2
          go_wp2_with (fail)
          go_roundw
          case rel =>
            refine ⟨i + 1, L ++ [(k, o)], cur.set k y, by omega, by go_num, HSY.out, ?_, QF.q HQ7.out (QF.set (F := fun b => b = gn) w7 gn k _ rfl) (fun b hb => by rw [hb]; exact Nat.le_trans HB0.out (HW7.out.now.lt gn rfl).1)⟩
            rw [HE1.out, HE2.out]
            have h8 := HW7.out.putN k y
            rw [HST.out] at h8
            exact h8
          case measure => simp [intOf]; omega
        · have HZ := Lib.hid (show setZ cur z y = cur by unfold setZ; rw [if_neg (by have := HS.out.len; omega)])
          have HSN := Lib.hid HS.out.no
          rcases (show z < 0 ∨ (0 ≤ z ∧ (n : Int) ≤ z) by omega) with hz | ⟨hz, hz'⟩
          · have hzz : ¬ (0 : Int) ≤ z := by omega
            go_wp2_with (fail)
            refine (mSet_any TB col cur z y _ HW.out.tree HY.out).mono ?_
            rintro e w5 hset
            have HQ5 := Lib.hid (hset.q HQ.out HCOL.out)
            have HW5 := HW.out.set hset
            rw [HZ.out] at HW5
            have HW5 := Lib.hid HW5
            obtain ⟨⟨x', rfl⟩, _, _⟩ := hset
            go_wp2_with (fail)
            go_roundw
            case rel => exact ⟨i + 1, L, cur, by omega, by go_num, HSN.out, HW5.out, HQ5.out⟩
            case measure => simp [intOf]; omega
          · have hzz : ¬ z < (n : Int) := by omega
            go_wp2_with (fail)
            refine (mSet_any TB col cur z y _ HW.out.tree HY.out).mono ?_
            rintro e w5 hset
            have HQ5 := Lib.hid (hset.q HQ.out HCOL.out)
            have HW5 := HW.out.set hset
            rw [HZ.out] at HW5
            have HW5 := Lib.hid HW5
            obtain ⟨⟨x', rfl⟩, _, _⟩ := hset
            go_wp2_with (fail)
            go_roundw
            case rel => exact ⟨i + 1, L, cur, by omega, by go_num, HSN.out, HW5.out, HQ5.out⟩
            case measure => simp [intOf]; omega
      · have hd : decide (i < m) = false := by simpa using hi
        obtain ⟨pa, pc, hpa⟩ := ret_shape HW.out.pl
        obtain ⟨oa, oc, hoa⟩ := ret_shape HW.out.ol
        rw [List.length_map] at hpa hoa
        subst hpa
        subst hoa
        have HN := Lib.hid (Sl.of_own HW.out.now)
        have HCL := Lib.hid HS.out.len
        have HOK := Lib.hid HS.out.ok
        have hLs := HS.out.le
        have hL12 : L.length ≤ 12 := by have := HMM.out; omega
        have HPL := Lib.hid (show (L.map fun p => (p.1 : Int)).length = L.length by rw [List.length_map])
        have HOL := Lib.hid (show (L.map Prod.snd).length = L.length by rw [List.length_map])
        have HUN := Lib.hid HS.out.und
        have HLT := Lib.hid HS.out.lt
        have HVS := Lib.hid HS.out.vals
        go_wp2_with (fail)
        refine (mTRoot_any TB col cur _ _ HW.out.tree).mono ?_
        rintro e w5 ⟨rfl, hq5⟩
        have HQ5 := Lib.hid (HQ.out.trans hq5)
        have HW5 := Lib.hid (HW.out.q hq5)
        have HN5 := Lib.hid (HN.out.q hq5)
        clear hq5
        go_wp2_with (fail)
        refine (rRoot_any na n nc cur _ HN5.out HOK.out (by omega)).mono ?_
        rintro e w6 ⟨rfl, hq6⟩
        have HQ6 := Lib.hid (HQ5.out.trans hq6)
        have HW6 := Lib.hid (HW5.out.q hq6)
        clear hq6 HQ5 HW5 HN5
        have HRE := Lib.hid (show nodeZ cur (hgt cur.length) 0 = rootZ cur from rfl)
        rw [HRE.out]
        generalize rootZ cur = rt at *
        have hne : (rt != rt) = false := by simp
        go_wp2_with (fail)
        clear hne
        go_loopw [14] (fun iv wr => ∃ (j : Nat) (c2 : List Int), j ≤ L.length ∧ iv = .int .i64 ((j : Int) - 1) ∧ c2.length = n ∧ undo (L.take j) c2 = cs ∧ SetsW wr base TB col n c2 cur (L.map fun p => (p.1 : Int)) (L.map Prod.snd) (.slice pa L.length pc) (.slice oa L.length oc) (.slice na n nc) ∧ Q w1 wr) (fun iv _ => (intOf iv + 1).toNat)
        case atStart => exact ⟨L.length, cur, Nat.le_refl _, rfl, HCL.out, by rw [List.take_length]; exact HUN.out, HW6.out, HQ6.out⟩
        case round =>
          obtain ⟨j, c2, hj, hiv, hc2, hun, hw2, hq2⟩ := hrel
          have HC2 := Lib.hid hc2
          have HU2 := Lib.hid hun
          have HW2 := Lib.hid hw2
          have HQ2 := Lib.hid hq2
          clear hc2 hun hw2 hq2 HW6 HQ6
          cases j with
          | zero =>
            obtain rfl := hiv
            have hm1 : ¬ (0 : Int) ≤ ((0 : Nat) : Int) - 1 := by omega
            have hcc : c2 = cs := by have h := HU2.out; simpa [undo] using h
            subst hcc
            have HT2 := Lib.hid HW2.out.tree
            go_wp2_with (fail)
            refine (mTRoot_any TB col c2 _ _ HT2.out).mono ?_
            rintro e w9 ⟨rfl, hq9⟩
            have HQ9 := Lib.hid (HQ2.out.trans hq9)
            have SC9 := Lib.hid (SC.out.q HQ9.out)
            clear hq9
            go_wp2_with (fail)
            refine (mRoot_any ac n cc c2 _ SC9.out RC.out (by omega)).mono ?_
            rintro e w10 ⟨rfl, hq10⟩
            have HQ10 := Lib.hid (HQ9.out.trans hq10)
            clear hq10
            rw [show nodeZ c2 (hgt c2.length) 0 = rootZ c2 from rfl]
            generalize rootZ c2 = r9 at *
            have heq : (r9 == r9) = true := by simp
            go_wp2_with (fail)
            refine (lives11_any _).mono ?_
            rintro e w11 ⟨rfl, hq11⟩
            have HQ11 := Lib.hid (Q1.out.trans (HQ10.out.trans hq11))
            clear hq11
            go_wp2
            go_ret
            exact ⟨rfl, HQ11.out⟩
          | succ j =>
            obtain rfl := hiv.trans (show Value.int .i64 (((j + 1 : Nat) : Int) - 1) = .int .i64 (j : Int) by rw [show ((j + 1 : Nat) : Int) - 1 = (j : Int) by omega])
            clear hiv
            have hjl : j < L.length := by omega
            have hj0 : (0 : Int) ≤ (j : Int) := by omega
            have hpl := HW2.out.pl
            have hol := HW2.out.ol
            rw [List.length_map] at hpl hol
            obtain ⟨gp, rfl, hgp0, hgp⟩ := own_addr1 hpl (by omega)
            obtain ⟨go, rfl, hgo0, hgo⟩ := own_addr1 hol (by omega)
            have HDR := Lib.hid (HW2.out.q ((Q.refl wr).drew))
            have HQD := Lib.hid (HQ2.out.drew)
            have HPD := Lib.hid (own_q hpl ((Q.refl wr).drew))
            have HOD := Lib.hid (own_q hol ((Q.refl wr).drew))
            have HUB := Lib.hid (undo_back HC2.out hjl HU2.out HLT.out)
            have HV := Lib.hid (HVS.out _ (List.getElem_mem hjl))
            have HK1 := Lib.hid (show ((L.map fun p => (p.1 : Int)).map (Value.int .i64))[j]? = some (.int .i64 (L[j].1 : Nat)) by rw [List.getElem?_map, List.getElem?_map, List.getElem?_eq_getElem hjl]; rfl)
            have HK2 := Lib.hid (show ((L.map Prod.snd).map (Value.int .i64))[j]? = some (.int .i64 L[j].2) by rw [List.getElem?_map, List.getElem?_map, List.getElem?_eq_getElem hjl]; rfl)
            clear hpl hol
            have HNP := Lib.hid (show ¬ col gp ≠ 0 from fun h => h (HW2.out.c0 gp hgp0))
            have HNO := Lib.hid (show ¬ col go ≠ 0 from fun h => h (HW2.out.c0 go hgo0))
            clear hgp0 hgo0 HW2
            go_upto_region 22 with (fail)
            refine wp_region_mixF (F := fun b => col b ≠ 0) [(0, true), (1, true), (2, true), (3, true), (4, true), (5, true), (6, true), (7, true), (8, true), (9, false)] (by kernel_rfl) (by kernel_rfl) (fun _ _ _ _ _ h => h) ?_
            generalize wr.drew = W at *
            have y0 := own_sF (F := fun b => col b ≠ 0) HPD.out HNP.out j _ HK1.out
            have y1 := own_sF (F := fun b => col b ≠ 0) HOD.out HNO.out j _ HK2.out
            generalize (L[j].1 : Int) = k at *
            generalize L[j].2 = v at *
            repeat (refine mixF_val rfl rfl ?_; go_big_quiet_step (fail); refine wpQuiet_nil ?_)
            clear y0 y1
            refine mixF_run rfl rfl ?_
            intro K hK
            go_wp2_with (fail)
            refine (mSet_any TB col c2 k v W HDR.out.tree HV.out).mono ?_
            rintro e w9 hset
            have HQ9 := Lib.hid (hset.q HQD.out HCOL.out)
            have HW9 := Lib.hid (HDR.out.set hset)
            obtain ⟨⟨x', rfl⟩, _, hqf⟩ := hset
            refine hK _ _ hqf ?_
            clear hK K hqf
            refine mixF_end ?_
            have HC9 := Lib.hid (show (setZ c2 k v).length = n by rw [setZ_len]; exact HC2.out)
            go_wp2
            go_roundw
            case rel => exact ⟨j, _, by omega, rfl, HC9.out, HUB.out, HW9.out, HQ9.out⟩
            case measure =>
              simp only [intOf]
              omega
end Go.Proofs.Ytcgnihgebifcjaa
