/- The walk of MerklePartial. -/
import Derived.Test.YtcgnihgebifcjaaMkAG
import Derived.Deep.DeepCutAuto
import Derived.Lib.MinMax
namespace Go.Proofs.Ytcgnihgebifcjaa
open Go Go.RowKit Go.BigFrame

set_option maxRecDepth 100000 in
set_option maxHeartbeats 4000000 in
theorem merklePartial_walk (a0 : Option Addr) (len0 cap0 : Nat) (z0 : List Int) (a1 : Option Addr) (len1 cap1 : Nat) (z1 : List Int) (a2 : Option Addr) (len2 cap2 : Nat) (z2 : List Int) (a3 : Option Addr) (len3 cap3 : Nat) (z3 : List Int) (w : World)
    (w0 : IsRow .i64 w a0 len0 cap0 z0) (w1 : IsRow .i64 w a1 len1 cap1 z1) (w2 : IsRow .i64 w a2 len2 cap2 z2) (w3 : IsRow .i64 w a3 len3 cap3 z3) :
    Calls Try.prog 10 #[.slice a0 len0 cap0, .slice a1 len1 cap1, .slice a2 len2 cap2, .slice a3 len3 cap3] w fun e w' => e = .returned (.bool true) ∧ Q w w' := by
  obtain ⟨i0, hinf, hz0, hz1, hz2⟩ := info_parts infoInt
  obtain ⟨i1, hinf1, hy0, hy1, hy2⟩ := info_parts infoLeaf
  have HINF := Lib.hid hinf
  have HINF1 := Lib.hid hinf1
  have S0 := Lib.hid (Sl.of_row w0)
  have R0 := Lib.hid (rowI64m w0)
  have S1 := Lib.hid (Sl.of_row w1)
  have R1 := Lib.hid (rowI64m w1)
  have S2 := Lib.hid (Sl.of_row w2)
  have R2 := Lib.hid (rowI64m w2)
  have S3 := Lib.hid (Sl.of_row w3)
  have R3 := Lib.hid (rowI64m w3)
  clear w0 w1 w2 w3 hinf hinf1
  generalize z0.take len0 = zl at *
  generalize z1.take len1 = kl at *
  generalize z2.take len2 = al at *
  generalize z3.take len3 = bl at *
  have LK := Lib.hid (show kl.length = len1 by have := S1.out.1; simpa using this)
  have LA := Lib.hid (show al.length = len2 by have := S2.out.1; simpa using this)
  have LB := Lib.hid (show bl.length = len3 by have := S3.out.1; simpa using this)
  have HM : min len0 20 ≤ 20 := Nat.min_le_right _ _
  have RC := Lib.hid (show I64s (zl.take 20) from fun z hz => R0.out z (List.mem_of_mem_take hz))
  go_enter Try.func10, Try.ntmps10
  go_wp2_with (fail)
  refine (rCells_any a0 len0 cap0 zl w S0.out).mono ?_
  rintro e w1 ⟨ac, cc, rfl, hown1, hq1⟩
  have Q1 := Lib.hid hq1
  have SC := Lib.hid (Sl.of_own hown1)
  have S1w := Lib.hid (S1.out.q hq1)
  have S2w := Lib.hid (S2.out.q hq1)
  have S3w := Lib.hid (S3.out.q hq1)
  clear hown1 hq1 S0 R0 S1 S2 S3
  generalize zl.take 20 = cs at *
  generalize min len0 20 = n at *
  have HL := Lib.hid (show cs.length = n by have := SC.out.1; simpa using this)
  have hncc := SC.out.2.1
  go_wp2_with (fail)
  refine (mTree_any ac n cc cs w1 SC.out RC.out (by omega)).mono ?_
  rintro e w2 ⟨hq2, TB, col, rfl, hT, hcol⟩
  have Q2 := Lib.hid hq2
  have HCOL := Lib.hid (show ∀ b, col b ≠ 0 → w1.heap.size ≤ b from hcol)
  have HPA := Lib.hid (show PaM w2 w2.heap.size TB col cs [] [] (.slice none 0 0) (.slice none 0 0) from
    ⟨hT, LfsOwn.nil _ _, World.ownsRow_nil _ _ _ _, (fun k h => by cases h), (fun x hx => by cases hx), Nat.le_refl _, hT.new0⟩)
  have HC0 := Lib.hid (show ∀ b, w2.heap.size ≤ b → col b = 0 from hT.new0)
  have HB0 := Lib.hid (show w1.heap.size ≤ w2.heap.size from hq2.size)
  clear hq2 hT hcol
  generalize w2.heap.size = base at *
  go_wp2_with (fail)
  obtain ⟨m, hm⟩ : ∃ m : Nat, m = if n = 0 then 0 else min len1 6 := ⟨_, rfl⟩
  have HMM := Lib.hid hm
  clear hm
  go_loopw [11, 12, 13] (fun u v iv wr => ∃ (i : Nat) (K : List Nat) (L : List LF), i ≤ m ∧ iv = .int .i64 i ∧ L.length = i ∧ HonestL cs K L ∧ (∀ k ∈ K, k < n) ∧ PaM wr base TB col cs (natI K) L u v ∧ Q w1 wr) (fun _ _ iv _ => m - (intOf iv).toNat)
  case atStart => exact ⟨0, [], [], by omega, rfl, rfl, trivial, (fun k hk => by cases hk), HPA.out, Q2.out⟩
  case round =>
    obtain ⟨i, K, L, him, rfl, hll, hhon, hkn, hpa, hq⟩ := hrel
    have HLL := Lib.hid hll
    have HH := Lib.hid hhon
    have HKN := Lib.hid hkn
    have HP := Lib.hid hpa
    have HQ := Lib.hid hq
    clear hll hhon hkn hpa hq HPA Q2
    go_upto_region 8 with (fail)
    go_cut [42] (fun s42 wx => s42 = .bool (decide (i < m)) ∧ wx = wr)
    case first =>
      have hm := HMM.out
      by_cases h1 : i < len1
      · have h1' : (i : Int) < (len1 : Int) := by omega
        by_cases h3 : i < 6
        · have h3' : (i : Int) < 6 := by omega
          by_cases h4 : n = 0
          · have h4' : ¬ (0 : Int) < (n : Int) := by omega
            have hd : ¬ i < m := by rw [if_pos h4] at hm; omega
            clear hm h4
            go_wp2_with (fail)
            go_meet
            exact ⟨by rw [decide_eq_false hd]; simp; omega, rfl⟩
          · have h4' : (0 : Int) < (n : Int) := by omega
            have hd : i < m := by rw [if_neg h4] at hm; omega
            clear hm h4
            go_wp2_with (fail)
            go_meet
            exact ⟨by rw [decide_eq_true hd]; simp; omega, rfl⟩
        · have h3' : ¬ (i : Int) < 6 := by omega
          have hd : ¬ i < m := by split at hm <;> omega
          clear hm
          go_wp2_with (fail)
          go_meet
          exact ⟨by rw [decide_eq_false hd], rfl⟩
      · have h1' : ¬ (i : Int) < (len1 : Int) := by omega
        have hd : ¬ i < m := by split at hm <;> omega
        clear hm
        go_wp2_with (fail)
        go_meet
        exact ⟨by rw [decide_eq_false hd], rfl⟩
    case rest =>
      obtain ⟨rfl, rfl⟩ := hcut
      by_cases hi : i < m
      · have hd : decide (i < m) = true := by simpa using hi
        have hn0 : 0 < n := by have h := HMM.out; split at h <;> omega
        have hi1 : i < len1 := by have h := HMM.out; split at h <;> omega
        have hi6 : i < 6 := by have h := HMM.out; split at h <;> omega
        obtain ⟨x, hx⟩ : ∃ x, kl[i]? = some x := ⟨kl[i]'(by rw [LK.out]; exact hi1), by rw [List.getElem?_eq_getElem]⟩
        have HX := Lib.hid (R1.out x (List.mem_of_getElem? hx))
        obtain ⟨ga, oa, rfl, hga, hca⟩ := S1w.out.pos (by omega)
        have ca : wc.cell? ⟨ga, oa + i, none⟩ = some (.int .i64 x) := (HQ.out.cells.1 _ _ hga).trans (hca i _ (by rw [List.getElem?_map, hx]; rfl))
        clear hca hx hga
        go_wp2_with (fail)
        refine (around_any x n _ HX.out (by omega)).mono ?_
        rintro e w4 ⟨rfl, rfl⟩
        have p0 := aroundZ_lo x (n : Int) (by omega)
        have p1 := aroundZ_hi x (n : Int) (by omega)
        obtain ⟨k, hk⟩ := Int.eq_ofNat_of_zero_le p0
        rw [hk] at p1 ⊢
        clear hk p0 ca
        have hkn : k < n := by omega
        obtain ⟨v, hv⟩ : ∃ v, cs[k]? = some v := ⟨cs[k]'(by rw [HL.out]; exact hkn), by rw [List.getElem?_eq_getElem]⟩
        have HV := Lib.hid hv
        have HVR := Lib.hid (RC.out v (List.mem_of_getElem? hv))
        have HPV := Lib.hid (show proveV cs k = ((k : Int), v) by
          unfold proveV
          rw [if_pos ⟨by omega, by have := HL.out; omega⟩, Int.toNat_natCast, List.getD_eq_getElem?_getD, hv]; rfl)
        have HPP := Lib.hid (show proveP (nodeZ cs) cs k = proofZ (nodeZ cs) (hgt n) k by
          unfold proveP
          rw [if_pos ⟨by omega, by have := HL.out; omega⟩, Int.toNat_natCast, HL.out])
        have HPL := Lib.hid (proofZ_len (nodeZ cs) (hgt n) k)
        have hh17 := hgt_17 n (by omega)
        clear hv p1
        go_wp2_with (fail)
        refine (mProve_any TB col cs (nodeZ cs) k _ HP.out.tree).mono ?_
        rw [HPV.out, HPP.out]
        generalize hPZ : proofZ (nodeZ cs) (hgt n) k = pz at *
        have HPZ := Lib.hid hPZ
        clear hPZ
        rintro e w5 ⟨pa, pc, rfl, hown5, hq5⟩
        generalize hpm : pz.length = pm at *
        have hpm17 : pm ≤ 17 := by rw [HPL.out]; exact hh17
        have HHX := Lib.hid (show Honest cs k ⟨k, v, pa, pm, pc, pz⟩ from ⟨rfl, HV.out, by rw [HL.out]; exact HPZ.out.symm, by rw [HL.out]; exact HPL.out⟩)
        have HQ5 := Lib.hid (HQ.out.trans hq5)
        have HP5 := Lib.hid (HP.out.q hq5)
        have HB5 := Lib.hid HP5.out.hb
        have HSL5 := Lib.hid (Sl.of_own hown5)
        have HLT5 := Lib.hid (show ∀ g, pa = some g → u11.ownBlock ≠ some g.block ∧ u12.ownBlock ≠ some g.block ∧ g.block < w5.heap.size from fun g hg => by
          have h1 := hown5.lt g.block (by rw [hg]; rfl)
          exact ⟨fun e => by have := (HP.out.lf.own.lt _ e).2; omega, fun e => by have := (HP.out.ow.lt _ e).2; omega, h1.2⟩)
        clear hown5 hq5 hpm
        go_wp2_with (at_builtin; refine stopAt ?_)
        refine goOn ?_
        refine append_one_f rfl _ _ 46 rfl base 25 i1 _ 3 40 Try.underlying46 HINF1.out hy0 hy1 hy2 rfl (by decide) _ _ _ rfl HP5.out.lf.own _ rfl [.int .i64 k, .int .i64 v, .slice pa pm pc] rfl rfl (by simp [Value.oneCell']) (by rw [HLL.out]; omega) (by decide) HB5.out ?_
        intro g6 cap6 w6 hown6 hqf6 hk6
        have HP6 := Lib.hid (HP5.out.addL ⟨k, v, pa, pm, pc, pz⟩ ⟨HSL5.out, ⟨by show _ ≤ (k : Int); omega, by show (k : Int) ≤ _; omega⟩, HVR.out⟩ HLT5.out hpm17 hown6 hqf6 hk6)
        have HQ6 := Lib.hid (QF.q HQ5.out hqf6 (fun b hb => Nat.le_trans HB0.out (HP5.out.lf.own.lt b hb).1))
        clear hown6 hqf6 hk6 HB5 HP5 HQ5 HP
        have HB6 := Lib.hid HP6.out.hb
        have HKL := Lib.hid (show (natI K).length ≤ 100 by
          have : ∀ (K : List Nat) (L : List LF), HonestL cs K L → K.length = L.length := by
            intro K
            induction K with
            | nil => intro L h; cases L with | nil => rfl | cons _ _ => exact h.elim
            | cons a K ih => intro L h; cases L with | nil => exact h.elim | cons b L => simp [ih L h.2]
          rw [natI_len, this K L HH.out, HLL.out]
          omega)
        have HNS := Lib.hid (natI_snoc K k)
        generalize natI K = ks at *
        go_wp2_with (at_builtin; refine stopAt ?_)
        refine goOn ?_
        refine append_one_f rfl _ _ 26 rfl base 3 i0 _ 1 8 Try.underlying26 HINF.out hz0 hz1 hz2 rfl (by decide) _ _ _ rfl HP6.out.ow _ rfl [.int .i64 k] rfl rfl (by simp [Value.oneCell']) (by have := HKL.out; omega) (by decide) HB6.out ?_
        intro g7 cap7 w7 hown7 hqf7 hk7
        have HP7 := Lib.hid (HP6.out.addK hown7 hqf7 hk7)
        have HQ7 := Lib.hid (QF.q HQ6.out hqf7 (fun b hb => Nat.le_trans HB0.out (HP6.out.ow.lt b hb).1))
        clear hown7 hqf7 hk7 HB6 HP6 HQ6
        go_wp2_with (fail)
        go_roundw
        case rel =>
          refine ⟨i + 1, K ++ [k], L ++ [⟨k, v, pa, pm, pc, pz⟩], by omega, by go_num, by rw [List.length_append, HLL.out]; rfl, HH.out.snoc HHX.out, fun j hj => ?_, by rw [HNS.out]; exact HP7.out, HQ7.out⟩
          rcases List.mem_append.1 hj with h' | h'
          · exact HKN.out j h'
          · rw [List.mem_singleton.1 h']; exact hkn
        case measure => simp [intOf]; omega
      · have hd : decide (i < m) = false := by simpa using hi
        have hl6 : L.length ≤ 6 := by have h := HMM.out; have h2 := HLL.out; split at h <;> omega
        obtain ⟨la, lc, rfl, hlf⟩ := HP.out.lf.lfs
        have HLF := Lib.hid hlf
        obtain ⟨s, hnp, hinv⟩ := np_honest (by rw [HL.out]; omega) HH.out
        rw [HL.out] at hnp
        have HNP := Lib.hid hnp
        have HINV := Lib.hid hinv
        have HRT := Lib.hid (show nodeZ cs (hgt cs.length) 0 = rootZ cs from rfl)
        clear hlf hnp hinv
        go_wp2_with (fail)
        refine (mTRoot_any TB col cs _ _ HP.out.tree).mono ?_
        rintro e w4 ⟨rfl, hq4⟩
        have HP4 := Lib.hid (HP.out.q hq4)
        have HQ4 := Lib.hid (HQ.out.trans hq4)
        have HLF4 := Lib.hid (HLF.out.q hq4)
        clear hq4
        rw [HRT.out]
        generalize rootZ cs = rt at *
        go_wp2_with (fail)
        refine (mNewPartial_any rt n la L.length lc L _ HLF4.out (by omega) (by omega)).mono ?_
        rintro e w5 ⟨hq5, hm5⟩
        rw [HNP.out] at hm5
        obtain ⟨PB, MC, MN, rfl, hp5, b1, b2, b3⟩ := hm5
        have HQ5 := Lib.hid (HQ4.out.trans hq5)
        have HT5 := Lib.hid (HP4.out.tree.q hq5)
        have HO5 := Lib.hid (own_q HP4.out.ow hq5)
        have HPT5 := Lib.hid hp5
        have HBB := Lib.hid (show ∀ b, (b = PB ∨ b = MC ∨ b = MN) → col b = 0 ∧ u12.ownBlock ≠ some b ∧ base ≤ b ∧ b < w5.heap.size from fun b hb => by
          have h0 := HP4.out.hb
          have h1 : w4.heap.size ≤ b := by rcases hb with e | e | e <;> omega
          have h2 : b < w5.heap.size := by rcases hb with e | e | e <;> rw [e]; exact hp5.box.1; exact hp5.cm.lt; exact hp5.nm.lt
          exact ⟨HC0.out b (by omega), fun e => by have := (HP4.out.ow.lt b e).2; omega, by omega, h2⟩)
        have HS5 := Lib.hid (show base ≤ w5.heap.size from Nat.le_trans HP4.out.hb hq5.size)
        have SC5 := Lib.hid (SC.out.q HQ5.out)
        clear hq5 hp5 b1 b2 b3 HP4 HQ4 HLF4 HLF HNP HP HQ
        go_wp2_with (at_builtin; refine stopAt ?_)
        refine goOn ?_
        refine wpList_append_sl rfl _ _ 26 rfl w5.heap.size 3 i0 _ 1 8 Try.underlying26 HINF.out hz0 hz1 hz2 rfl (by decide) _ 0 [] rfl (World.ownsRow_made w5 #[] 0 (Nat.le_refl _) (by decide) rfl) ac n cc _ rfl (SC5.out.q ((Q.refl w5).alloc _)) (oneCell_map _ _) (by omega) (by decide) (by simp) ?_
        intro na nc w6 hown6 hg6 _
        rw [Nat.zero_add] at hown6 ⊢
        have Q56 := Lib.hid (((Q.refl w5).alloc (.cells #[] 3)).grown hg6 (fun k hk => by cases hk; exact Nat.le_refl _))
        have HB6 := Lib.hid (show PbM w6 base TB PB MC MN col n cs cs (natI K) s u12 (.slice na n nc) from
          ⟨HT5.out.q Q56.out, HPT5.out.q Q56.out, own_q HO5.out Q56.out, own_mono hown6 HS5.out, fun b h1 h2 => by have h3 := (HO5.out.lt b h1).2; have h4 := (hown6.lt b h2).1; omega,
            fun b hb => by
              obtain ⟨h1, h2, h3, h4⟩ := HBB.out b hb
              exact ⟨h1, h2, fun e => by have := (hown6.lt b e).1; omega, h3⟩, Nat.le_trans HS5.out Q56.out.size, HC0.out⟩)
        have HQ6 := Lib.hid (HQ5.out.trans Q56.out)
        clear hown6 hg6 Q56 HT5 HPT5 HO5 HBB HS5 SC5 HQ5
        obtain ⟨oa, oc, hoa⟩ := ret_shape HB6.out.ow
        subst hoa
        have HKC := Lib.hid (show ∀ (cur : List Int) (s' : PS) (z : Int), cur.length = n → PInv cur K s' → hasL (natI K) z = (s'.cm z).isSome from fun cur s' z hc hp => (hp.known z (fun k hk => by rw [hc]; exact HKN.out k hk)).symm)
        go_wp2_with (fail)
        obtain ⟨m2, hm2⟩ : ∃ m2 : Nat, m2 = min (min len2 len3) 8 := ⟨_, rfl⟩
        have HMM2 := Lib.hid hm2
        clear hm2
        go_loopw [18] (fun iv wr => ∃ (i2 : Nat) (cur : List Int) (s' : PS), i2 ≤ m2 ∧ iv = .int .i64 i2 ∧ cur.length = n ∧ I64s cur ∧ PInv cur K s' ∧ PbM wr base TB PB MC MN col n cur cur (natI K) s' (.slice oa (natI K).length oc) (.slice na n nc) ∧ Q w1 wr) (fun iv _ => m2 - (intOf iv).toNat)
        case atStart => exact ⟨0, cs, s, by omega, rfl, HL.out, RC.out, HINV.out, HB6.out, HQ6.out⟩
        case round =>
          obtain ⟨i2, cur, s', hi2, rfl, hcl, hok, hinv, hb, hq⟩ := hrel
          have HCL := Lib.hid hcl
          have HOK := Lib.hid hok
          have HIV := Lib.hid hinv
          have HB := Lib.hid hb
          have HQ := Lib.hid hq
          clear hcl hok hinv hb hq HB6 HQ6
          go_upto_region 18 with (fail)
          go_cut [93] (fun s93 wx => s93 = .bool (decide (i2 < m2)) ∧ wx = wr)
          case first =>
            have hm := HMM2.out
            by_cases h1 : i2 < len2
            · have h1' : (i2 : Int) < (len2 : Int) := by omega
              by_cases h2 : i2 < len3
              · have h2' : (i2 : Int) < (len3 : Int) := by omega
                by_cases h3 : i2 < 8
                · have h3' : (i2 : Int) < 8 := by omega
                  have hd : i2 < m2 := by omega
                  clear hm
                  go_wp2_with (fail)
                  go_meet
                  exact ⟨by rw [decide_eq_true hd], rfl⟩
                · have h3' : ¬ (i2 : Int) < 8 := by omega
                  have hd : ¬ i2 < m2 := by omega
                  clear hm
                  go_wp2_with (fail)
                  go_meet
                  exact ⟨by rw [decide_eq_false hd], rfl⟩
              · have h2' : ¬ (i2 : Int) < (len3 : Int) := by omega
                have hd : ¬ i2 < m2 := by omega
                clear hm
                go_wp2_with (fail)
                go_meet
                exact ⟨by rw [decide_eq_false hd], rfl⟩
            · have h1' : ¬ (i2 : Int) < (len2 : Int) := by omega
              have hd : ¬ i2 < m2 := by omega
              clear hm
              go_wp2_with (fail)
              go_meet
              exact ⟨by rw [decide_eq_false hd], rfl⟩
          case rest =>
            obtain ⟨rfl, rfl⟩ := hcut
            by_cases hi2m : i2 < m2
            · have hd2 : decide (i2 < m2) = true := by simpa using hi2m
              have hj1 : i2 < len2 := by have := HMM2.out; omega
              have hj2 : i2 < len3 := by have := HMM2.out; omega
              have hj8 : i2 < 8 := by have := HMM2.out; omega
              obtain ⟨x, hx⟩ : ∃ x, al[i2]? = some x := ⟨al[i2]'(by rw [LA.out]; exact hj1), by rw [List.getElem?_eq_getElem]⟩
              obtain ⟨y, hy⟩ : ∃ y, bl[i2]? = some y := ⟨bl[i2]'(by rw [LB.out]; exact hj2), by rw [List.getElem?_eq_getElem]⟩
              have HX := Lib.hid (R2.out x (List.mem_of_getElem? hx))
              have HY := Lib.hid (R3.out y (List.mem_of_getElem? hy))
              obtain ⟨ga, oa2, rfl, hga, hca⟩ := S2w.out.pos (by omega)
              obtain ⟨gb, ob2, rfl, hgb, hcb⟩ := S3w.out.pos (by omega)
              have HCB := Lib.hid (show gb < w1.heap.size ∧ w1.cell? ⟨gb, ob2 + i2, none⟩ = some (.int .i64 y) from ⟨hgb, hcb i2 _ (by rw [List.getElem?_map, hy]; rfl)⟩)
              have ca : wc.cell? ⟨ga, oa2 + i2, none⟩ = some (.int .i64 x) := (HQ.out.cells.1 _ _ hga).trans (hca i2 _ (by rw [List.getElem?_map, hx]; rfl))
              clear hca hcb hx hy hga hgb
              go_wp2_with (fail)
              refine (around_any x (n + 2) _ HX.out (by omega)).mono ?_
              rintro e w4 ⟨rfl, rfl⟩
              have p0 := aroundZ_lo x ((n : Int) + 2) (by omega)
              have p1 := aroundZ_hi x ((n : Int) + 2) (by omega)
              generalize aroundZ x ((n : Int) + 2) = kk at *
              obtain ⟨z, rfl⟩ : ∃ z : Int, kk = z + 1 := ⟨kk - 1, by omega⟩
              have HZ := Lib.hid (show I64 z from ⟨by omega, by omega⟩)
              clear ca
              go_wp2_with (fail)
              refine (has_any oa _ oc (natI K) z _ (Sl.of_own HB.out.ow)).mono ?_
              rw [HKC.out cur s' z HCL.out HIV.out]
              clear p0 p1
              rintro e w5 ⟨rfl, hq5⟩
              have HQ5 := Lib.hid (HQ.out.trans hq5)
              have HB5 := Lib.hid (HB.out.q hq5)
              clear hq5
              have cb : w5.cell? ⟨gb, ob2 + i2, none⟩ = some (.int .i64 y) := (HQ5.out.cells.1 _ _ HCB.out.1).trans HCB.out.2
              cases hsz : (s'.cm z).isSome with
              | false =>
                have HSN := Lib.hid (setP_none (n := n) (v := y) hsz)
                have HSZ := Lib.hid hsz
                clear hsz
                go_wp2_with (fail)
                refine (mPSet_any PB MC MN n s' z y _ HB5.out.part (by omega) (by have := HIV.out.ok HOK.out; rw [HCL.out] at this; exact this) HZ.out HY.out).mono ?_
                rintro e w6 hps
                have HQ6 := Lib.hid (HB5.out.foot HQ5.out HB0.out hps)
                have HB6 := HB5.out.pset hps
                rw [HSN.out] at HB6
                have HB6 := Lib.hid HB6
                obtain ⟨rfl, _, _⟩ := hps
                rw [HSZ.out]
                go_wp2_with (fail)
                refine (mPRoot_any PB MC MN n s' _ HB6.out.part).mono ?_
                rintro e w7 ⟨rfl, rfl⟩
                rw [HIV.out.root]
                have HRC := Lib.hid (show nodeZ cur (hgt cur.length) 0 = rootZ cur from rfl)
                go_wp2_with (fail)
                refine (mTRoot_any TB col cur _ _ HB6.out.tree).mono ?_
                rw [HRC.out]
                generalize rootZ cur = r7 at *
                rintro e w8 ⟨rfl, hq8⟩
                have HQ8 := Lib.hid (HQ6.out.trans hq8)
                have HB8 := Lib.hid (HB6.out.q hq8)
                clear hq8
                have hrr : (r7 != r7) = false := by simp
                go_wp2_with (fail)
                go_roundw
                case rel => exact ⟨i2 + 1, cur, s', by omega, by go_num, HCL.out, HOK.out, HIV.out, HB8.out, HQ8.out⟩
                case measure => simp [intOf]; omega
              | true =>
                obtain ⟨u, hu⟩ := Option.isSome_iff_exists.1 hsz
                obtain ⟨k, hkK, rfl, hku⟩ := (HIV.out.cm z u).1 hu
                have hkn : k < n := HKN.out k hkK
                have HSZ := Lib.hid hsz
                have HKU := Lib.hid hku
                have HIN := Lib.hid (HIV.out.set k y hkK (by rw [HCL.out]; exact hkn) (by rw [HCL.out]; omega))
                rw [HCL.out] at HIN
                clear hsz hu hku hkK
                go_wp2_with (fail)
                refine (mPSet_any PB MC MN n s' k y _ HB5.out.part (by omega) (by have := HIV.out.ok HOK.out; rw [HCL.out] at this; exact this) HZ.out HY.out).mono ?_
                rintro e w6 hps
                have HQ6 := Lib.hid (HB5.out.foot HQ5.out HB0.out hps)
                have HB6 := Lib.hid (HB5.out.pset hps)
                obtain ⟨rfl, _, _⟩ := hps
                rw [HSZ.out]
                clear cb
                have cb : w6.cell? ⟨gb, ob2 + i2, none⟩ = some (.int .i64 y) := (HQ6.out.cells.1 _ _ HCB.out.1).trans HCB.out.2
                obtain ⟨gn, rfl, _, hgn⟩ := own_addr1 HB6.out.now (by omega)
                obtain ⟨n6, f6⟩ := own_cell HB6.out.now k (.int .i64 u) (by rw [List.getElem?_map, HKU.out]; rfl)
                have hkni : (k : Int) < (n : Int) := by omega
                generalize hs5 : setP n k y s' = s5 at *
                clear hs5
                go_upto_region 26 with (fail)
                have HB7 := Lib.hid (HB6.out.putN' k y)
                have HQ7 := Lib.hid (QF.q HQ6.out (QF.set (F := fun b => b = gn) w6 gn k (.int .i64 y) rfl) (fun b hb => by rw [hb]; exact Nat.le_trans HB0.out (HB6.out.now.lt gn rfl).1))
                clear cb n6 f6 hgn HB6 HQ6
                generalize w6.setCell ⟨gn, k, none⟩ (.int .i64 y) = w7 at *
                have cb : w7.cell? ⟨gb, ob2 + i2, none⟩ = some (.int .i64 y) := (HQ7.out.cells.1 _ _ HCB.out.1).trans HCB.out.2
                go_wp2_with (fail)
                refine (mSet_any TB col cur k y _ HB7.out.tree HY.out).mono ?_
                rintro e w8 hset
                have hz : setZ cur k y = cur.set k y := by unfold setZ; rw [if_pos ⟨by omega, by have := HCL.out; omega⟩, Int.toNat_natCast]
                have HQ8 := Lib.hid (hset.q HQ7.out HCOL.out)
                have HB8 := HB7.out.tset hset
                rw [hz] at HB8
                have HB8 := Lib.hid HB8
                obtain ⟨⟨xx, rfl⟩, _, _⟩ := hset
                have HC8 := Lib.hid (show (cur.set k y).length = n by rw [List.length_set]; exact HCL.out)
                have HO8 := Lib.hid (show I64s (cur.set k y) from fun q hq => by
                  rcases List.mem_or_eq_of_mem_set hq with h | rfl
                  · exact HOK.out _ h
                  · exact HY.out)
                clear hz cb HB7 HQ7
                generalize cur.set k y = cur8 at *
                go_wp2_with (fail)
                refine (mPRoot_any PB MC MN n s5 _ HB8.out.part).mono ?_
                rintro e w9 ⟨rfl, rfl⟩
                rw [HIN.out.root]
                have HRC := Lib.hid (show nodeZ cur8 (hgt cur8.length) 0 = rootZ cur8 from rfl)
                go_wp2_with (fail)
                refine (mTRoot_any TB col cur8 _ _ HB8.out.tree).mono ?_
                rw [HRC.out]
                generalize rootZ cur8 = r7 at *
                rintro e w10 ⟨rfl, hq8⟩
                have HQ10 := Lib.hid (HQ8.out.trans hq8)
                have HB10 := Lib.hid (HB8.out.q hq8)
                clear hq8
                have hrr : (r7 != r7) = false := by simp
                go_wp2_with (fail)
                go_roundw
                case rel => exact ⟨i2 + 1, cur8, s5, by omega, by go_num, HC8.out, HO8.out, HIN.out, HB10.out, HQ10.out⟩
                case measure => simp [intOf]; omega
            · rw [show decide (i2 < m2) = false by simpa using hi2m]
              have HRO := Lib.hid HIV.out.root
              go_wp2_with (fail)
              go_loopw [21] (fun kv wr => ∃ j : Nat, j ≤ n + 2 ∧ kv = .int .i64 ((j : Int) - 1) ∧ PbM wr base TB PB MC MN col n cur cur (natI K) s' (.slice oa (natI K).length oc) (.slice na n nc) ∧ Q w1 wr) (fun kv _ => ((n : Int) + 1 - intOf kv).toNat)
              case atStart => exact ⟨0, by omega, rfl, HB.out, HQ.out⟩
              case round =>
                obtain ⟨j, hj, hkv, hb3, hq3⟩ := hrel
                have HB3 := Lib.hid hb3
                have HQ3 := Lib.hid hq3
                clear hb3 hq3 HB HQ
                obtain ⟨z, hz⟩ : ∃ z : Int, (j : Int) - 1 = z := ⟨_, rfl⟩
                rw [hz] at hkv
                obtain rfl := hkv
                have hz0 : -1 ≤ z := by omega
                by_cases hzn : z ≤ n
                · have HZ := Lib.hid (show I64 z from ⟨by omega, by omega⟩)
                  have HJZ := Lib.hid hz
                  clear hz
                  go_wp2_with (fail)
                  refine (mPGet_any PB MC MN n s' z _ HB3.out.part HZ.out).mono ?_
                  rintro e w4 ⟨rfl, rfl⟩
                  have HKZ := Lib.hid (HKC.out cur s' z HCL.out HIV.out)
                  cases hsz : s'.cm z with
                  | none =>
                    rw [hsz] at HKZ
                    clear hsz
                    go_wp2_with (fail)
                    refine (has_any oa _ oc (natI K) z _ (Sl.of_own HB3.out.ow)).mono ?_
                    rw [HKZ.out]
                    rintro e w5 ⟨rfl, hq5⟩
                    have HQ5 := Lib.hid (HQ3.out.trans hq5)
                    have HB5 := Lib.hid (HB3.out.q hq5)
                    clear hq5
                    go_wp2_with (fail)
                    go_roundw
                    case rel =>
                      exact ⟨j + 1, by have := HJZ.out; omega, by have := HJZ.out; congr 1; omega, HB5.out, HQ5.out⟩
                    case measure => simp [intOf]; omega
                  | some u =>
                    obtain ⟨k, hkK, rfl, hku⟩ := (HIV.out.cm z u).1 hsz
                    rw [hsz] at HKZ
                    have hkn : k < n := HKN.out k hkK
                    have HKU := Lib.hid hku
                    clear hsz hku hkK
                    go_wp2_with (fail)
                    refine (has_any oa _ oc (natI K) k _ (Sl.of_own HB3.out.ow)).mono ?_
                    rw [HKZ.out]
                    rintro e w5 ⟨rfl, hq5⟩
                    have HQ5 := Lib.hid (HQ3.out.trans hq5)
                    have HB5 := Lib.hid (HB3.out.q hq5)
                    clear hq5
                    obtain ⟨gn, rfl, _, hgn⟩ := own_addr1 HB5.out.now (by omega)
                    obtain ⟨n5, _⟩ := own_cell HB5.out.now k (.int .i64 u) (by rw [List.getElem?_map, HKU.out]; rfl)
                    have hmx : max (k : Int) 0 = (k : Int) := by omega
                    have hkni : (k : Int) < (n : Int) := by omega
                    have huu : (u != u) = false := by simp
                    go_wp2_with (fail)
                    go_roundw
                    case rel =>
                      exact ⟨j + 1, by have := HJZ.out; omega, by have := HJZ.out; congr 1; omega, HB5.out, HQ5.out⟩
                    case measure => simp [intOf]; omega
                · have SN3 := Lib.hid (Sl.of_own HB3.out.now)
                  clear hz
                  go_wp2_with (fail)
                  refine (mPRoot_any PB MC MN n s' _ HB3.out.part).mono ?_
                  rintro e w4 ⟨rfl, rfl⟩
                  rw [HRO.out]
                  go_wp2_with (fail)
                  refine (rRoot_any na n nc cur _ SN3.out HOK.out (by omega)).mono ?_
                  generalize rootZ cur = r9 at *
                  rintro e w5 ⟨rfl, hq5⟩
                  have HQ5 := Lib.hid (HQ3.out.trans hq5)
                  clear hq5
                  have hrr : (r9 == r9) = true := by simp
                  go_wp2_with (fail)
                  refine (lives11_any _).mono ?_
                  rintro e w6 ⟨rfl, hq6⟩
                  have HQ6 := Lib.hid (Q1.out.trans (HQ5.out.trans hq6))
                  clear hq6
                  go_wp2
                  go_ret
                  exact ⟨rfl, HQ6.out⟩
end Go.Proofs.Ytcgnihgebifcjaa
