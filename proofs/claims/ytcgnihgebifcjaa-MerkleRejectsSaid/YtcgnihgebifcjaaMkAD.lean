/- The walk of MerkleRejects. -/
import Derived.Test.YtcgnihgebifcjaaMkAC
import Derived.Test.YtcgnihgebifcjaaMkE
import Derived.Deep.DeepCutAuto
namespace Go.Proofs.Ytcgnihgebifcjaa
open Go Go.RowKit Go.BigFrame

theorem tdiv3 (h : Int) (hb : -9223372036854775808 ≤ h ∧ h ≤ 9223372036854775807) : -9223372036854775808 ≤ h.tdiv 3 ∧ h.tdiv 3 ≤ 9223372036854775807 := by
  rcases Int.le_total 0 h with h0 | h0
  · rw [Int.tdiv_eq_ediv_of_nonneg h0]; omega
  · have e : h.tdiv 3 = -((-h).tdiv 3) := by rw [Int.neg_tdiv, Int.neg_neg]
    rw [e, Int.tdiv_eq_ediv_of_nonneg (by omega)]; omega
/-- what the rest of the law reads -/
structure RejW (w wx : World) (base : Nat) (la : Option Addr) (c lc : Nat) (L : List LF) (ao : Option Addr) (no co : Nat) (os : List Int) : Prop where
  own : LfsOwn wx base (.slice la c lc) L
  q : Q w wx
  ot : Sl wx 1 ao no co (os.map (Value.int .i64))
  ol : ∀ g, ao = some g → g.block < base
  lb : w.heap.size ≤ base
theorem RejW.q' {w wx wy : World} {base : Nat} {la : Option Addr} {c lc : Nat} {L : List LF} {ao : Option Addr} {no co : Nat} {os : List Int} (h : RejW w wx base la c lc L ao no co os) (q : Q wx wy) : RejW w wy base la c lc L ao no co os := ⟨h.own.q q, h.q.trans q, h.ot.q q, h.ol, h.lb⟩
theorem RejW.lfs {w wx : World} {base : Nat} {la : Option Addr} {c lc : Nat} {L : List LF} {ao : Option Addr} {no co : Nat} {os : List Int} (h : RejW w wx base la c lc L ao no co os) : LfsAt wx la c lc L := by
  obtain ⟨a', cap', he, hl⟩ := h.own.lfs
  cases he
  exact hl
theorem RejW.put {w wx wy : World} {base g c lc : Nat} {L : List LF} {ao : Option Addr} {no co : Nat} {os : List Int} (h : RejW w wx base (some ⟨g, 0, none⟩) c lc L ao no co os) (k : Nat) (hk : k < L.length) (x : LF) (hx : Sl wx 1 x.a x.m x.c (x.p.map (Value.int .u64)) ∧ I64 x.i ∧ I64 x.v)
    (ha : ∀ y, x.a = some y → y.block ≠ g ∧ y.block < wx.heap.size) (hm : x.m ≤ 17)
    (he : wy = ((wx.setCell ⟨g, k * 3, none⟩ (.int .i64 x.i)).setCell ⟨g, k * 3 + 1, none⟩ (.int .i64 x.v)).setCell ⟨g, k * 3 + 2, none⟩ (.slice x.a x.m x.c)) :
    RejW w wy base (some ⟨g, 0, none⟩) c lc (L.set k x) ao no co os := by
  obtain ⟨h1, h2⟩ := h.own.put k hk x hx ha hm he
  have hg := (h.own.own.lt g rfl).1
  exact ⟨h1, QF.q h.q h2 (fun b hb => by rw [hb]; exact Nat.le_trans h.lb hg), h.ot.qf h2 (fun z hz e => by have := h.ol z hz; omega), h.ol, h.lb⟩
set_option maxRecDepth 100000 in
set_option maxHeartbeats 4000000 in
theorem merkleRejects_walk (a0 : Option Addr) (len0 cap0 : Nat) (z0 : List Int) (a1 : Option Addr) (len1 cap1 : Nat) (z1 : List Int) (which how by_ : Int) (a5 : Option Addr) (len5 cap5 : Nat) (z5 : List Int) (w : World)
    (w0 : IsRow .i64 w a0 len0 cap0 z0) (w1 : IsRow .i64 w a1 len1 cap1 z1) (ww : (Lit.int .i64 which).wf = true) (wh : (Lit.int .i64 how).wf = true) (wb : (Lit.int .i64 by_).wf = true) (w5 : IsRow .i64 w a5 len5 cap5 z5) :
    Calls Try.prog 8 #[.slice a0 len0 cap0, .slice a1 len1 cap1, .int .i64 which, .int .i64 how, .int .i64 by_, .slice a5 len5 cap5] w fun e w' => e = .returned (.bool true) ∧ Q w w' := by
  obtain ⟨i0, hinf, hz0, hz1, hz2⟩ := info_parts infoLeaf
  have HINF := Lib.hid hinf
  have S0 := Lib.hid (Sl.of_row w0)
  have R0 := Lib.hid (rowI64m w0)
  have S1 := Lib.hid (Sl.of_row w1)
  have R1 := Lib.hid (rowI64m w1)
  have S5 := Lib.hid (Sl.of_row w5)
  have R5 := Lib.hid (rowI64m w5)
  have WW := Lib.hid (wf_i64 ww)
  have WH := Lib.hid (wf_i64 wh)
  have WB := Lib.hid (wf_i64 wb)
  clear w0 w1 w5 ww wh wb hinf
  generalize z0.take len0 = zl at *
  generalize z1.take len1 = al at *
  generalize z5.take len5 = ol at *
  have LA := Lib.hid (show al.length = len1 by have := S1.out.1; simpa using this)
  have HM : min len0 20 ≤ 20 := Nat.min_le_right _ _
  have HM5 : min len5 20 ≤ 20 := Nat.min_le_right _ _
  have RC := Lib.hid (show I64s (zl.take 20) from fun z hz => R0.out z (List.mem_of_mem_take hz))
  have RO := Lib.hid (show I64s (ol.take 20) from fun z hz => R5.out z (List.mem_of_mem_take hz))
  go_enter Try.func8, Try.ntmps8
  go_wp2_with (fail)
  refine (rCells_any a0 len0 cap0 zl w S0.out).mono ?_
  rintro e w1 ⟨ac, cc, rfl, hown1, hq1⟩
  have Q1 := Lib.hid hq1
  have SC := Lib.hid (Sl.of_own hown1)
  clear hown1 hq1 S0 R0
  generalize zl.take 20 = cs at *
  generalize min len0 20 = n at *
  have HL := Lib.hid (show cs.length = n by have := SC.out.1; simpa using this)
  go_wp2_with (fail)
  refine (rCells_any a5 len5 cap5 ol w1 (S5.out.q Q1.out)).mono ?_
  rintro e w2 ⟨ao, co, rfl, hown2, hq2⟩
  have Q2 := Lib.hid (Q1.out.trans hq2)
  have SO := Lib.hid (Sl.of_own hown2)
  have HOL2 := Lib.hid (show ∀ g, ao = some g → g.block < w2.heap.size from fun g hg => (hown2.lt g.block (by rw [hg]; rfl)).2)
  have SC2 := Lib.hid (SC.out.q hq2)
  clear hown2 hq2 S5 R5 SC Q1
  generalize ol.take 20 = os at *
  generalize min len5 20 = no at *
  have HLO := Lib.hid (show os.length = no by have := SO.out.1; simpa using this)
  go_wp2_with (fail)
  refine (rRoot_any ac n cc cs w2 SC2.out RC.out (by omega)).mono ?_
  rintro e w3 ⟨rfl, hq3⟩
  have Q3 := Lib.hid (Q2.out.trans hq3)
  have SO3 := Lib.hid (SO.out.q hq3)
  have SC3 := Lib.hid (SC2.out.q hq3)
  have HOL := Lib.hid (show ∀ g, ao = some g → g.block < w3.heap.size from fun g hg => Nat.lt_of_lt_of_le (HOL2.out g hg) hq3.size)
  have S13 := Lib.hid (S1.out.q Q3.out)
  clear hq3 SO SC2 S1 Q2
  generalize rootZ cs = root at *
  have SW := Lib.hid (LfsOwn.nil w3 w3.heap.size)
  go_wp2_with (fail)
  obtain ⟨m, hm⟩ : ∃ m : Nat, m = min len1 6 := ⟨_, rfl⟩
  have HMM := Lib.hid hm
  clear hm
  go_loopw [16, 17] (fun u iv wr => ∃ (i : Nat) (L : List LF), i ≤ m ∧ iv = .int .i64 i ∧ L.length = i ∧ LfsOwn wr w3.heap.size u L ∧ Q w3 wr) (fun _ iv _ => m - (intOf iv).toNat)
  case atStart => exact ⟨0, [], by omega, rfl, rfl, SW.out, Q.refl _⟩
  case round =>
    obtain ⟨i, L, him, rfl, hll, hw, hq⟩ := hrel
    have HLL := Lib.hid hll
    have HW := Lib.hid hw
    have HQ := Lib.hid hq
    clear hll hw hq SW
    go_upto_region 6 with (fail)
    go_cut [34] (fun s34 wx => s34 = .bool (decide (i < m)) ∧ wx = wr)
    case first =>
      have hm := HMM.out
      by_cases h1 : i < len1
      · have h1' : (i : Int) < (len1 : Int) := by omega
        by_cases h3 : i < 6
        · have h3' : (i : Int) < 6 := by omega
          have hd : i < m := by omega
          clear hm
          go_wp2_with (fail)
          go_meet
          exact ⟨by rw [decide_eq_true hd], rfl⟩
        · have h3' : ¬ (i : Int) < 6 := by omega
          have hd : ¬ i < m := by omega
          clear hm
          go_wp2_with (fail)
          go_meet
          exact ⟨by rw [decide_eq_false hd], rfl⟩
      · have h1' : ¬ (i : Int) < (len1 : Int) := by omega
        have hd : ¬ i < m := by omega
        clear hm
        go_wp2_with (fail)
        go_meet
        exact ⟨by rw [decide_eq_false hd], rfl⟩
    case rest =>
      obtain ⟨rfl, rfl⟩ := hcut
      by_cases hi : i < m
      · have hd : decide (i < m) = true := by simpa using hi
        have hi1 : i < len1 := by have := HMM.out; omega
        have hi6 : i < 6 := by have := HMM.out; omega
        obtain ⟨x, hx⟩ : ∃ x, al[i]? = some x := ⟨al[i]'(by rw [LA.out]; exact hi1), by rw [List.getElem?_eq_getElem]⟩
        have HX := Lib.hid (R1.out x (List.mem_of_getElem? hx))
        obtain ⟨ga, oa, rfl, hga, hca⟩ := S13.out.pos (by omega)
        have ca : wc.cell? ⟨ga, oa + i, none⟩ = some (.int .i64 x) := (HQ.out.cells.1 _ _ hga).trans (hca i _ (by rw [List.getElem?_map, hx]; rfl))
        clear hca hx hga
        go_wp2_with (fail)
        refine (around_any x (n + 1) _ HX.out (by omega)).mono ?_
        rintro e w4 ⟨rfl, rfl⟩
        have p0 := aroundZ_lo x ((n : Int) + 1) (by omega)
        have p1 := aroundZ_hi x ((n : Int) + 1) (by omega)
        generalize aroundZ x ((n : Int) + 1) = kk at *
        have HKK := Lib.hid (show I64 kk from ⟨by omega, by omega⟩)
        clear p0 p1 ca
        go_wp2_with (fail)
        refine (rProve_any ac n cc cs kk _ (SC3.out.q HQ.out) RC.out (by omega)).mono ?_
        have HRV := Lib.hid (proveV_rng cs kk RC.out HKK.out)
        have HRL := Lib.hid (proveP_len (nodeZ cs) cs kk (by rw [HL.out]; omega))
        generalize (proveV cs kk).1 = pi at *
        generalize (proveV cs kk).2 = pv at *
        generalize proveP (nodeZ cs) cs kk = pp at *
        rintro e w5 ⟨pa, pc, rfl, hown5, hq5⟩
        generalize hpm : pp.length = pm at *
        have HQ5 := Lib.hid (HQ.out.trans hq5)
        have HW5 := Lib.hid (HW.out.q hq5)
        have HB5 := Lib.hid (show w3.heap.size ≤ w5.heap.size from HQ5.out.size)
        have HSL5 := Lib.hid (Sl.of_own hown5)
        have HLT5 := Lib.hid (show ∀ g, pa = some g → wc.heap.size ≤ g.block ∧ g.block < w5.heap.size from fun g hg => hown5.lt g.block (by rw [hg]; rfl))
        have HUB := Lib.hid (show ∀ b, u16.ownBlock = some b → b < wc.heap.size from fun b hb => (HW.out.own.lt b hb).2)
        clear hown5 hq5 hpm
        go_wp2_with (at_builtin; refine stopAt ?_)
        refine goOn ?_
        refine append_one_f rfl _ _ 46 rfl w3.heap.size 25 i0 _ 3 40 Try.underlying46 HINF.out hz0 hz1 hz2 rfl (by decide) _ _ _ rfl HW5.out.own _ rfl [.int .i64 pi, .int .i64 pv, .slice pa pm pc] rfl rfl (by simp [Value.oneCell']) (by rw [HLL.out]; omega) (by decide) HB5.out ?_
        intro g6 cap6 w6 hown6 hqf6 hk6
        have HW6 := Lib.hid (HW5.out.app ⟨pi, pv, pa, pm, pc, pp⟩ ⟨HSL5.out, HRV.out.1, HRV.out.2⟩ (fun g hg e => by have h1 := (HLT5.out g hg).1; have h2 := HUB.out _ e; omega) (fun g hg => (HLT5.out g hg).2) HRL.out hown6 hqf6 hk6)
        have HQ6 := Lib.hid (QF.q HQ5.out hqf6 (fun b hb => (HW5.out.own.lt b hb).1))
        clear hown6 hqf6 hk6 HB5 HW5 HQ5
        go_wp2_with (fail)
        go_roundw
        case rel => exact ⟨i + 1, _, by omega, by go_num, by rw [List.length_append, HLL.out]; rfl, HW6.out, HQ6.out⟩
        case measure => simp [intOf]; omega
      · have hd : decide (i < m) = false := by simpa using hi
        have hm6 : m ≤ 6 := by have := HMM.out; omega
        obtain ⟨la, lc, rfl, hlf⟩ := HW.out.lfs
        have hie : L.length = i := HLL.out
        have hl6 : L.length ≤ 6 := by omega
        clear hie
        have HRW := Lib.hid (show RejW w wc w3.heap.size la L.length lc L ao no co os from ⟨HW.out, Q3.out.trans HQ.out, SO3.out.q HQ.out, HOL.out, Q3.out.size⟩)
        have HSZ := Lib.hid HW.out.sz
        clear hlf hm6
        have HNW := Lib.hid (npZ_wrong root n L)
        generalize L.length = c at *
        go_upto_region 9 with (fail)
        go_cut [18, 19] (fun s18 s19 wx => ∃ pv : Option Addr, s18 = .pointer pv ∧ s19 = .int .i64 (wrongE (wrongF root n [] L)) ∧ pv.isNone = wrongF root n [] L ∧ RejW w wx w3.heap.size la c lc L ao no co os)
        case first =>
          go_wp2_with (fail)
          refine (mNewPartial_any root n la c lc L _ HRW.out.lfs (by omega) (by omega)).mono ?_
          rintro e w5 ⟨hq5, hm5⟩
          have HQ5 := Lib.hid (HRW.out.q' hq5)
          clear hq5
          cases hz : npZ root n L with
          | none =>
            have HF := Lib.hid (show wrongF root n [] L = true by rw [← HNW.out, hz]; rfl)
            rw [hz] at hm5
            replace hm5 : e = .returned (.tuple #[.pointer none, .int .i64 22]) := hm5
            subst hm5
            clear hz
            go_wp2
            go_meet
            rw [HF.out]
            exact ⟨none, rfl, rfl, rfl, HQ5.out⟩
          | some s =>
            have HF := Lib.hid (show wrongF root n [] L = false by rw [← HNW.out, hz]; rfl)
            rw [hz] at hm5
            obtain ⟨PB, MC, MN, rfl, _⟩ := hm5
            clear hz
            go_wp2
            go_meet
            rw [HF.out]
            exact ⟨some _, rfl, rfl, rfl, HQ5.out⟩
        case rest =>
          obtain ⟨pv, rfl, rfl, hpv, hrw⟩ := hcut
          have HR5 := Lib.hid hrw
          clear hrw HRW
          generalize hwf : wrongF root n [] L = wf at *
          have HWF := Lib.hid hwf
          clear hwf
          go_upto_region 10 with (fail)
          go_cut [71] (fun s71 wx => s71 = .bool false ∧ RejW w wx w3.heap.size la c lc L ao no co os)
          case first =>
            go_wp2_with (fail)
            refine (rWrong_any root n la c lc L _ HR5.out.lfs (by omega) (by omega)).mono ?_
            rintro e w6 ⟨rfl, hq6⟩
            have HR6 := Lib.hid (HR5.out.q' hq6)
            clear hq6
            rw [HWF.out]
            cases pv with
            | none =>
              obtain rfl : true = wf := hpv
              go_wp2
              go_meet
              exact ⟨rfl, HR6.out⟩
            | some p =>
              obtain rfl : false = wf := hpv
              go_wp2
              go_meet
              exact ⟨rfl, HR6.out⟩
          case rest =>
            obtain ⟨rfl, hrw⟩ := hcut
            have HR6 := Lib.hid hrw
            clear hrw HR5 hpv HWF
            by_cases hc0 : c = 0
            · subst hc0
              go_wp2_with (fail)
              refine (lives11_any _).mono ?_
              rintro e w7 ⟨rfl, hq7⟩
              have HQ7 := Lib.hid (HR6.out.q.trans hq7)
              clear hq7
              go_wp2
              go_ret
              exact ⟨rfl, HQ7.out⟩
            · have hcz : ((c : Int) == 0) = false := by simp; omega
              go_wp2_with (fail)
              refine (around_any which c _ WW.out (by omega)).mono ?_
              rintro e w7 ⟨rfl, rfl⟩
              have p0 := aroundZ_lo which (c : Int) (by omega)
              have p1 := aroundZ_hi which (c : Int) (by omega)
              obtain ⟨k, hk⟩ := Int.eq_ofNat_of_zero_le p0
              rw [hk] at p1 ⊢
              clear hk p0
              have hkc : k < c := by omega
              go_upto_if 82 with (fail)
              have hcl := HR6.out.lfs.len
              obtain ⟨gl, rfl, hgl0, hgl⟩ := own_addr1 (by have h := HR6.out.own.own; rw [hcl] at h; exact h) (by omega)
              have HCL := Lib.hid hcl
              clear hcl
              go_cut [] (fun wx => ∃ L', RejW w wx w3.heap.size (some ⟨gl, 0, none⟩) c lc L' ao no co os)
              case first =>
                have hkl : k < L.length := by rw [HCL.out]; exact hkc
                have hkci : (k : Int) < (c : Int) := by omega
                have hi := HR6.out.own.pr _ (List.getElem_mem hkl)
                have HMZ := Lib.hid (HR6.out.own.sz _ (List.getElem_mem hkl))
                obtain ⟨g', o', he', _, d0, d1, d2⟩ := HR6.out.lfs.at k hkl
                cases he'
                rw [Nat.zero_add] at d0 d1 d2
                generalize L[k] = x at *
                have HX := Lib.hid hi
                clear hi
                by_cases h3 : how.tmod 3 = 0
                · have h3b : (how.tmod 3 == 0) = true := by simpa using h3
                  go_wp2_with (fail)
                  refine (rProve_any ao no co os x.i _ HR6.out.ot RO.out (by omega)).mono ?_
                  have HRV := Lib.hid (proveV_rng os x.i RO.out HX.out.2.1)
                  have HRL := Lib.hid (proveP_len (nodeZ os) os x.i (by rw [HLO.out]; omega))
                  generalize (proveV os x.i).1 = pi at *
                  generalize (proveV os x.i).2 = pv' at *
                  generalize proveP (nodeZ os) os x.i = pp at *
                  rintro e w5 ⟨pa, pc, rfl, hown5, hq5⟩
                  generalize hpm : pp.length = pm at *
                  have HR7 := Lib.hid (HR6.out.q' hq5)
                  have HSL5 := Lib.hid (Sl.of_own hown5)
                  have HLT5 := Lib.hid (show ∀ g, pa = some g → g.block ≠ gl ∧ g.block < w5.heap.size from fun g hg => by have := hown5.lt g.block (by rw [hg]; rfl); omega)
                  clear hown5 hq5 hpm d0 d1 d2
                  obtain ⟨hgl7, ⟨d0, f0⟩, ⟨d1, f1⟩, ⟨d2, f2⟩⟩ := HR7.out.own.cells k hkl
                  go_wp2_with (fail)
                  go_meet
                  exact ⟨_, HR7.out.put k hkl ⟨pi, pv', pa, pm, pc, pp⟩ ⟨HSL5.out, HRV.out.1, HRV.out.2⟩ HLT5.out HRL.out rfl⟩
                · have h3b : (how.tmod 3 == 0) = false := by simpa using h3
                  have hht : -9223372036854775808 ≤ how.tdiv 3 ∧ how.tdiv 3 ≤ 9223372036854775807 := tdiv3 how WH.out
                  have HTT := Lib.hid hht
                  clear h3
                  go_wp2_with (fail)
                  generalize how.tdiv 3 = hw3 at *
                  refine (rBent_any x.i x.v x.a x.m x.c x.p hw3 by_ _ HX.out.1 (by have := HMZ.out; omega) HX.out.2.1 HX.out.2.2 HTT.out WB.out).mono ?_
                  have HRI := Lib.hid (bentI_rng (bentK hw3 x.m) (bentD by_) x.i HX.out.2.1)
                  have HRV := Lib.hid (bentV_rng (bentK hw3 x.m) (bentD by_) x.v HX.out.2.2)
                  have HRL := Lib.hid (show (bentP (bentK hw3 x.m) (bentD by_) x.p).length ≤ 17 by
                    rw [bentP_len]
                    have h1 := HX.out.1.1
                    have h2 := HMZ.out
                    simp at h1
                    omega)
                  generalize bentI (bentK hw3 x.m) (bentD by_) x.i = pi at *
                  generalize bentV (bentK hw3 x.m) (bentD by_) x.v = pv' at *
                  generalize bentP (bentK hw3 x.m) (bentD by_) x.p = pp at *
                  rintro e w5 ⟨pa, pc, rfl, hown5, hq5⟩
                  generalize hpm : pp.length = pm at *
                  have HR7 := Lib.hid (HR6.out.q' hq5)
                  have HSL5 := Lib.hid (Sl.of_own hown5)
                  have HLT5 := Lib.hid (show ∀ g, pa = some g → g.block ≠ gl ∧ g.block < w5.heap.size from fun g hg => by have := hown5.lt g.block (by rw [hg]; rfl); omega)
                  clear hown5 hq5 hpm d0 d1 d2
                  obtain ⟨hgl7, ⟨d0, f0⟩, ⟨d1, f1⟩, ⟨d2, f2⟩⟩ := HR7.out.own.cells k hkl
                  go_wp2_with (fail)
                  go_meet
                  exact ⟨_, HR7.out.put k hkl ⟨pi, pv', pa, pm, pc, pp⟩ ⟨HSL5.out, HRI.out, HRV.out⟩ HLT5.out HRL.out rfl⟩
              case rest =>
                obtain ⟨L', hrw⟩ := hcut
                have HR8 := Lib.hid hrw
                have HNW' := Lib.hid (npZ_wrong root n L')
                clear hrw HR6
                go_upto_region 18 with (fail)
                go_cut [18, 19] (fun s18 s19 wx => ∃ pv : Option Addr, s18 = .pointer pv ∧ s19 = .int .i64 (wrongE (wrongF root n [] L')) ∧ pv.isNone = wrongF root n [] L' ∧ RejW w wx w3.heap.size (some ⟨gl, 0, none⟩) c lc L' ao no co os)
                case first =>
                  go_wp2_with (fail)
                  refine (mNewPartial_any root n _ c lc L' _ HR8.out.lfs (by omega) (by omega)).mono ?_
                  rintro e w5 ⟨hq5, hm5⟩
                  have HQ5 := Lib.hid (HR8.out.q' hq5)
                  clear hq5
                  cases hz : npZ root n L' with
                  | none =>
                    have HF := Lib.hid (show wrongF root n [] L' = true by rw [← HNW'.out, hz]; rfl)
                    rw [hz] at hm5
                    replace hm5 : e = .returned (.tuple #[.pointer none, .int .i64 22]) := hm5
                    subst hm5
                    clear hz
                    go_wp2
                    go_meet
                    rw [HF.out]
                    exact ⟨none, rfl, rfl, rfl, HQ5.out⟩
                  | some s =>
                    have HF := Lib.hid (show wrongF root n [] L' = false by rw [← HNW'.out, hz]; rfl)
                    rw [hz] at hm5
                    obtain ⟨PB, MC, MN, rfl, _⟩ := hm5
                    clear hz
                    go_wp2
                    go_meet
                    rw [HF.out]
                    exact ⟨some _, rfl, rfl, rfl, HQ5.out⟩
                case rest =>
                  obtain ⟨pv2, rfl, rfl, hpv, hrw⟩ := hcut
                  have HR9 := Lib.hid hrw
                  clear hrw HR8
                  generalize hwf : wrongF root n [] L' = wf2 at *
                  have HWF := Lib.hid hwf
                  clear hwf
                  go_wp2_with (fail)
                  refine (rWrong_any root n _ c lc L' _ HR9.out.lfs (by omega) (by omega)).mono ?_
                  rintro e w6 ⟨rfl, hq6⟩
                  have HR10 := Lib.hid (HR9.out.q' hq6)
                  clear hq6
                  rw [HWF.out]
                  cases pv2 with
                  | none =>
                    obtain rfl : true = wf2 := hpv
                    go_wp2_with (fail)
                    refine (lives11_any _).mono ?_
                    rintro e w7 ⟨rfl, hq7⟩
                    have HQ7 := Lib.hid (HR10.out.q.trans hq7)
                    clear hq7
                    go_wp2
                    go_ret
                    exact ⟨rfl, HQ7.out⟩
                  | some p =>
                    obtain rfl : false = wf2 := hpv
                    go_wp2_with (fail)
                    refine (lives11_any _).mono ?_
                    rintro e w7 ⟨rfl, hq7⟩
                    have HQ7 := Lib.hid (HR10.out.q.trans hq7)
                    clear hq7
                    go_wp2
                    go_ret
                    exact ⟨rfl, HQ7.out⟩
end Go.Proofs.Ytcgnihgebifcjaa
