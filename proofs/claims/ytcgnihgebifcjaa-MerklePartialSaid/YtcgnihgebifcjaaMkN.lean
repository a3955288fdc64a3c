/- Contract: New. -/
import Derived.Test.YtcgnihgebifcjaaMkT
namespace Go.Proofs.Ytcgnihgebifcjaa
open Go Go.RowKit Go.BigFrame

theorem infoU64s : (Try.prog.info? 23).map (fun i => (i.zero, i.size, i.bytes)) = some (some (.slice none 0 0), 1, 24) := by kernel_rfl
theorem infoU64m : (Try.prog.info? 22).map (fun i => (i.zero, i.size, i.bytes)) = some (some (.int .u64 0), 1, 8) := by kernel_rfl
def upF (F : Nat → Nat → Int) (l k : Nat) : List Value := (List.range k).map fun j => .int .u64 (F l j)
theorem upF_succ (F : Nat → Nat → Int) (l k : Nat) : upF F l (k + 1) = upF F l k ++ [.int .u64 (F l k)] := by unfold upF; rw [List.range_succ, List.map_append]; rfl
theorem upF_len (F : Nat → Nat → Int) (l k : Nat) : (upF F l k).length = k := by simp [upF]
theorem P2_cast (h : Nat) : ((P2 h : Nat) : Int) = 2 ^ h := by unfold P2; rw [Int.natCast_pow]; rfl
theorem own_pos1 {w : World} {base : Nat} {E : TypeId} {size n cap : Nat} {a : Option Addr} {cs : List Value} (h : w.ownsRow base E size (.slice a n cap) n cs) : ∀ y, a = some y → base ≤ y.block ∧ y.block < w.heap.size := fun y hy => by
  subst hy
  exact h.lt y.block rfl
theorem P2_hgt (n : Nat) (hn : n ≤ 1000) : P2 (hgt n) ≤ 2000 := by
  rcases Nat.eq_zero_or_pos (hgt n) with h | h
  · rw [h]; decide
  · have h1 := hgt_lt n (by omega) (hgt n - 1) (by omega)
    have h2 := P2_succ (hgt n - 1)
    rw [show hgt n - 1 + 1 = hgt n by omega] at h2
    unfold P2 at h2 ⊢
    omega
def sliceLen : Value → Nat
  | .slice _ n _ => n
  | _ => 0
/-- what New leaves -/
def NewRet (w : World) (n h : Nat) (cells : List Int) (e : Ending) (w' : World) : Prop :=
  Q w w' ∧ ∃ TB CB ca cc va vc B lc, e = .returned (.pointer (some ⟨TB, 0, none⟩)) ∧ NewAt w' TB CB ca cc n h (h + 1) cells va vc B lc ∧ w.heap.size ≤ TB ∧ (0 < n → w.heap.size ≤ CB) ∧ n ≤ cc ∧ cc ≤ maxLen
set_option maxRecDepth 100000 in
set_option maxHeartbeats 4000000 in
theorem mNew_any (a : Option Addr) (n cap : Nat) (cells : List Int) (w : World) (hs : Sl w 1 a n cap (cells.map (Value.int .i64))) (hc : I64s cells) (hn : n ≤ 1000) :
    Calls Try.prog 19 #[.slice a n cap] w (NewRet w n (hgt n) cells) := by
  obtain ⟨i0, hi, hz0, hz1, hz2⟩ := info_parts infoU64m
  obtain ⟨i1, hj, hy0, hy1, hy2⟩ := info_parts infoU64s
  have hlen : cells.length = n := by have := hs.1; simpa using this
  have HS := Lib.hid hs
  have HC := Lib.hid hc
  have HL := Lib.hid hlen
  have HI := Lib.hid hi
  have HJ := Lib.hid hj
  have h17 := hgt_17 n (by omega)
  have hN := P2_hgt n hn
  have hN0 := P2_pos (hgt n)
  clear hs hc hlen hi hj
  go_enter Try.func19, Try.ntmps19
  go_wp2_with (fail)
  refine (cloneInt_any a n cap cells w HS.out (by omega)).mono ?_
  rintro e w1 ⟨b1, cp1, rfl, hown1, hq1⟩
  have HO1 := Lib.hid hown1
  have HC1 := Lib.hid (show n ≤ cp1 ∧ cp1 ≤ maxLen from ⟨(Sl.of_own hown1).2.1, (Sl.of_own hown1).2.2.1⟩)
  have HQ1 := Lib.hid hq1
  clear hown1 hq1
  go_wp2_with (fail)
  refine (mHeight_any n _ (by omega)).mono ?_
  rintro e w2 ⟨rfl, rfl⟩
  have HP := Lib.hid (P2_cast (hgt n))
  have h2p : (2 : Int) ^ hgt n < 2001 := by have := HP.out; omega
  have h2q : (0 : Int) < 2 ^ hgt n := by have := HP.out; omega
  go_wp2_with (fail)
  have HB2 := Lib.hid (Box.new w1 [.slice b1 n cp1, .slice none 0 0] 69)
  have HQ2 := Lib.hid (HQ1.out.alloc (.cells #[.slice b1 n cp1, .slice none 0 0] 69))
  have HO2 := Lib.hid (own_q HO1.out ((Q.refl w1).alloc (.cells #[.slice b1 n cp1, .slice none 0 0] 69)))
  have HP1 := Lib.hid (own_pos1 HO1.out)
  have HZ1 := Lib.hid (World.size_alloc w1 (.cells #[.slice b1 n cp1, .slice none 0 0] 69))
  generalize w1.alloc (.cells #[.slice b1 n cp1, .slice none 0 0] 69) = W2 at *
  rw [← HP.out]
  generalize hH : hgt n = h at *
  have HH := Lib.hid hH
  have HLZ := Lib.hid (show ∀ k, nodeZ cells 0 k = leafZ n k (cells.getD k 0) from fun k => by show leafZ cells.length k _ = _; rw [HL.out])
  clear hH h2p h2q
  generalize hTB : w1.heap.size = TB at *
  have HTB := Lib.hid hTB
  clear hTB
  go_loopw [5, 19] (fun v i wr => ∃ (k cp : Nat) (b : Option Addr), k ≤ P2 h ∧ i = .int .i64 k ∧ v = .slice b k cp ∧ wr.ownsRow W2.heap.size 22 1 (.slice b k cp) k (upF (nodeZ cells) 0 k) ∧ Q W2 wr) (fun _ i _ => P2 h - (intOf i).toNat)
  case atStart => exact ⟨0, 0, none, by omega, rfl, rfl, World.ownsRow_nil _ _ _ _, Q.refl _⟩
  case round =>
    obtain ⟨k, cp, b, hk, rfl, rfl, hown, hq⟩ := hrel
    have HO := Lib.hid hown
    have HQ := Lib.hid hq
    clear hown hq
    by_cases h1 : k < P2 h
    · have HUP := Lib.hid (upF_succ (nodeZ cells) 0 k)
      by_cases h2 : k < n
      · have hkl : k < cells.length := by rw [HL.out]; exact h2
        obtain ⟨v, hv⟩ : ∃ v, cells[k]? = some v := ⟨cells[k], by simp [hkl]⟩
        have hvr := HC.out v (List.mem_of_getElem? hv)
        obtain ⟨g, o, rfl, hg, hcs⟩ := (HS.out.q (HQ2.out.trans HQ.out)).pos (by omega)
        have c0 := hcs k (.int .i64 v) (by rw [List.getElem?_map, hv]; rfl)
        have HE := Lib.hid (show nodeZ cells 0 k = leafZ n k v by rw [HLZ.out, List.getD_eq_getElem?_getD, hv]; rfl)
        clear hcs hv hkl
        go_wp2_with (fail)
        refine (mLeaf_any n k v wr (by omega) (by omega) hvr).mono ?_
        rintro e w3 ⟨rfl, hq3⟩
        have HQ3 := Lib.hid (HQ.out.trans hq3)
        have HO3 := Lib.hid (own_q HO.out hq3)
        have HB3 := Lib.hid HQ3.out.size
        rw [← HE.out]
        clear hq3
        generalize nodeZ cells 0 k = lz at *
        go_wp2_with (at_builtin; refine append_one rfl _ _ 23 rfl W2.heap.size 22 i0 _ 1 8 Try.underlying23 HI.out hz0 hz1 hz2 rfl (by decide) _ k _ rfl HO3.out 1 _ rfl [.int .u64 lz] rfl rfl (by simp [Value.oneCell']) (by omega) (by decide) HB3.out ?_; intro g4 cp4 w4 hown4 hq4)
        go_roundw
        case rel => exact ⟨k + 1, cp4, _, by omega, by go_num, rfl, by rw [HUP.out]; exact hown4, hq4 _ HQ3.out (Nat.le_refl _)⟩
        case measure => simp [intOf]; omega
      · have HE := Lib.hid (show nodeZ cells 0 k = leafZ n k 0 by rw [HLZ.out, List.getD_eq_getElem?_getD, List.getElem?_eq_none (by rw [HL.out]; omega)]; rfl)
        go_wp2_with (fail)
        refine (mLeaf_any n k 0 wr (by omega) (by omega) (by omega)).mono ?_
        rintro e w3 ⟨rfl, hq3⟩
        have HQ3 := Lib.hid (HQ.out.trans hq3)
        have HO3 := Lib.hid (own_q HO.out hq3)
        have HB3 := Lib.hid HQ3.out.size
        rw [← HE.out]
        clear hq3
        generalize nodeZ cells 0 k = lz at *
        go_wp2_with (at_builtin; refine append_one rfl _ _ 23 rfl W2.heap.size 22 i0 _ 1 8 Try.underlying23 HI.out hz0 hz1 hz2 rfl (by decide) _ k _ rfl HO3.out 1 _ rfl [.int .u64 lz] rfl rfl (by simp [Value.oneCell']) (by omega) (by decide) HB3.out ?_; intro g4 cp4 w4 hown4 hq4)
        go_roundw
        case rel => exact ⟨k + 1, cp4, _, by omega, by go_num, rfl, by rw [HUP.out]; exact hown4, hq4 _ HQ3.out (Nat.le_refl _)⟩
        case measure => simp [intOf]; omega
    · have e1 : k = P2 h := by omega
      subst e1
      obtain ⟨G, hGe, hGb, hGl⟩ := own_addr1 HO.out hN0
      subst hGe
      have hBox := box_own HO.out
      rw [show upF (nodeZ cells) 0 (P2 h) = rowF (nodeZ cells) h 0 from rfl] at hBox
      have hcp := (Sl.of_own HO.out).2.1
      have hcm := (Sl.of_own HO.out).2.2.1
      obtain ⟨CB, hCB⟩ : ∃ CB, 0 < n → b1 = some ⟨CB, 0, none⟩ ∧ CB < TB ∧ w.heap.size ≤ CB ∧ Box W2 CB (cells.map (Value.int .i64)) := by
        rcases Nat.eq_zero_or_pos n with h0 | h0
        · exact ⟨0, fun h => by omega⟩
        · obtain ⟨g, he, h2, h3⟩ := own_addr1 HO1.out h0
          subst he
          exact ⟨g, fun _ => ⟨rfl, by rw [← HTB.out]; exact h3, h2, box_own HO2.out⟩⟩
      have H0 := Lib.hid (show NewAt W2 TB CB b1 cp1 n h 0 cells none 0 (fun _ => 0) (fun _ => 0) from
        ⟨HB2.out, World.ownsRow_nil _ _ _ _, (fun j hj => by omega), (fun i j _ hj => by omega), (fun j hj => by omega), fun h0 => ⟨(hCB h0).1, (hCB h0).2.1, (hCB h0).2.2.2⟩⟩)
      have HCB := Lib.hid (fun h0 => (hCB h0).2.2.1)
      have HWQ := Lib.hid (HQ2.out.trans HQ.out)
      have HBX := Lib.hid hBox
      have hGT : W2.heap.size ≤ G := hGb
      clear hCB hBox HO HO1 HO2 HB2
      obtain ⟨hx, c0, c1⟩ : TB < wr.heap.size ∧ wr.cell? ⟨TB, 0, none⟩ = some (.slice b1 n cp1) ∧ wr.cell? ⟨TB, 1, none⟩ = some (.slice none 0 0) := ⟨(H0.out.box.q HQ.out).1, ((H0.out.box.q HQ.out).2 0 _ rfl).1, ((H0.out.box.q HQ.out).2 1 _ rfl).1⟩
      have hne : ¬ (P2 h : Int) < (P2 h : Int) := by omega
      go_wp2_with (at_builtin; refine stopAt ?_)
      refine goOn ?_
      refine wpList_append_sl rfl _ _ 67 rfl (TB + 1) 23 i1 _ 1 24 Try.underlying67 HJ.out hy0 hy1 hy2 rfl (by decide) _ 0 [] rfl (World.ownsRow_nil _ _ _ _) (some ⟨wr.heap.size, 0, none⟩) 1 1 [.slice (some ⟨G, 0, none⟩) (P2 h) cp] rfl (slNew wr [.slice (some ⟨G, 0, none⟩) (P2 h) cp] 23 1 rfl) (by simp [Value.oneCell']) (by omega) (by decide) (by simp; omega) ?_
      intro a5 c5 w5 hown5 hgrow5 hT5
      have H1 := Lib.hid (NewAt.step H0.out HQ.out ((Q.refl wr).alloc _) HBX.out hGT hcp hcm hown5 hgrow5 hT5)
      have hb5 := NewAt.boxAt H0.out (HQ.out.alloc _) hgrow5
      have HQ5 := Lib.hid (((HWQ.out.alloc (.cells #[.slice (some ⟨G, 0, none⟩) (P2 h) cp] 23)).grown hgrow5 (fun k hk => by cases hk)).setCell (p := ⟨TB, 1, none⟩) (show w.heap.size ≤ TB by have := HQ1.out.size; have := HTB.out; omega) (.slice a5 (0 + 1) c5))
      obtain ⟨hb5l, hb5r⟩ := hb5
      obtain ⟨d1, f1⟩ := hb5r 1 _ rfl
      clear hb5r hown5 hgrow5 hT5 c0 c1 hx HBX hne
      go_wp2_with (fail)
      generalize w5.setCell ⟨TB, 1, none⟩ (.slice a5 1 c5) = w6 at *
      have hn1 : n ≤ 1000 := hn
      clear hb5l d1 f1 hGb hGl hGT h1 hk
      go_loopw [5] (fun v wr => ∃ (c : Nat) (va : Option Addr) (vc : Nat) (B lc : Nat → Nat), c ≤ h ∧ v = .slice (some ⟨B c, 0, none⟩) (P2 (h - c)) (lc c) ∧ NewAt wr TB CB b1 cp1 n h (c + 1) cells va vc B lc ∧ Q w wr) (fun v _ => sliceLen v)
      case atStart => exact ⟨0, a5, c5, _, _, by omega, rfl, H1.out, HQ5.out⟩
      case round =>
        obtain ⟨c, va, vc, B, lc, hc, rfl, hN, hq⟩ := hrel
        have HN := Lib.hid hN
        have HQ := Lib.hid hq
        have hlev := hN.lev c (by omega)
        clear hN hq
        by_cases h1 : c < h
        · have hp := P2_succ (h - (c + 1))
          rw [show h - (c + 1) + 1 = h - c by omega] at hp
          have hp0 := P2_pos (h - (c + 1))
          have hpm : P2 (h - c) ≤ 2000 := Nat.le_trans (P2_le (by omega)) hN
          have hgi : (1 : Int) < (P2 (h - c) : Nat) := by omega
          go_wp2_with (fail)
          have HNS := Lib.hid (show ∀ k, nodeZ cells (c + 1) k = pairZ (nodeZ cells c (2 * k)) (nodeZ cells c (2 * k + 1)) from fun k => rfl)
          have HLV := Lib.hid hlev
          have HPP := Lib.hid hp
          have hBc := hlev.1.1
          have hcc1 := hlev.2.1
          have hcc2 := hlev.2.2.1
          unfold maxLen at hcc2
          generalize hM : P2 (h - (c + 1)) = M at *
          generalize hM2 : P2 (h - c) = M2 at *
          have HM := Lib.hid hM
          have HM2 := Lib.hid hM2
          clear hM hM2 hlev
          generalize wr = W7 at *
          go_loopw [8, 9] (fun v i wr => ∃ (k i2 cp : Nat) (b : Option Addr), k ≤ M ∧ i2 = 2 * k ∧ i = .int .i64 i2 ∧ v = .slice b k cp ∧ wr.ownsRow W7.heap.size 22 1 (.slice b k cp) k (upF (nodeZ cells) (c + 1) k) ∧ Q W7 wr) (fun _ i _ => 2 * M - (intOf i).toNat)
          case atStart => exact ⟨0, 0, 0, none, by omega, rfl, rfl, rfl, World.ownsRow_nil _ _ _ _, Q.refl _⟩
          case round =>
            obtain ⟨k, i2, cp8, b, hk, hi2, rfl, rfl, hown, hq⟩ := hrel
            have HO := Lib.hid hown
            have HQ8 := Lib.hid hq
            clear hown hq
            by_cases h3 : k < M
            · have hlt : (i2 : Int) < (M2 : Nat) := by omega
              have HUP := Lib.hid (upF_succ (nodeZ cells) (c + 1) k)
              have HNE := Lib.hid (show nodeZ cells (c + 1) k = pairZ (nodeZ cells c i2) (nodeZ cells c (i2 + 1)) by rw [HNS.out, hi2])
              have HBL := Lib.hid ((HLV.out.1.q HQ8.out).q (Q.drew (Q.refl wr)))
              have HOD := Lib.hid (own_q HO.out (Q.drew (Q.refl wr)))
              have HQD := Lib.hid (HQ8.out.drew)
              have HI2 := Lib.hid hi2
              clear hi2
              go_upto_region 19 with (fail)
              refine wp_region_mixF (F := fun b => W7.heap.size ≤ b) [(0, true), (1, true), (2, true), (3, true), (4, true), (5, true), (6, true), (7, true), (8, true), (9, true), (10, false), (11, false), (12, false), (13, true)] (by kernel_rfl) (by kernel_rfl) (fun _ _ _ _ _ h => h) ?_
              generalize wr.drew = W at *
              have y0 : ∀ y : AfterF (fun b => W7.heap.size ≤ b) W, y.w.cell? ⟨B c, i2, none⟩ = some (.int .u64 (nodeZ cells c i2)) := Box.sF HBL.out (by omega) i2 _ (rowF_at _ _ _ _ (by rw [HM2.out]; omega))
              have y1 : ∀ y : AfterF (fun b => W7.heap.size ≤ b) W, y.w.cell? ⟨B c, i2 + 1, none⟩ = some (.int .u64 (nodeZ cells c (i2 + 1))) := Box.sF HBL.out (by omega) (i2 + 1) _ (rowF_at _ _ _ _ (by rw [HM2.out]; have := HI2.out; omega))
              have hi1 : i2 + 1 < M2 := by have := HI2.out; omega
              generalize nodeZ cells c i2 = xa at *
              generalize nodeZ cells c (i2 + 1) = xb at *
              repeat (refine mixF_val rfl rfl ?_; go_big_quiet_step (fail); refine wpQuiet_nil ?_)
              clear y0 y1
              refine mixF_run rfl rfl ?_
              intro K hK
              go_wp2_with (fail)
              refine (hPair_any xa xb W).mono ?_
              rintro e w8 ⟨rfl, hq8⟩
              refine hK _ _ (QF.of hq8) ?_
              clear hK K
              have HQ9 := Lib.hid (HQD.out.trans hq8)
              have HO9 := Lib.hid (own_q HOD.out hq8)
              have HB9 := Lib.hid HQ9.out.size
              rw [← HNE.out]
              clear hq8
              generalize nodeZ cells (c + 1) k = xn at *
              refine mixF_run rfl rfl ?_
              intro K hK
              go_wp2_with (fail)
              refine hK _ _ (QF.of ((Q.refl w8).alloc _)) ?_
              clear hK K
              refine mixF_run rfl rfl ?_
              intro K hK
              refine wp_append_sl _ _ 23 rfl W7.heap.size 22 i0 _ 1 8 Try.underlying23 HI.out hz0 hz1 hz2 rfl (by decide) _ k _ rfl (own_q HO9.out ((Q.refl w8).alloc _)) (some ⟨w8.heap.size, 0, none⟩) 1 1 [.int .u64 xn] rfl (slNew w8 [.int .u64 xn] 22 1 rfl) (by simp [Value.oneCell']) (by omega) (by decide) (by have := HB9.out; simp; omega) ?_
              intro a9 c9 w9 hown9 hgrow9 _
              have HG9 := Lib.hid (show QF (fun b => W7.heap.size ≤ b) (w8.alloc (.cells #[.int .u64 xn] 22)) w9 from QF.grown hgrow9 (fun i hi => (HO9.out.lt i hi).1))
              refine hK _ _ HG9.out ?_
              clear hK K
              go_frame
              have HQ10 := Lib.hid (QF.q (HQ9.out.alloc _) HG9.out (fun b hb => hb))
              have HO10 := Lib.hid hown9
              clear hown9 hgrow9
              repeat (refine mixF_val rfl rfl ?_; go_big_quiet_step (fail); refine wpQuiet_nil ?_)
              refine mixF_end ?_
              go_wp2
              go_roundw
              case rel => exact ⟨k + 1, i2 + 2, c9, a9, by omega, by have := HI2.out; omega, by go_num, rfl, by rw [HUP.out]; exact HO10.out, HQ10.out⟩
              case measure => simp [intOf]; omega
            · have e8 : k = M := by omega
              subst e8
              have hge : ¬ (i2 : Int) < (M2 : Nat) := by omega
              obtain ⟨G2, hGe, hGb, hGl⟩ := own_addr1 HO.out hp0
              subst hGe
              have hBox := box_own HO.out
              rw [show upF (nodeZ cells) (c + 1) k = rowF (nodeZ cells) h (c + 1) by unfold upF rowF; rw [HM.out]] at hBox
              have hcp8 := (Sl.of_own HO.out).2.1
              have hcm8 := (Sl.of_own HO.out).2.2.1
              have HBX := Lib.hid hBox
              have HRW := Lib.hid (own_q HN.out.row HQ8.out)
              obtain ⟨hx, c0, c1⟩ : TB < wr.heap.size ∧ wr.cell? ⟨TB, 0, none⟩ = some (.slice b1 n cp1) ∧ wr.cell? ⟨TB, 1, none⟩ = some (.slice va (c + 1) vc) := ⟨(HN.out.box.q HQ8.out).1, ((HN.out.box.q HQ8.out).2 0 _ rfl).1, ((HN.out.box.q HQ8.out).2 1 _ rfl).1⟩
              have hw7 := HQ8.out.size
              have htb7 := HN.out.box.1
              clear hBox hk h3
              go_wp2_with (at_builtin; refine stopAt ?_)
              refine goOn ?_
              refine wpList_append_sl rfl _ _ 67 rfl (TB + 1) 23 i1 _ 1 24 Try.underlying67 HJ.out hy0 hy1 hy2 rfl (by decide) _ (c + 1) _ rfl (own_q HRW.out ((Q.refl wr).alloc _)) (some ⟨wr.heap.size, 0, none⟩) 1 1 [.slice (some ⟨G2, 0, none⟩) k cp8] rfl (slNew wr [.slice (some ⟨G2, 0, none⟩) k cp8] 23 1 rfl) (by simp [Value.oneCell']) (by omega) (by decide) (by simp; omega) ?_
              intro a5 c5 w5 hown5 hgrow5 hT5
              have H1 := Lib.hid (NewAt.step HN.out HQ8.out ((Q.refl wr).alloc _) HBX.out hGb (by rw [HM.out]; exact hcp8) hcm8 (by rw [HM.out]; exact hown5) hgrow5 hT5)
              have hb5 := NewAt.boxAt HN.out (HQ8.out.alloc _) hgrow5
              have HQ5 := Lib.hid (((HQ.out.trans HQ8.out).alloc (.cells #[.slice (some ⟨G2, 0, none⟩) k cp8] 23)).grown hgrow5 (fun j hj => by
                have h5 := (HRW.out.lt j hj).1
                have h6 := HQ1.out.size
                have h7 := HTB.out
                omega))
              have HQ6 := Lib.hid (HQ5.out.setCell (p := ⟨TB, 1, none⟩) (show w.heap.size ≤ TB by have := HQ1.out.size; have := HTB.out; omega) (.slice a5 (c + 1 + 1) c5))
              obtain ⟨hb5l, hb5r⟩ := hb5
              obtain ⟨d1, f1⟩ := hb5r 1 _ rfl
              clear hb5r hown5 hgrow5 hT5 c0 c1 hx HBX
              go_wp2
              go_roundw
              case rel => exact ⟨c + 1, a5, c5, _, _, by omega, by simp [HM.out], H1.out, HQ6.out⟩
              case measure => simp [sliceLen]; have := HM2.out; omega
        · have e1 : c = h := by omega
          subst e1
          have h1p : P2 (c - c) = 1 := by rw [Nat.sub_self]; rfl
          rw [h1p]
          have hge : ¬ (1 : Int) < ((1 : Nat) : Int) := by omega
          have hcp1 := HC1.out
          go_wp2
          go_ret
          refine ⟨HQ.out, TB, CB, b1, cp1, va, vc, B, lc, rfl, ?_, ?_, HCB.out, hcp1.1, hcp1.2⟩
          · exact HN.out
          · have := HQ1.out.size; have := HTB.out; omega
end Go.Proofs.Ytcgnihgebifcjaa
