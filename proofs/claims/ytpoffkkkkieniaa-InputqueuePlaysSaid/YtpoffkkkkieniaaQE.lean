/- Contract: Advance. -/
import Derived.Test.YtpoffkkkkieniaaQD
import Derived.Test.YtpoffkkkkieniaaMixS
namespace Go.Proofs.Ytpoffkkkkieniaa
open Go Go.RowKit Go.BigFrame

/-- where the loop stands -/
def AdvRel (B : Nat) (col : Nat → Nat) (s : QS) (now : Int) (w : World) (s' : QS) (wr : World) : Prop :=
  OkS s' ∧ s'.k = s.k ∧ s'.wt = s.wt ∧ advT s' now = advT s now ∧ QDone B col w s' wr
set_option maxRecDepth 100000 in
set_option maxHeartbeats 2000000 in
theorem qAdvance_any (B : Nat) (col : Nat → Nat) (s : QS) (now : Int) (w : World) (hQ : Que w B col s) (ok : OkS s) (hn : -1000000 ≤ now ∧ now ≤ 1000000) :
    Calls Try.prog 14 #[.pointer (some ⟨B, 0, none⟩), .int .i64 now] w fun e w' => e = .returned (.int .i64 ((advT s now).tks.length - s.tks.length)) ∧ QDone B col w (advT s now) w' := by
  have HQ := Lib.hid hQ
  have HOK := Lib.hid ok
  obtain ⟨MB, ta, tc, cs, mp, hx⟩ := hQ
  have h3 := (hx.box.2 3 _ rfl).1
  have hlt := hx.box.1
  have h6 := ok.n6000
  clear hx ok
  go_enter Try.func14, Try.ntmps14
  go_wp2_with (fail)
  clear h3 hlt
  go_loopw [6] (fun v wr => ∃ s', v = .int .i64 s'.tks.length ∧ AdvRel B col s now w s' wr) (fun v _ => 6000 - (intOf v).toNat)
  case atStart => exact ⟨s, rfl, HOK.out, rfl, rfl, rfl, QDone.same HQ.out (Q.refl _)⟩
  case round =>
    obtain ⟨s', rfl, hrel⟩ := hrel
    have HR := Lib.hid hrel
    clear hrel
    have h6' := HR.out.1.n6000
    by_cases hl : s'.tks.length < 6000
    · obtain ⟨col1, ⟨MB1, ta1, tc1, cs1, mp1, hx1⟩, he1, hqf1⟩ := HR.out.2.2.2.2
      have HX1 := Lib.hid hx1
      have HE1 := Lib.hid he1
      have HF1 := Lib.hid hqf1
      have hlk := hx1.look s'.tks.length (by omega)
      have c2 := (hx1.box.2 2 _ rfl).1
      have hlt := hx1.box.1
      clear hx1 he1 hqf1
      have hk8 := HR.out.1.k8
      have hk1 := HR.out.1.k1
      have hwt8 := HR.out.1.wt8
      have HL8 := Lib.hid (HR.out.1.len s'.tks.length)
      have hc8 : cntR (s'.acc s'.tks.length) ≤ 8 := by have := cntR_le (s'.acc s'.tks.length); rw [HL8.out] at this; exact this
      have hsh : (rowP (mp1 s'.tks.length)).getD (.pointer none) = .pointer ((mp1 s'.tks.length).map fun b => ⟨b, 0, none⟩) := by
        cases mp1 s'.tks.length <;> rfl
      rw [hsh] at hlk
      clear hsh
      generalize hrv : (mp1 s'.tks.length).map (fun b => (⟨b, 0, none⟩ : Addr)) = rv at *
      have HRV := Lib.hid hrv
      clear hrv
      go_upto_if 28 with (fail)
      go_cut [7] (fun s7 wx => ∃ R, s7 = .pointer (some ⟨R, 0, none⟩) ∧ Box wx R (rowC (s'.acc s'.tks.length)) ∧ Q wr wx ∧ R ≠ MB1)
      case first =>
        cases hm : mp1 s'.tks.length with
        | some R =>
          obtain rfl : some ⟨R, 0, none⟩ = rv := by have h := HRV.out; rw [hm] at h; exact h
          go_wp2
          go_meet
          exact ⟨R, rfl, (HX1.out.row _ R hm).1, Q.refl _, fun e => by have h1 := (HX1.out.row _ R hm).2; have h2 := HX1.out.cM; rw [e] at h1; omega⟩
        | none =>
          obtain rfl : none = rv := by have h := HRV.out; rw [hm] at h; exact h
          have HN := Lib.hid (HX1.out.nn _ hm (Int.le_refl _))
          have HRB := Lib.hid (Box.new wr (rowC none8) 71)
          go_wp2
          go_meet
          rw [HN.out]
          exact ⟨_, rfl, HRB.out, (Q.refl wr).alloc _, fun e => by have := HX1.out.lt MB1 (by rw [HX1.out.cM]; decide); omega⟩
      case rest =>
        obtain ⟨R, rfl, hRc, hQc, hRM⟩ := hcut
        have HRM := Lib.hid hRM
        clear hRM
        have HXc := Lib.hid (HX1.out.q hQc)
        have HRc := Lib.hid hRc
        have HQc := Lib.hid hQc
        have c0 := (HXc.out.box.2 0 _ rfl).1
        have c1 := (HXc.out.box.2 1 _ rfl).1
        have r4 := (hRc.2 _ _ (rowC_n _ HL8.out)).1
        have hRl := hRc.1
        have hltc := HXc.out.box.1
        clear hRc hQc hlk c2 hlt
        go_upto_region 8 with (fail)
        go_cut [49] (fun s49 wx => s49 = .bool (!(due s' now)) ∧ Q wc wx)
        case first =>
          have HD := Lib.hid (show due s' now = (decide (s'.k ≤ cntR (s'.acc s'.tks.length)) || decide ((s'.tks.length : Int) + s'.wt ≤ now)) by unfold due; rw [compl_cnt HR.out.1])
          by_cases hc : cntR (s'.acc s'.tks.length) < s'.k
          · by_cases hw : now < (s'.tks.length : Int) + s'.wt
            · have HE := Lib.hid (show due s' now = false by rw [HD.out, decide_eq_false (by omega), decide_eq_false (by omega)]; rfl)
              go_quiet (fail)
              go_wp2
              go_meet
              rw [HE.out]
              exact ⟨rfl, (Q.refl wc).drewN _⟩
            · have HE := Lib.hid (show due s' now = true by rw [HD.out, decide_eq_true (show (s'.tks.length : Int) + s'.wt ≤ now by omega), Bool.or_true])
              have hw' : decide (now < (s'.tks.length : Int) + s'.wt) = false := by simpa using hw
              go_quiet (fail)
              go_wp2
              go_meet
              rw [HE.out]
              exact ⟨rfl, (Q.refl wc).drewN _⟩
          · have HE := Lib.hid (show due s' now = true by rw [HD.out, decide_eq_true (show s'.k ≤ _ by omega)]; rfl)
            have hc' : decide (cntR (s'.acc s'.tks.length) < s'.k) = false := by simpa using hc
            go_quiet (fail)
            go_wp2
            go_meet
            rw [HE.out]
            exact ⟨rfl, (Q.refl wc).drewN _⟩
        case rest =>
          obtain ⟨rfl, hQ2⟩ := hcut
          generalize hdd : due s' now = dd at *
          have HDD := Lib.hid hdd
          have HX2 := Lib.hid (HXc.out.q hQ2)
          have HR2 := Lib.hid (Box.q HRc.out hQ2)
          have HQ2 := Lib.hid (HQc.out.trans hQ2)
          clear hdd hQ2 c0 c1 r4 hRl hltc HXc HRc HQc
          cases dd with
          | false =>
            have HE := Lib.hid (show advT s now = s' by rw [← HR.out.2.2.2.1]; exact advT_not HDD.out)
            have c3 := (HX2.out.box.2 3 _ rfl).1
            have hlt := HX2.out.box.1
            go_wp2
            go_ret
            rw [HE.out]
            exact ⟨rfl, QDone.trans HE1.out HF1.out (QDone.same ⟨MB1, ta1, tc1, cs1, mp1, HX1.out⟩ HQ2.out)⟩
          | true =>
            have HA := Lib.hid (show advT (fixT s') now = advT s now by rw [← HR.out.2.2.2.1, advT_due hl HDD.out])
            have c2 := (HX2.out.box.2 2 _ rfl).1
            have hlt := HX2.out.box.1
            go_wp2_with (at_delete; refine stopAt ?_)
            refine goOn ?_
            refine wpList_drop rfl _ _ 59 rfl keyedInt Try.underlying59 kI_inj (s'.tks.length : Int) (keyInt _ (by omega)) rfl rfl HX2.out.map ?_
            intro w3 hm3 hq3 hs3
            go_frame
            have HX3 := Lib.hid (HX2.out.drop _ hq3 hm3)
            have HR3 := Lib.hid (Box.qf HR2.out hq3 HRM.out)
            have HF3 := Lib.hid (show QF (colF col) w w3 from (HF1.out.trans (QF.of (F := fun _ => False) HQ2.out) (fun _ e => e.elim)).trans hq3 (fun i e => ext_new HE1.out i (by rw [e]; show col1 MB1 ≠ 0; rw [HX1.out.cM]; decide)))
            clear hm3 hq3 hs3 c2 hlt
            go_upto_region 10 with (fail)
            go_cut [8] (fun s8 wx => ∃ FB gA cA gB, s8 = .pointer (some ⟨FB, 0, none⟩) ∧ Made s' w3 0 FB gA cA gB wx)
            case first =>
              refine wp_region_tree (fun w'' => ∃ x : After w3.drew, w'' = x.w) (.val 0 (.val 1 (.val 2 (.val 3 (.val 4 (.val 5 (.val 6 (.val 7 (.val 9 (.val 10 (.val 11 (.val 12 (.three 8 (.two 13 (.val 14 (.one 15 (.one 16 (.fin)))) 15 (.one 13 (.val 14 (.one 16 (.fin))))) 13 (.two 8 (.val 14 (.one 15 (.one 16 (.fin)))) 15 (.one 8 (.val 14 (.one 16 (.fin))))) 15 (.two 8 (.one 13 (.val 14 (.one 16 (.fin)))) 13 (.one 8 (.val 14 (.one 16 (.fin)))))))))))))))))) (by kernel_rfl) (by kernel_rfl) (fun _ _ _ _ _ h => h) ⟨⟨_, Q.refl _⟩, rfl⟩ ?_
              have SLC := Lib.hid (Sl.q (sl_rowC HL8.out s'.k hk8 HR3.out) (Q.refl w3).drew)
              rw [← inList_zero] at SLC
              have HXW := Lib.hid (HX3.out.q (Q.refl w3).drew)
              have HW := Lib.hid (Q.drew (Q.refl w3))
              have hmk : ∀ w : World, (Instr.makeSlice 50 (.int .i64 s'.k) (.int .i64 s'.k)).run Try.prog w = .ok (.slice (some ⟨w.heap.size, 0, none⟩) s'.k s'.k) (w.alloc (.cells (Array.replicate s'.k (Value.bool false)) 4)) := fun w => mkBools w s'.k (by omega)
              have HB0 : ∃ b0, Hid (b0 = hsz w3.drew ∧ b0 = hsz w3) := ⟨_, Lib.hid ⟨rfl, rfl⟩⟩
              obtain ⟨b0, HB0⟩ := HB0
              generalize w3.drew = W at *
              have HQW := Lib.hid (Q.refl W)
              have c0 : ∀ x : After W, x.w.cell? ⟨B, 0, none⟩ = some (.int .i64 s'.k) := Box.sf HXW.out.box 0 _ rfl
              have k0i : (0 : Int) ≤ (s'.k : Int) := by omega
              have k8i : (s'.k : Int) ≤ 8 := by omega
              repeat (first | (refine tree_val rfl rfl ?_; go_big_quiet_step (fail); refine wpQuiet_nil ?_) | (refine tree_nil rfl rfl rfl ?_; go_big_quiet_step (fail); refine wpQuiet_nil ?_))
              clear c0
              refine tree_three ?_ ?_ ?_
              · refine tree_one rfl rfl ?_
                intro K hK
                go_wp2_with (fail)
                refine (cloneIn_any (some ⟨R, 0, none⟩) s'.k 8 (inList s' 0) _ (Sl.q SLC.out HQW.out) (by omega)).mono ?_
                rintro e wC ⟨aC, cC, rfl, hoC, hqC⟩
                obtain ⟨gA, rfl, _, _⟩ := own_addr1 hoC hk1
                refine hK _ _ ⟨⟨_, HQW.out.trans hqC⟩, rfl⟩ ?_
                clear hK K
                have hqwC := hqC
                have hc0 := Lib.hid (own_mono hoC (hsz_le HB0.out.1 HQW.out))
                clear hoC hqC
                have HQwC := Lib.hid (HQW.out.trans hqwC)
                have HCwC := hc0
                clear hc0
                clear hqwC
                refine tree_two ?_ ?_
                · refine tree_one rfl rfl ?_
                  intro K hK
                  go_wp2_with (fail)
                  refine hK _ _ ⟨⟨_, HQwC.out.alloc _⟩, rfl⟩ ?_
                  clear hK K
                  have hqwMC := (Q.refl wC).alloc (.cells (Array.replicate s'.k (Value.bool false)) 4)
                  have hc0 : Hid ((wC.alloc (.cells (Array.replicate s'.k (Value.bool false)) 4)).ownsRow b0 4 1 (.slice (some ⟨wC.heap.size, 0, none⟩) s'.k s'.k) s'.k (List.replicate s'.k (Value.bool false))) := Lib.hid (own_repl wC _ s'.k (by omega) (hsz_le HB0.out.1 HQwC.out))
                  generalize wC.alloc (.cells (Array.replicate s'.k (Value.bool false)) 4) = wMC at *
                  generalize wC.heap.size = gB at *
                  have HQwMC := Lib.hid (HQwC.out.trans hqwMC)
                  have HMwMC := hc0
                  clear hc0
                  have HCwMC := Lib.hid (own_q HCwC.out hqwMC)
                  clear HCwC
                  clear hqwMC
                  refine tree_val rfl rfl ?_; go_big_quiet_step (fail); refine wpQuiet_nil ?_
                  refine tree_one rfl rfl ?_
                  intro K hK
                  go_wp2_with (fail)
                  refine hK _ _ ⟨⟨_, HQwMC.out.alloc _⟩, rfl⟩ ?_
                  clear hK K
                  have hqwACM := (Q.refl wMC).alloc (.cells #[.slice none 0 0, .slice none 0 0] 74)
                  have hc0 : Hid (Box (wMC.alloc (.cells #[.slice none 0 0, .slice none 0 0] 74)) wMC.heap.size [.slice none 0 0, .slice none 0 0] ∧ Typed (wMC.alloc (.cells #[.slice none 0 0, .slice none 0 0] 74)) wMC.heap.size 74 ∧ b0 ≤ wMC.heap.size) := Lib.hid ⟨Box.new wMC _ 74, Typed.new wMC _ _, hsz_le HB0.out.1 HQwMC.out⟩
                  generalize wMC.alloc (.cells #[.slice none 0 0, .slice none 0 0] 74) = wACM at *
                  generalize wMC.heap.size = FB at *
                  have HQwACM := Lib.hid (HQwMC.out.trans hqwACM)
                  have HAwACM := hc0
                  clear hc0
                  have HCwACM := Lib.hid (own_q HCwMC.out hqwACM)
                  clear HCwMC
                  have HMwACM := Lib.hid (own_q HMwMC.out hqwACM)
                  clear HMwMC
                  clear hqwACM
                  have f0 := (HAwACM.out.1.2 0 _ rfl)
                  have f1 := (HAwACM.out.1.2 1 _ rfl)
                  have g0 := f0.1
                  have g0' := f0.2
                  have g1 := f1.1
                  have g1' := f1.2
                  have hFl := HAwACM.out.1.1
                  clear f0 f1
                  refine tree_one rfl rfl ?_
                  intro K hK
                  go_wp2_with (fail)
                  refine hK _ _ ⟨⟨_, (HQwACM.out.setCell (p := ⟨FB, 0, none⟩) (hsz_ge HB0.out.1 HAwACM.out.2.2) _).setCell (p := ⟨FB, 1, none⟩) (hsz_ge HB0.out.1 HAwACM.out.2.2) _⟩, rfl⟩ ?_
                  clear hK K g0 g0' g1 g1' hFl
                  refine tree_end ?_
                  go_wp2
                  go_meet
                  exact advMade s' HB0.out HW.out HQwACM.out HCwACM.out HMwACM.out HAwACM.out.1 HAwACM.out.2.1 HAwACM.out.2.2
                · refine tree_one rfl rfl ?_
                  intro K hK
                  go_wp2_with (fail)
                  refine hK _ _ ⟨⟨_, HQwC.out.alloc _⟩, rfl⟩ ?_
                  clear hK K
                  have hqwAC := (Q.refl wC).alloc (.cells #[.slice none 0 0, .slice none 0 0] 74)
                  have hc0 : Hid (Box (wC.alloc (.cells #[.slice none 0 0, .slice none 0 0] 74)) wC.heap.size [.slice none 0 0, .slice none 0 0] ∧ Typed (wC.alloc (.cells #[.slice none 0 0, .slice none 0 0] 74)) wC.heap.size 74 ∧ b0 ≤ wC.heap.size) := Lib.hid ⟨Box.new wC _ 74, Typed.new wC _ _, hsz_le HB0.out.1 HQwC.out⟩
                  generalize wC.alloc (.cells #[.slice none 0 0, .slice none 0 0] 74) = wAC at *
                  generalize wC.heap.size = FB at *
                  have HQwAC := Lib.hid (HQwC.out.trans hqwAC)
                  have HAwAC := hc0
                  clear hc0
                  have HCwAC := Lib.hid (own_q HCwC.out hqwAC)
                  clear HCwC
                  clear hqwAC
                  refine tree_one rfl rfl ?_
                  intro K hK
                  go_wp2_with (fail)
                  refine hK _ _ ⟨⟨_, HQwAC.out.alloc _⟩, rfl⟩ ?_
                  clear hK K
                  have hqwMCA := (Q.refl wAC).alloc (.cells (Array.replicate s'.k (Value.bool false)) 4)
                  have hc0 : Hid ((wAC.alloc (.cells (Array.replicate s'.k (Value.bool false)) 4)).ownsRow b0 4 1 (.slice (some ⟨wAC.heap.size, 0, none⟩) s'.k s'.k) s'.k (List.replicate s'.k (Value.bool false))) := Lib.hid (own_repl wAC _ s'.k (by omega) (hsz_le HB0.out.1 HQwAC.out))
                  generalize wAC.alloc (.cells (Array.replicate s'.k (Value.bool false)) 4) = wMCA at *
                  generalize wAC.heap.size = gB at *
                  have HQwMCA := Lib.hid (HQwAC.out.trans hqwMCA)
                  have HMwMCA := hc0
                  clear hc0
                  have HCwMCA := Lib.hid (own_q HCwAC.out hqwMCA)
                  clear HCwAC
                  have HAwMCA := Lib.hid (show Box wMCA FB [.slice none 0 0, .slice none 0 0] ∧ Typed wMCA FB 74 ∧ b0 ≤ FB from ⟨Box.q HAwAC.out.1 hqwMCA, Typed.q HAwAC.out.2.1 hqwMCA, HAwAC.out.2.2⟩)
                  clear HAwAC
                  clear hqwMCA
                  refine tree_val rfl rfl ?_; go_big_quiet_step (fail); refine wpQuiet_nil ?_
                  have f0 := (HAwMCA.out.1.2 0 _ rfl)
                  have f1 := (HAwMCA.out.1.2 1 _ rfl)
                  have g0 := f0.1
                  have g0' := f0.2
                  have g1 := f1.1
                  have g1' := f1.2
                  have hFl := HAwMCA.out.1.1
                  clear f0 f1
                  refine tree_one rfl rfl ?_
                  intro K hK
                  go_wp2_with (fail)
                  refine hK _ _ ⟨⟨_, (HQwMCA.out.setCell (p := ⟨FB, 0, none⟩) (hsz_ge HB0.out.1 HAwMCA.out.2.2) _).setCell (p := ⟨FB, 1, none⟩) (hsz_ge HB0.out.1 HAwMCA.out.2.2) _⟩, rfl⟩ ?_
                  clear hK K g0 g0' g1 g1' hFl
                  refine tree_end ?_
                  go_wp2
                  go_meet
                  exact advMade s' HB0.out HW.out HQwMCA.out HCwMCA.out HMwMCA.out HAwMCA.out.1 HAwMCA.out.2.1 HAwMCA.out.2.2
              · refine tree_one rfl rfl ?_
                intro K hK
                go_wp2_with (fail)
                refine hK _ _ ⟨⟨_, HQW.out.alloc _⟩, rfl⟩ ?_
                clear hK K
                have hqwM := (Q.refl W).alloc (.cells (Array.replicate s'.k (Value.bool false)) 4)
                have hc0 : Hid ((W.alloc (.cells (Array.replicate s'.k (Value.bool false)) 4)).ownsRow b0 4 1 (.slice (some ⟨W.heap.size, 0, none⟩) s'.k s'.k) s'.k (List.replicate s'.k (Value.bool false))) := Lib.hid (own_repl W _ s'.k (by omega) (hsz_le HB0.out.1 HQW.out))
                generalize W.alloc (.cells (Array.replicate s'.k (Value.bool false)) 4) = wM at *
                generalize W.heap.size = gB at *
                have HQwM := Lib.hid (HQW.out.trans hqwM)
                have HMwM := hc0
                clear hc0
                clear hqwM
                refine tree_two ?_ ?_
                · refine tree_one rfl rfl ?_
                  intro K hK
                  go_wp2_with (fail)
                  refine (cloneIn_any (some ⟨R, 0, none⟩) s'.k 8 (inList s' 0) _ (Sl.q SLC.out HQwM.out) (by omega)).mono ?_
                  rintro e wCM ⟨aC, cC, rfl, hoC, hqC⟩
                  obtain ⟨gA, rfl, _, _⟩ := own_addr1 hoC hk1
                  refine hK _ _ ⟨⟨_, HQwM.out.trans hqC⟩, rfl⟩ ?_
                  clear hK K
                  have hqwCM := hqC
                  have hc0 := Lib.hid (own_mono hoC (hsz_le HB0.out.1 HQwM.out))
                  clear hoC hqC
                  have HQwCM := Lib.hid (HQwM.out.trans hqwCM)
                  have HCwCM := hc0
                  clear hc0
                  have HMwCM := Lib.hid (own_q HMwM.out hqwCM)
                  clear HMwM
                  clear hqwCM
                  refine tree_val rfl rfl ?_; go_big_quiet_step (fail); refine wpQuiet_nil ?_
                  refine tree_one rfl rfl ?_
                  intro K hK
                  go_wp2_with (fail)
                  refine hK _ _ ⟨⟨_, HQwCM.out.alloc _⟩, rfl⟩ ?_
                  clear hK K
                  have hqwAMC := (Q.refl wCM).alloc (.cells #[.slice none 0 0, .slice none 0 0] 74)
                  have hc0 : Hid (Box (wCM.alloc (.cells #[.slice none 0 0, .slice none 0 0] 74)) wCM.heap.size [.slice none 0 0, .slice none 0 0] ∧ Typed (wCM.alloc (.cells #[.slice none 0 0, .slice none 0 0] 74)) wCM.heap.size 74 ∧ b0 ≤ wCM.heap.size) := Lib.hid ⟨Box.new wCM _ 74, Typed.new wCM _ _, hsz_le HB0.out.1 HQwCM.out⟩
                  generalize wCM.alloc (.cells #[.slice none 0 0, .slice none 0 0] 74) = wAMC at *
                  generalize wCM.heap.size = FB at *
                  have HQwAMC := Lib.hid (HQwCM.out.trans hqwAMC)
                  have HAwAMC := hc0
                  clear hc0
                  have HMwAMC := Lib.hid (own_q HMwCM.out hqwAMC)
                  clear HMwCM
                  have HCwAMC := Lib.hid (own_q HCwCM.out hqwAMC)
                  clear HCwCM
                  clear hqwAMC
                  have f0 := (HAwAMC.out.1.2 0 _ rfl)
                  have f1 := (HAwAMC.out.1.2 1 _ rfl)
                  have g0 := f0.1
                  have g0' := f0.2
                  have g1 := f1.1
                  have g1' := f1.2
                  have hFl := HAwAMC.out.1.1
                  clear f0 f1
                  refine tree_one rfl rfl ?_
                  intro K hK
                  go_wp2_with (fail)
                  refine hK _ _ ⟨⟨_, (HQwAMC.out.setCell (p := ⟨FB, 0, none⟩) (hsz_ge HB0.out.1 HAwAMC.out.2.2) _).setCell (p := ⟨FB, 1, none⟩) (hsz_ge HB0.out.1 HAwAMC.out.2.2) _⟩, rfl⟩ ?_
                  clear hK K g0 g0' g1 g1' hFl
                  refine tree_end ?_
                  go_wp2
                  go_meet
                  exact advMade s' HB0.out HW.out HQwAMC.out HCwAMC.out HMwAMC.out HAwAMC.out.1 HAwAMC.out.2.1 HAwAMC.out.2.2
                · refine tree_one rfl rfl ?_
                  intro K hK
                  go_wp2_with (fail)
                  refine hK _ _ ⟨⟨_, HQwM.out.alloc _⟩, rfl⟩ ?_
                  clear hK K
                  have hqwAM := (Q.refl wM).alloc (.cells #[.slice none 0 0, .slice none 0 0] 74)
                  have hc0 : Hid (Box (wM.alloc (.cells #[.slice none 0 0, .slice none 0 0] 74)) wM.heap.size [.slice none 0 0, .slice none 0 0] ∧ Typed (wM.alloc (.cells #[.slice none 0 0, .slice none 0 0] 74)) wM.heap.size 74 ∧ b0 ≤ wM.heap.size) := Lib.hid ⟨Box.new wM _ 74, Typed.new wM _ _, hsz_le HB0.out.1 HQwM.out⟩
                  generalize wM.alloc (.cells #[.slice none 0 0, .slice none 0 0] 74) = wAM at *
                  generalize wM.heap.size = FB at *
                  have HQwAM := Lib.hid (HQwM.out.trans hqwAM)
                  have HAwAM := hc0
                  clear hc0
                  have HMwAM := Lib.hid (own_q HMwM.out hqwAM)
                  clear HMwM
                  clear hqwAM
                  refine tree_one rfl rfl ?_
                  intro K hK
                  go_wp2_with (fail)
                  refine (cloneIn_any (some ⟨R, 0, none⟩) s'.k 8 (inList s' 0) _ (Sl.q SLC.out HQwAM.out) (by omega)).mono ?_
                  rintro e wCMA ⟨aC, cC, rfl, hoC, hqC⟩
                  obtain ⟨gA, rfl, _, _⟩ := own_addr1 hoC hk1
                  refine hK _ _ ⟨⟨_, HQwAM.out.trans hqC⟩, rfl⟩ ?_
                  clear hK K
                  have hqwCMA := hqC
                  have hc0 := Lib.hid (own_mono hoC (hsz_le HB0.out.1 HQwAM.out))
                  clear hoC hqC
                  have HQwCMA := Lib.hid (HQwAM.out.trans hqwCMA)
                  have HCwCMA := hc0
                  clear hc0
                  have HMwCMA := Lib.hid (own_q HMwAM.out hqwCMA)
                  clear HMwAM
                  have HAwCMA := Lib.hid (show Box wCMA FB [.slice none 0 0, .slice none 0 0] ∧ Typed wCMA FB 74 ∧ b0 ≤ FB from ⟨Box.q HAwAM.out.1 hqwCMA, Typed.q HAwAM.out.2.1 hqwCMA, HAwAM.out.2.2⟩)
                  clear HAwAM
                  clear hqwCMA
                  refine tree_val rfl rfl ?_; go_big_quiet_step (fail); refine wpQuiet_nil ?_
                  have f0 := (HAwCMA.out.1.2 0 _ rfl)
                  have f1 := (HAwCMA.out.1.2 1 _ rfl)
                  have g0 := f0.1
                  have g0' := f0.2
                  have g1 := f1.1
                  have g1' := f1.2
                  have hFl := HAwCMA.out.1.1
                  clear f0 f1
                  refine tree_one rfl rfl ?_
                  intro K hK
                  go_wp2_with (fail)
                  refine hK _ _ ⟨⟨_, (HQwCMA.out.setCell (p := ⟨FB, 0, none⟩) (hsz_ge HB0.out.1 HAwCMA.out.2.2) _).setCell (p := ⟨FB, 1, none⟩) (hsz_ge HB0.out.1 HAwCMA.out.2.2) _⟩, rfl⟩ ?_
                  clear hK K g0 g0' g1 g1' hFl
                  refine tree_end ?_
                  go_wp2
                  go_meet
                  exact advMade s' HB0.out HW.out HQwCMA.out HCwCMA.out HMwCMA.out HAwCMA.out.1 HAwCMA.out.2.1 HAwCMA.out.2.2
              · refine tree_one rfl rfl ?_
                intro K hK
                go_wp2_with (fail)
                refine hK _ _ ⟨⟨_, HQW.out.alloc _⟩, rfl⟩ ?_
                clear hK K
                have hqwA := (Q.refl W).alloc (.cells #[.slice none 0 0, .slice none 0 0] 74)
                have hc0 : Hid (Box (W.alloc (.cells #[.slice none 0 0, .slice none 0 0] 74)) W.heap.size [.slice none 0 0, .slice none 0 0] ∧ Typed (W.alloc (.cells #[.slice none 0 0, .slice none 0 0] 74)) W.heap.size 74 ∧ b0 ≤ W.heap.size) := Lib.hid ⟨Box.new W _ 74, Typed.new W _ _, hsz_le HB0.out.1 HQW.out⟩
                generalize W.alloc (.cells #[.slice none 0 0, .slice none 0 0] 74) = wA at *
                generalize W.heap.size = FB at *
                have HQwA := Lib.hid (HQW.out.trans hqwA)
                have HAwA := hc0
                clear hc0
                clear hqwA
                refine tree_two ?_ ?_
                · refine tree_one rfl rfl ?_
                  intro K hK
                  go_wp2_with (fail)
                  refine (cloneIn_any (some ⟨R, 0, none⟩) s'.k 8 (inList s' 0) _ (Sl.q SLC.out HQwA.out) (by omega)).mono ?_
                  rintro e wCA ⟨aC, cC, rfl, hoC, hqC⟩
                  obtain ⟨gA, rfl, _, _⟩ := own_addr1 hoC hk1
                  refine hK _ _ ⟨⟨_, HQwA.out.trans hqC⟩, rfl⟩ ?_
                  clear hK K
                  have hqwCA := hqC
                  have hc0 := Lib.hid (own_mono hoC (hsz_le HB0.out.1 HQwA.out))
                  clear hoC hqC
                  have HQwCA := Lib.hid (HQwA.out.trans hqwCA)
                  have HCwCA := hc0
                  clear hc0
                  have HAwCA := Lib.hid (show Box wCA FB [.slice none 0 0, .slice none 0 0] ∧ Typed wCA FB 74 ∧ b0 ≤ FB from ⟨Box.q HAwA.out.1 hqwCA, Typed.q HAwA.out.2.1 hqwCA, HAwA.out.2.2⟩)
                  clear HAwA
                  clear hqwCA
                  refine tree_one rfl rfl ?_
                  intro K hK
                  go_wp2_with (fail)
                  refine hK _ _ ⟨⟨_, HQwCA.out.alloc _⟩, rfl⟩ ?_
                  clear hK K
                  have hqwMAC := (Q.refl wCA).alloc (.cells (Array.replicate s'.k (Value.bool false)) 4)
                  have hc0 : Hid ((wCA.alloc (.cells (Array.replicate s'.k (Value.bool false)) 4)).ownsRow b0 4 1 (.slice (some ⟨wCA.heap.size, 0, none⟩) s'.k s'.k) s'.k (List.replicate s'.k (Value.bool false))) := Lib.hid (own_repl wCA _ s'.k (by omega) (hsz_le HB0.out.1 HQwCA.out))
                  generalize wCA.alloc (.cells (Array.replicate s'.k (Value.bool false)) 4) = wMAC at *
                  generalize wCA.heap.size = gB at *
                  have HQwMAC := Lib.hid (HQwCA.out.trans hqwMAC)
                  have HMwMAC := hc0
                  clear hc0
                  have HAwMAC := Lib.hid (show Box wMAC FB [.slice none 0 0, .slice none 0 0] ∧ Typed wMAC FB 74 ∧ b0 ≤ FB from ⟨Box.q HAwCA.out.1 hqwMAC, Typed.q HAwCA.out.2.1 hqwMAC, HAwCA.out.2.2⟩)
                  clear HAwCA
                  have HCwMAC := Lib.hid (own_q HCwCA.out hqwMAC)
                  clear HCwCA
                  clear hqwMAC
                  refine tree_val rfl rfl ?_; go_big_quiet_step (fail); refine wpQuiet_nil ?_
                  have f0 := (HAwMAC.out.1.2 0 _ rfl)
                  have f1 := (HAwMAC.out.1.2 1 _ rfl)
                  have g0 := f0.1
                  have g0' := f0.2
                  have g1 := f1.1
                  have g1' := f1.2
                  have hFl := HAwMAC.out.1.1
                  clear f0 f1
                  refine tree_one rfl rfl ?_
                  intro K hK
                  go_wp2_with (fail)
                  refine hK _ _ ⟨⟨_, (HQwMAC.out.setCell (p := ⟨FB, 0, none⟩) (hsz_ge HB0.out.1 HAwMAC.out.2.2) _).setCell (p := ⟨FB, 1, none⟩) (hsz_ge HB0.out.1 HAwMAC.out.2.2) _⟩, rfl⟩ ?_
                  clear hK K g0 g0' g1 g1' hFl
                  refine tree_end ?_
                  go_wp2
                  go_meet
                  exact advMade s' HB0.out HW.out HQwMAC.out HCwMAC.out HMwMAC.out HAwMAC.out.1 HAwMAC.out.2.1 HAwMAC.out.2.2
                · refine tree_one rfl rfl ?_
                  intro K hK
                  go_wp2_with (fail)
                  refine hK _ _ ⟨⟨_, HQwA.out.alloc _⟩, rfl⟩ ?_
                  clear hK K
                  have hqwMA := (Q.refl wA).alloc (.cells (Array.replicate s'.k (Value.bool false)) 4)
                  have hc0 : Hid ((wA.alloc (.cells (Array.replicate s'.k (Value.bool false)) 4)).ownsRow b0 4 1 (.slice (some ⟨wA.heap.size, 0, none⟩) s'.k s'.k) s'.k (List.replicate s'.k (Value.bool false))) := Lib.hid (own_repl wA _ s'.k (by omega) (hsz_le HB0.out.1 HQwA.out))
                  generalize wA.alloc (.cells (Array.replicate s'.k (Value.bool false)) 4) = wMA at *
                  generalize wA.heap.size = gB at *
                  have HQwMA := Lib.hid (HQwA.out.trans hqwMA)
                  have HMwMA := hc0
                  clear hc0
                  have HAwMA := Lib.hid (show Box wMA FB [.slice none 0 0, .slice none 0 0] ∧ Typed wMA FB 74 ∧ b0 ≤ FB from ⟨Box.q HAwA.out.1 hqwMA, Typed.q HAwA.out.2.1 hqwMA, HAwA.out.2.2⟩)
                  clear HAwA
                  clear hqwMA
                  refine tree_one rfl rfl ?_
                  intro K hK
                  go_wp2_with (fail)
                  refine (cloneIn_any (some ⟨R, 0, none⟩) s'.k 8 (inList s' 0) _ (Sl.q SLC.out HQwMA.out) (by omega)).mono ?_
                  rintro e wCAM ⟨aC, cC, rfl, hoC, hqC⟩
                  obtain ⟨gA, rfl, _, _⟩ := own_addr1 hoC hk1
                  refine hK _ _ ⟨⟨_, HQwMA.out.trans hqC⟩, rfl⟩ ?_
                  clear hK K
                  have hqwCAM := hqC
                  have hc0 := Lib.hid (own_mono hoC (hsz_le HB0.out.1 HQwMA.out))
                  clear hoC hqC
                  have HQwCAM := Lib.hid (HQwMA.out.trans hqwCAM)
                  have HCwCAM := hc0
                  clear hc0
                  have HAwCAM := Lib.hid (show Box wCAM FB [.slice none 0 0, .slice none 0 0] ∧ Typed wCAM FB 74 ∧ b0 ≤ FB from ⟨Box.q HAwMA.out.1 hqwCAM, Typed.q HAwMA.out.2.1 hqwCAM, HAwMA.out.2.2⟩)
                  clear HAwMA
                  have HMwCAM := Lib.hid (own_q HMwMA.out hqwCAM)
                  clear HMwMA
                  clear hqwCAM
                  refine tree_val rfl rfl ?_; go_big_quiet_step (fail); refine wpQuiet_nil ?_
                  have f0 := (HAwCAM.out.1.2 0 _ rfl)
                  have f1 := (HAwCAM.out.1.2 1 _ rfl)
                  have g0 := f0.1
                  have g0' := f0.2
                  have g1 := f1.1
                  have g1' := f1.2
                  have hFl := HAwCAM.out.1.1
                  clear f0 f1
                  refine tree_one rfl rfl ?_
                  intro K hK
                  go_wp2_with (fail)
                  refine hK _ _ ⟨⟨_, (HQwCAM.out.setCell (p := ⟨FB, 0, none⟩) (hsz_ge HB0.out.1 HAwCAM.out.2.2) _).setCell (p := ⟨FB, 1, none⟩) (hsz_ge HB0.out.1 HAwCAM.out.2.2) _⟩, rfl⟩ ?_
                  clear hK K g0 g0' g1 g1' hFl
                  refine tree_end ?_
                  go_wp2
                  go_meet
                  exact advMade s' HB0.out HW.out HQwCAM.out HCwCAM.out HMwCAM.out HAwCAM.out.1 HAwCAM.out.2.1 HAwCAM.out.2.2
            case rest =>
              obtain ⟨FB, gA, cA, gB, rfl, hM⟩ := hcut
              have HM0 := Lib.hid hM
              have HWl := Lib.hid (show hsz w3 = w3.heap.size from rfl)
              have f0 := (hM.1.2 0 _ rfl).1
              have hFl := hM.1.1
              clear hM
              go_wp2_with (fail)
              clear f0 hFl
              go_loopw [73] (fun v wx => ∃ p : Nat, p ≤ s'.k ∧ v = .int .i64 p ∧ Made s' w3 p FB gA cA gB wx) (fun v _ => s'.k - (intOf v).toNat)
              case atStart => exact ⟨0, by omega, rfl, HM0.out⟩
              case round =>
                obtain ⟨p, hpk, rfl, hM⟩ := hrel
                have HM := Lib.hid hM
                clear hM
                by_cases hp : p < s'.k
                · have hp8 : p < 8 := by omega
                  have HRp := Lib.hid (Box.q HR3.out HM.out.2.2.2.1)
                  have hhave := (HRp.out.2 _ _ (rowC_have _ HL8.out p hp8)).1
                  have hRl := HRp.out.1
                  cases hv : ((s'.acc s'.tks.length).getD p none).isSome with
                  | true =>
                    rw [hv] at hhave
                    have HS := Lib.hid (step_given s' p hp hv)
                    clear hv
                    go_wp2_with (fail)
                    go_roundw
                    case rel =>
                      refine ⟨p + 1, by omega, by go_num, ?_⟩
                      have h := HM.out
                      unfold Made at h ⊢
                      rw [HS.out.1, HS.out.2]
                      exact h
                    case measure => simp [intOf]; omega
                  | false =>
                    rw [hv] at hhave
                    have HS := Lib.hid (step_missing s' p hp hv)
                    clear hv
                    have HXr := Lib.hid (HX3.out.q HM.out.2.2.2.1)
                    have HFx := Lib.hid (show FB < wr.heap.size from HM.out.1.1)
                    go_upto_if 83 with (fail)
                    have HLB : Hid (Box (wr.alloc (.cells #[.int .i64 0, .int .i64 0, .int .i64 0] 34)) wr.heap.size [.int .i64 0, .int .i64 0, .int .i64 0]) := Lib.hid (Box.new wr [.int .i64 0, .int .i64 0, .int .i64 0] 34)
                    have HQL := Lib.hid ((Q.refl wr).alloc (.cells #[.int .i64 0, .int .i64 0, .int .i64 0] 34))
                    have HLs := Lib.hid (show hsz wr ≤ wr.heap.size from Nat.le_refl _)
                    generalize wr.alloc (.cells #[.int .i64 0, .int .i64 0, .int .i64 0] 34) = wL at *
                    generalize wr.heap.size = LB at *
                    clear hhave hRl
                    go_cut [10] (fun s10 wx => s10 = .pointer (some ⟨LB, 0, none⟩) ∧ Box wx LB (inC (prevC s' p)) ∧ Q wr wx)
                    case first =>
                      by_cases ht0 : s'.tks.length = 0
                      · have HP := Lib.hid (show prevC s' p = 4 by
                          have : s'.tks = [] := List.eq_nil_of_length_eq_zero ht0
                          unfold prevC
                          rw [this]; rfl)
                        have htI : ¬ (0 : Int) < s'.tks.length := by omega
                        have HT0 := Lib.hid ht0
                        clear ht0
                        go_wp2
                        go_meet
                        rw [HP.out]
                        exact ⟨rfl, HLB.out, HQL.out⟩
                      · obtain ⟨x, hx1, hx2⟩ := getLast_at s'.tks (s'.tks.length - 1) (by omega)
                        have hpc := prevC_at s' HR.out.1 p hp x hx2
                        have hxk := HR.out.1.tk1 x (List.mem_of_getElem? hx1)
                        obtain ⟨c, hc, a, ca, b, cb, rfl, hsa, hsb, _, _⟩ := HXr.out.tk (s'.tks.length - 1) x hx1
                        obtain ⟨g, o, hta, hg, d0, d1⟩ := (Sl.of_own (HXr.out.own)).pairAt (s'.tks.length - 1) _ hc
                        replace d0 : wr.cell? ⟨g, o + (s'.tks.length - 1) * 2, none⟩ = some (.slice a x.1.length ca) := d0
                        obtain ⟨ga, oa, rfl, hga, hca⟩ := hsa.pos (by omega)
                        have hpl : p < x.1.length := by omega
                        have hpg : x.1[p] = prevC s' p := by rw [List.getElem?_eq_getElem hpl] at hpc; exact Option.some.inj hpc
                        obtain ⟨e0, e1, e2⟩ := inCells_get x.1 p hpl
                        have k0 : wr.cell? ⟨ga, oa + p * 3, none⟩ = some _ := hca _ _ e0
                        have k1 : wr.cell? ⟨ga, oa + p * 3 + 1, none⟩ = some _ := hca _ _ e1
                        have k2 : wr.cell? ⟨ga, oa + p * 3 + 2, none⟩ = some _ := hca _ _ e2
                        rw [hpg] at k0 k1 k2
                        have c3 := (HXr.out.box.2 3 _ rfl).1
                        subst hta
                        replace c3 : wr.cell? ⟨B, 3, none⟩ = some (.slice (some ⟨g, o, none⟩) s'.tks.length tc1) := c3
                        have hBl := HXr.out.box.1
                        obtain ⟨hlk, _⟩ := hxk
                        have q0 := (Below.cell HQL.out (p := ⟨B, 3, none⟩) hBl).trans c3
                        have q1 := (Below.cell HQL.out (p := ⟨g, o + (s'.tks.length - 1) * 2, none⟩) hg).trans d0
                        have q2 := (Below.cell HQL.out (p := ⟨ga, oa + p * 3, none⟩) hga).trans k0
                        have q3 := (Below.cell HQL.out (p := ⟨ga, oa + p * 3 + 1, none⟩) hga).trans k1
                        have q4 := (Below.cell HQL.out (p := ⟨ga, oa + p * 3 + 2, none⟩) hga).trans k2
                        have l0 := (HLB.out.2 0 _ rfl)
                        have l1 := (HLB.out.2 1 _ rfl)
                        have l2 := (HLB.out.2 2 _ rfl)
                        obtain ⟨l00, l01⟩ := l0
                        obtain ⟨l10, l11⟩ := l1
                        obtain ⟨l20, l21⟩ := l2
                        have hlL := HLB.out.1
                        have htI : (0 : Int) < s'.tks.length := by omega
                        have hpx : (p : Int) < x.1.length := by omega
                        clear hx1 hx2 hpc hc hsb d0 d1 hca e0 e1 e2 k0 k1 k2 c3 hpg hBl hlk hpl
                        go_wp2
                        go_meet
                        exact ⟨rfl, Box.set (Box.set (Box.set HLB.out 0 _ (show 0 < 3 by decide)) 1 _ (show 1 < 3 by decide)) 2 _ (show 2 < 3 by decide),
                          ((HQL.out.setCell (p := ⟨LB, 0, none⟩) HLs.out _).setCell (p := ⟨LB, 1, none⟩) HLs.out _).setCell (p := ⟨LB, 2, none⟩) HLs.out _⟩
                    case rest =>
                      obtain ⟨rfl, hbx, hqx⟩ := hcut
                      have HMx := Lib.hid (HM.out)
                      go_upto_region 18 with (fail)
                      refine wp_region_mixF (F := fun b => b = gA ∨ b = gB) [(0, true), (1, true), (2, true), (3, true), (4, true), (5, true), (6, true), (7, false), (8, true), (9, false), (10, true), (11, false)] (by kernel_rfl) (by kernel_rfl) (fun _ _ _ _ _ h => h) ?_
                      have HQW := Lib.hid (hqx.drew)
                      have HLW := Lib.hid (Box.q hbx (Q.refl _).drew)
                      clear hbx hqx
                      generalize wc.drew = W at *
                      have HMW := Lib.hid (HM.out.q HQW.out)
                      have HNE := Lib.hid (show LB ≠ gA ∧ LB ≠ gB from by
                        have h1 := ((HM.out.2.1).lt gA rfl).2
                        have h2 := ((HM.out.2.2.1).lt gB rfl).2
                        have h3 := HLs.out
                        unfold hsz at h3
                        omega)
                      have f0 := Box.sF (F := fun b => b = gA ∨ b = gB) HMW.out.1 (by have h1 := HMW.out.2.2.2.2.1; have h2 := HMW.out.2.2.2.2.2.1; rintro (e | e) <;> omega) 0 _ rfl
                      have f1 := Box.sF (F := fun b => b = gA ∨ b = gB) HMW.out.1 (by have h1 := HMW.out.2.2.2.2.1; have h2 := HMW.out.2.2.2.2.2.1; rintro (e | e) <;> omega) 1 _ rfl
                      have l0 := Box.sF (F := fun b => b = gA ∨ b = gB) HLW.out (by have h := HNE.out; rintro (e | e) <;> omega) 0 _ rfl
                      have l1 := Box.sF (F := fun b => b = gA ∨ b = gB) HLW.out (by have h := HNE.out; rintro (e | e) <;> omega) 1 _ rfl
                      have l2 := Box.sF (F := fun b => b = gA ∨ b = gB) HLW.out (by have h := HNE.out; rintro (e | e) <;> omega) 2 _ rfl
                      repeat (refine mixF_val rfl rfl ?_; go_big_quiet_step (fail); refine wpQuiet_nil ?_)
                      clear f0 f1 l0 l1 l2
                      refine mixF_run rfl rfl ?_
                      intro K hK
                      go_wp2_with (fail)
                      refine (iPredict_any (prevC s' p % 3 - 1) (prevC s' p / 3 % 3 - 1) (prevC s' p / 9) _).mono ?_
                      rintro e w7 ⟨rfl, hq7⟩
                      refine hK _ _ (QF.of hq7) ?_
                      clear hK K
                      have HM7 := Lib.hid (HMW.out.q hq7)
                      clear hq7 HLW HMW
                      have hp0i : (0 : Int) ≤ (p : Int) := by omega
                      have hpki : (p : Int) < (s'.k : Int) := by omega
                      repeat (refine mixF_val rfl rfl ?_; go_big_quiet_step (fail); refine wpQuiet_nil ?_)
                      have hpl : p < (inList s' p).length := by rw [inList_len]; exact hp
                      obtain ⟨e0, e1, e2⟩ := inCells_get (inList s' p) p hpl
                      generalize (inList s' p)[p] = y at *
                      obtain ⟨a0, a0'⟩ := own_cellG HM7.out.2.1 _ _ e0
                      obtain ⟨a1, a1'⟩ := own_cellG HM7.out.2.1 _ _ e1
                      obtain ⟨a2, a2'⟩ := own_cellG HM7.out.2.1 _ _ e2
                      obtain ⟨b0, b0'⟩ := own_cellG HM7.out.2.2.1 p (.bool false) (by rw [List.getElem?_map, missList_get s' p hp]; rfl)
                      have hAB := HM7.out.2.2.2.2.2.2.1
                      have hAl := (HM7.out.2.1.lt gA rfl).2
                      have hBl := (HM7.out.2.2.1.lt gB rfl).2
                      clear e0 e1 e2 hpl
                      refine mixF_run rfl rfl ?_
                      intro K hK
                      go_wp2_with (fail)
                      refine hK _ _ (((QF.set w7 gA (p * 3) _ (.inl rfl)).setNew gA (p * 3 + 1) _ (.inl (.inl rfl))).setNew gA (p * 3 + 2) _ (.inl (.inl rfl))) ?_
                      clear hK K
                      repeat (refine mixF_val rfl rfl ?_; go_big_quiet_step (fail); refine wpQuiet_nil ?_)
                      refine mixF_run rfl rfl ?_
                      intro K hK
                      go_wp2_with (fail)
                      refine hK _ _ (QF.set _ gB p _ (.inr rfl)) ?_
                      clear hK K a0 a0' a1 a1' a2 a2' b0 b0'
                      refine mixF_end ?_
                      go_wp2_with (fail)
                      go_roundw
                      case rel => exact ⟨p + 1, by omega, by go_num, HM7.out.step HS.out hp⟩
                      case measure => simp [intOf]; omega
                · have hpe : p = s'.k := by omega
                  have HME := Lib.hid (show Made s' w3 s'.k FB gA cA gB wr by have h := HM.out; rw [hpe] at h; exact h)
                  clear hpe HM
                  obtain ⟨i0, hi, hz0, hz1, hz2⟩ := info_parts infoFixed
                  have HI := Lib.hid hi
                  clear hi
                  go_upto_region 20 with (fail)
                  refine wp_region_mixS (F := fun b => col1 b = 3) 10 [(0, true), (1, true), (2, true), (3, true), (4, true), (5, true), (6, false), (7, false), (8, true), (9, true), (10, false)] (by kernel_rfl) (by kernel_rfl) (fun _ _ _ _ _ h => h) ?_
                  have HMW := Lib.hid (HME.out.q (Q.drew (Q.refl wr)))
                  clear HME
                  generalize wr.drew = W at *
                  have HXW := Lib.hid (HX3.out.q HMW.out.2.2.2.1)
                  have b3 : ∀ x : AfterF (fun b => col1 b = 3) W, x.w.cell? ⟨B, 3, none⟩ = some (.slice ta1 s'.tks.length tc1) := Box.sF (F := fun b => col1 b = 3) HXW.out.box (by rw [HX3.out.cB]; decide) 3 _ rfl
                  have hnF : ¬ col1 FB = 3 := fun e => by
                    have h1 := HX3.out.lt FB (by rw [e]; decide)
                    have h2 := HMW.out.2.2.2.2.2.2.2
                    unfold hsz at h2
                    omega
                  have f0 := Box.sF (F := fun b => col1 b = 3) HMW.out.1 hnF 0 _ rfl
                  have f1 := Box.sF (F := fun b => col1 b = 3) HMW.out.1 hnF 1 _ rfl
                  have hBl := HXW.out.box.1
                  repeat (first | (refine mixS_val rfl rfl ?_; go_big_quiet_step (fail); refine wpQuiet_nil ?_) | (refine mixS_nil rfl rfl rfl ?_; go_big_quiet_step (fail); refine wpQuiet_nil ?_))
                  clear b3 f0 f1 hnF
                  refine mixS_run rfl rfl ?_
                  intro K hK
                  go_wp2_with (fail)
                  refine hK _ _ (QF.of ((Q.refl W).alloc _)) ?_
                  clear hK K
                  refine mixS_run rfl rfl ?_
                  intro K hK
                  refine wp_append_sl _ _ 60 rfl 0 74 i0 _ 2 48 Try.underlying60 HI.out hz0 hz1 hz2 rfl (by decide) _ s'.tks.length _ rfl (HXW.out.own.alloc _) (some ⟨W.heap.size, 0, none⟩) 1 1 [.slice (some ⟨gA, 0, none⟩) s'.k cA, .slice (some ⟨gB, 0, none⟩) s'.k s'.k] rfl (sl_alloc W [.slice (some ⟨gA, 0, none⟩) s'.k cA, .slice (some ⟨gB, 0, none⟩) s'.k s'.k] 74 2 rfl) (by simp [Value.oneCell']) (by omega) (by decide) (by omega) ?_
                  intro a' tc' w9 hown hgrow hgT
                  obtain ⟨gT, rfl, _, _⟩ := own_addr1 hown (by omega)
                  have hT1 := hgT gT rfl
                  have HO := Lib.hid (show w9.ownsRow 0 74 2 (.slice (some ⟨gT, 0, none⟩) (s'.tks.length + 1) tc') (s'.tks.length + 1) ((cs1 ++ [(Value.slice (some ⟨gA, 0, none⟩) s'.k cA, Value.slice (some ⟨gB, 0, none⟩) s'.k s'.k)]).flatMap pairC) by rw [pairs_one]; exact hown)
                  have HG := Lib.hid (show QF (fun b => col1 b = 3) (W.alloc (.cells #[.slice (some ⟨gA, 0, none⟩) s'.k cA, .slice (some ⟨gB, 0, none⟩) s'.k s'.k] 74)) w9 from QF.grown hgrow (fun k hk => HXW.out.cT k hk))
                  have HT1 := Lib.hid (show col1 gT = 3 ∨ W.heap.size ≤ gT from hT1.elim (fun h => .inl (HXW.out.cT gT h)) (fun h => .inr (by rw [h, World.size_alloc]; omega)))
                  clear hown hgrow hgT hT1
                  refine hK _ _ HG.out ?_
                  clear hK K
                  go_frame
                  have HG2 := Lib.hid (show QF (fun b => col1 b = 3) W w9 from (QF.of ((Q.refl W).alloc _)).trans HG.out (fun i h => .inl h))
                  clear HG
                  have hb3 := (HXW.out.box.qf HG2.out (by show ¬ col1 B = 3; rw [HX3.out.cB]; decide)).2 3 _ rfl
                  obtain ⟨hb3, hb3'⟩ := hb3
                  repeat (first | (refine mixS_val rfl rfl ?_; go_big_quiet_step (fail); refine wpQuiet_nil ?_) | (refine mixS_nil rfl rfl rfl ?_; go_big_quiet_step (fail); refine wpQuiet_nil ?_))
                  refine mixS_last rfl rfl ?_
                  intro K hK
                  go_wp2_with (fail)
                  refine mixS_end ?_
                  clear hb3 hb3'
                  have hPU := advPush HX3.out (if_pos rfl) HE1.out HF3.out HMW.out HG2.out HO.out HT1.out
                  have HPU := Lib.hid hPU
                  clear hPU
                  go_wp2_with (fail)
                  go_roundw
                  case rel => exact ⟨fixT s', by simp [fixT], ok_fix HR.out.1 hl, HR.out.2.1, HR.out.2.2.1, HA.out, HPU.out⟩
                  case measure => simp [intOf]; omega
    · have he : advT s now = s' := by rw [← HR.out.2.2.2.1]; exact advT_end (by omega)
      have HE := Lib.hid he
      obtain ⟨col1, ⟨MB1, ta1, tc1, cs1, mp1, hx1⟩, _, _⟩ := HR.out.2.2.2.2
      have c3 := (hx1.box.2 3 _ rfl).1
      have hlt := hx1.box.1
      clear hx1 he
      go_wp2
      go_ret
      rw [HE.out]
      exact ⟨rfl, HR.out.2.2.2.2⟩
end Go.Proofs.Ytpoffkkkkieniaa
