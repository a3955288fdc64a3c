/- Contract: Offer. -/
import Derived.Test.YtpoffkkkkieniaaQA
namespace Go.Proofs.Ytpoffkkkkieniaa
open Go Go.RowKit Go.BigFrame

theorem zeroPRow (w : World) : (zeroValue 67).run Try.prog w = .ok (.pointer none) w := by kernel_rfl
theorem QueX.look {w : World} {B MB tc : Nat} {col : Nat → Nat} {s : QS} {ta : Option Addr} {cs : List (Value × Value)} {mp : Int → Option Nat} (h : QueX w B col s MB ta tc cs mp) (t : Int) (ht : -9223372036854775808 ≤ t ∧ t ≤ 9223372036854775807) :
    (Instr.lookup 59 (.map (some MB)) (.int .i64 t) false).run Try.prog w = .ok ((rowP (mp t)).getD (.pointer none)) w :=
  h.map.look keyedInt Try.underlying59 kI_inj false (zeroPRow w) t (keyInt t ht)
theorem QueX.offered {w : World} {B MB tc R : Nat} {col : Nat → Nat} {s : QS} {ta : Option Addr} {cs : List (Value × Value)} {mp : Int → Option Nat} (h : QueX w B col s MB ta tc cs mp) (t : Int) (p : Nat) (x : Int)
    (hm : mp t = some R) (hl : (s.acc t).length = 8) (hp : p < 8) (ho : (s.acc t).getD p none = none) :
    QueX (((((w.setCell ⟨R, p * 3, none⟩ (.int .i64 (x % 3 - 1))).setCell ⟨R, p * 3 + 1, none⟩ (.int .i64 (x / 3 % 3 - 1))).setCell ⟨R, p * 3 + 2, none⟩ (.int .i64 (x / 9))).setCell ⟨R, 24 + p, none⟩ (.bool true)).setCell ⟨R, 32, none⟩ (.int .i64 ((cntR (s.acc t) : Int) + 1))).drew B col (accSet s t p x) MB ta tc cs mp ∧
    QF (· = R) w (((((w.setCell ⟨R, p * 3, none⟩ (.int .i64 (x % 3 - 1))).setCell ⟨R, p * 3 + 1, none⟩ (.int .i64 (x / 3 % 3 - 1))).setCell ⟨R, p * 3 + 2, none⟩ (.int .i64 (x / 9))).setCell ⟨R, 24 + p, none⟩ (.bool true)).setCell ⟨R, 32, none⟩ (.int .i64 ((cntR (s.acc t) : Int) + 1))).drew := by
  have hb := (h.row t R hm).1
  have l33 := rowC_len _ hl
  have h1 := Box.set hb (p * 3) (.int .i64 (x % 3 - 1)) (by omega)
  have h2 := Box.set h1 (p * 3 + 1) (.int .i64 (x / 3 % 3 - 1)) (by simp; omega)
  have h3 := Box.set h2 (p * 3 + 2) (.int .i64 (x / 9)) (by simp; omega)
  have h4 := Box.set h3 (24 + p) (.bool true) (by simp; omega)
  have h5 := Box.set h4 32 (.int .i64 ((cntR (s.acc t) : Int) + 1)) (by simp; omega)
  rw [rowC_set _ hl p hp ho x] at h5
  have q := ((((QF.set (F := (· = R)) w R (p * 3) (.int .i64 (x % 3 - 1)) rfl).setNew R (p * 3 + 1) (.int .i64 (x / 3 % 3 - 1)) (.inl rfl)).setNew R (p * 3 + 2) (.int .i64 (x / 9)) (.inl rfl)).setNew R (24 + p) (.bool true) (.inl rfl)).setNew R 32 (.int .i64 ((cntR (s.acc t) : Int) + 1)) (.inl rfl)
  exact ⟨h.setRow t p x hm (Box.q h5 (Q.refl _).drew) q.drew, q.drew⟩
theorem offT_ok {s : QS} {now t x : Int} {p : Nat} (h : offE s now p t (x % 3 - 1) (x / 3 % 3 - 1) (x / 9) = 0) : offT s now p t (x % 3 - 1) (x / 3 % 3 - 1) (x / 9) = accSet s t p x := by
  unfold offT
  rw [if_pos h, codeOf_code, Int.toNat_natCast]
theorem qOffer_17 (B : Nat) (col : Nat → Nat) (s : QS) (now p t a b f : Int) (w : World) (hQ : Que w B col s) (h : p < 0 ∨ (s.k : Int) ≤ p) :
    Calls Try.prog 16 #[.pointer (some ⟨B, 0, none⟩), .int .i64 now, .int .i64 p, .int .i64 t, .agg #[.int .i64 a, .int .i64 b, .int .i64 f]] w fun e w' => e = .returned (.int .i64 17) ∧ Q w w' := by
  obtain ⟨MB, ta, tc, cs, mp, hx⟩ := hQ
  have h0 := (hx.box.2 0 _ rfl).1
  have hlt := hx.box.1
  clear hx
  by_cases hp : p < 0
  · go_enter Try.func16, Try.ntmps16
    go_wp2
    go_ret
    exact ⟨rfl, (Q.refl w).alloc _⟩
  · have hk : (s.k : Int) ≤ p := by omega
    go_enter Try.func16, Try.ntmps16
    go_wp2
    go_ret
    exact ⟨rfl, (Q.refl w).alloc _⟩
set_option maxHeartbeats 1000000 in
theorem qOffer_in (B : Nat) (col : Nat → Nat) (s : QS) (now p t a b f : Int) (w : World) (hQ : Que w B col s) (ok : OkS s) (hn : 0 ≤ now ∧ now ≤ 1000000) (ht : -9223372036854775808 ≤ t ∧ t ≤ 9223372036854775807) (hp0 : 0 ≤ p) (hpk : p < s.k) :
    Calls Try.prog 16 #[.pointer (some ⟨B, 0, none⟩), .int .i64 now, .int .i64 p, .int .i64 t, .agg #[.int .i64 a, .int .i64 b, .int .i64 f]] w fun e w' => e = .returned (.int .i64 (offE s now p t a b f)) ∧ QDone B col w (offT s now p t a b f) w' := by
  obtain ⟨MB, ta, tc, cs, mp, hx⟩ := hQ
  have h0 := (hx.box.2 0 _ rfl).1
  have hlt := hx.box.1
  have HX := Lib.hid hx
  have HOK := Lib.hid ok
  have HT := Lib.hid ht
  have HQ0 := Lib.hid ((Q.refl w).alloc (.cells #[.int .i64 a, .int .i64 b, .int .i64 f] 34))
  have HBI := Lib.hid (Box.new w [.int .i64 a, .int .i64 b, .int .i64 f] 34)
  have hk8 := ok.k8
  clear hx ok ht
  go_enter Try.func16, Try.ntmps16
  go_wp2_with (fail)
  refine (iValidate_any a b f _).mono ?_
  rintro e w2 ⟨rfl, hq⟩
  have HQ2 := Lib.hid (HQ0.out.trans hq)
  have HB2 : Hid (Box w2 w.heap.size [.int .i64 a, .int .i64 b, .int .i64 f]) := Lib.hid (Box.q HBI.out hq)
  have HX2 := Lib.hid (HX.out.q HQ2.out)
  have HBL := Lib.hid (show ∀ b, col b ≠ 0 → b < w.heap.size from HX.out.lt)
  clear hq h0 hlt HBI HQ0
  generalize w.heap.size = BI at *
  by_cases hv : errV a b f = 0
  case neg =>
    have hb : (errV a b f != 0) = true := by simpa using hv
    have HE := Lib.hid (show offE s now p t a b f = errV a b f by unfold offE; rw [if_neg (by omega), if_pos hv])
    have HZ := Lib.hid (show offT s now p t a b f = s by unfold offT; rw [HE.out, if_neg hv])
    go_wp2
    go_ret
    rw [HE.out, HZ.out]
    exact ⟨rfl, QDone.same ⟨MB, ta, tc, cs, mp, HX.out⟩ HQ2.out⟩
  case pos =>
    have hlk := HX2.out.look t HT.out
    have c2 := (HX2.out.box.2 2 _ rfl).1
    have c3 := (HX2.out.box.2 3 _ rfl).1
    have hlt := HX2.out.box.1
    have HV := Lib.hid hv
    rw [hv]
    clear hv
    by_cases hT : t < 0 ∨ 6000 ≤ t ∨ now + 8 < t
    · have HE := Lib.hid (show offE s now p t a b f = 18 by unfold offE; rw [if_neg (by omega), if_neg (by rw [HV.out]; decide), if_pos hT])
      have HZ := Lib.hid (show offT s now p t a b f = s by unfold offT; rw [HE.out, if_neg (by decide)])
      generalize (rowP (mp t)).getD (.pointer none) = v at *
      by_cases ht0 : t < 0
      · go_wp2
        go_ret
        rw [HE.out, HZ.out]
        exact ⟨rfl, QDone.same ⟨MB, ta, tc, cs, mp, HX.out⟩ HQ2.out⟩
      · by_cases ht1 : 6000 ≤ t
        · go_wp2
          go_ret
          rw [HE.out, HZ.out]
          exact ⟨rfl, QDone.same ⟨MB, ta, tc, cs, mp, HX.out⟩ HQ2.out⟩
        · have ht2 : now + 8 < t := by omega
          go_wp2
          go_ret
          rw [HE.out, HZ.out]
          exact ⟨rfl, QDone.same ⟨MB, ta, tc, cs, mp, HX.out⟩ HQ2.out⟩
    · have ht0 : 0 ≤ t := by omega
      have ht1 : t < 6000 := by omega
      have ht2 : t ≤ now + 8 := by omega
      have HTn := Lib.hid hT
      clear hT
      by_cases hl : t < s.tks.length
      · have HE := Lib.hid (show offE s now p t a b f = 20 by unfold offE; rw [if_neg (by omega), if_neg (by rw [HV.out]; decide), if_neg HTn.out, if_pos hl])
        have HZ := Lib.hid (show offT s now p t a b f = s by unfold offT; rw [HE.out, if_neg (by decide)])
        generalize (rowP (mp t)).getD (.pointer none) = v at *
        go_wp2
        go_ret
        rw [HE.out, HZ.out]
        exact ⟨rfl, QDone.same ⟨MB, ta, tc, cs, mp, HX.out⟩ HQ2.out⟩
      · have hl' : (s.tks.length : Int) ≤ t := by omega
        have hlb : ¬ t < (s.tks.length : Int) := by omega
        have HN := Lib.hid (show offE s now p t a b f = if ((s.acc t).getD p.toNat none).isSome then 4 else 0 by unfold offE; rw [if_neg (by omega), if_neg (by rw [HV.out]; decide), if_neg HTn.out, if_neg hlb])
        have HL8 := Lib.hid (HOK.out.len t)
        obtain ⟨pn, rfl⟩ := Int.eq_ofNat_of_zero_le hp0
        have hp8 : pn < 8 := by omega
        rw [Int.toNat_natCast] at HN
        cases hm : mp t with
        | some R =>
          rw [hm] at hlk
          replace hlk : (Instr.lookup 59 (.map (some MB)) (.int .i64 t) false).run Try.prog w2 = .ok (.pointer (some ⟨R, 0, none⟩)) w2 := hlk
          have hrow := (HX2.out.row t R hm).1
          have ch := (hrow.2 _ _ (rowC_have _ HL8.out pn hp8)).1
          have hRl := hrow.1
          clear hrow
          cases ho : (s.acc t).getD pn none with
          | some d =>
            have HE := Lib.hid (show offE s now pn t a b f = 4 by rw [HN.out, ho]; rfl)
            have HZ := Lib.hid (show offT s now pn t a b f = s by unfold offT; rw [HE.out, if_neg (by decide)])
            rw [ho] at ch
            replace ch : w2.cell? ⟨R, 24 + pn, none⟩ = some (.bool true) := ch
            clear ho
            go_wp2
            go_ret
            rw [HE.out, HZ.out]
            exact ⟨rfl, QDone.same ⟨MB, ta, tc, cs, mp, HX.out⟩ HQ2.out⟩
          | none =>
            have HE := Lib.hid (show offE s now pn t a b f = 0 by rw [HN.out, ho]; rfl)
            rw [ho] at ch
            replace ch : w2.cell? ⟨R, 24 + pn, none⟩ = some (.bool false) := ch
            have HO := Lib.hid ho
            clear ho
            have HR3 := Lib.hid (HX2.out.row t R hm).1
            have HBR := Lib.hid (show R < BI from HBL.out R (by rw [(HX2.out.row t R hm).2]; decide))
            obtain ⟨x, hx0, hx1, rfl, rfl, rfl⟩ := valid_codeQ HV.out
            obtain ⟨_, i0, i1, i2⟩ := Box.here3 HB2.out
            obtain ⟨⟨q0, q0'⟩, ⟨q1, q1'⟩, ⟨q2, q2'⟩, ⟨q3, q3'⟩, ⟨q4, q4'⟩⟩ := rowC_free _ HL8.out pn hp8 HO.out HR3.out
            have hc8 : cntR (s.acc t) ≤ 8 := by have := cntR_le (s.acc t); rw [HL8.out] at this; exact this
            clear ch
            go_wp2_with (fail)
            go_region
            go_wp2
            go_ret
            rw [HE.out, offT_ok HE.out]
            obtain ⟨hq1, hq2⟩ := HX2.out.offered t pn x hm HL8.out hp8 HO.out
            exact ⟨rfl, col, ⟨MB, ta, tc, cs, mp, hq1⟩, fun _ _ => rfl, (QF.of HQ2.out).trans hq2 (fun i e => .inl (by show col i ≠ 0; rw [e, (HX2.out.row t R hm).2]; decide))⟩
        | none =>
          rw [hm] at hlk
          replace hlk : (Instr.lookup 59 (.map (some MB)) (.int .i64 t) false).run Try.prog w2 = .ok (.pointer none) w2 := hlk
          have ho : (s.acc t).getD pn none = none := by
            rw [HX2.out.nn t hm hl']
            simp only [none8, List.getD, List.getElem?_replicate]
            split <;> rfl
          have HE := Lib.hid (show offE s now pn t a b f = 0 by rw [HN.out, ho]; rfl)
          have HO := Lib.hid ho
          clear ho
          obtain ⟨x, hx0, hx1, rfl, rfl, rfl⟩ := valid_codeQ HV.out
          have HX3 := Lib.hid (HX2.out.q ((Q.refl w2).alloc (.cells (rowC none8).toArray 71)))
          have HRB := Lib.hid (Box.new w2 (rowC none8) 71)
          have HRc := Lib.hid (show col w2.heap.size = 0 from Classical.byContradiction fun h => by have := HX2.out.lt _ h; omega)
          have HBI3 := Lib.hid (HB2.out.alloc (.cells (rowC none8).toArray 71))
          have HBx := Lib.hid (show BI < w2.heap.size from HB2.out.1)
          go_wp2_with (at_mapUpdate; refine stopAt ?_)
          refine goOn ?_
          refine wpList_put rfl _ _ _ 59 rfl keyedInt Try.underlying59 kI_inj t (keyInt t HT.out) (.pointer (some ⟨w2.heap.size, 0, none⟩)) rfl rfl rfl HX3.out.map ?_
          intro w3 hm3 hq3 hs3
          have HQ3 : Hid (QF (· = MB) (w2.alloc (.cells (rowC none8).toArray 71)) w3) := Lib.hid hq3
          have hRM : w2.heap.size ≠ MB := fun e => by have := HX2.out.lt MB (by rw [HX2.out.cM]; decide); omega
          have HX4 := Lib.hid (HX3.out.newRow t w2.heap.size HRc.out hm hl' (Box.qf HRB.out HQ3.out hRM) HQ3.out hm3)
          have HBI4 := Lib.hid (Box.qf HBI3.out HQ3.out (show BI ≠ MB from fun e => by have h1 := HBL.out MB (by rw [HX2.out.cM]; decide); omega))
          clear hm3 hq3 hs3 hlk c2 c3 hlt HX3 HRB HBI3 hRM
          have hmR : (if t = t then some w2.heap.size else mp t) = some w2.heap.size := if_pos rfl
          have hlk := HX4.out.look t HT.out
          rw [hmR] at hlk
          replace hlk : (Instr.lookup 59 (.map (some MB)) (.int .i64 t) false).run Try.prog w3 = .ok (.pointer (some ⟨w2.heap.size, 0, none⟩)) w3 := hlk
          have c2 := (HX4.out.box.2 2 _ rfl).1
          have hlt := HX4.out.box.1
          have HR3 := Lib.hid (HX4.out.row t _ hmR).1
          have HQ3' := Lib.hid (show QF (colF col) w w3 from (QF.of (HQ2.out.alloc (.cells (rowC none8).toArray 71))).trans HQ3.out (fun i e => .inl (by show col i ≠ 0; rw [e, HX2.out.cM]; decide)))
          have HWl := Lib.hid (show w.heap.size ≤ w2.heap.size from HQ2.out.size)
          clear hmR HQ3
          generalize hcl : (fun b => if b = w2.heap.size then 4 else col b) = col' at *
          have HCL := Lib.hid hcl
          clear hcl
          generalize w2.heap.size = R at *
          obtain ⟨⟨q0, q0'⟩, ⟨q1, q1'⟩, ⟨q2, q2'⟩, ⟨q3, q3'⟩, ⟨q4, q4'⟩⟩ := rowC_free _ HL8.out pn hp8 HO.out HR3.out
          have hc8 : cntR (s.acc t) ≤ 8 := by have := cntR_le (s.acc t); rw [HL8.out] at this; exact this
          obtain ⟨_, i0, i1, i2⟩ := Box.here3 HBI4.out
          have hRl := HR3.out.1
          have hBR : BI < R := HBx.out
          go_wp2_with (fail)
          go_region
          go_wp2
          go_ret
          rw [HE.out, offT_ok HE.out]
          obtain ⟨hq1, hq2⟩ := HX4.out.offered (R := R) t pn x (if_pos rfl) HL8.out hp8 HO.out
          refine ⟨rfl, col', ⟨MB, ta, tc, cs, _, hq1⟩, fun b hb => ?_, HQ3'.out.trans hq2 (fun i e => .inr (by rw [e]; exact HWl.out))⟩
          rw [← HCL.out]
          exact if_neg (by have := HWl.out; omega)
theorem qOffer_any (B : Nat) (col : Nat → Nat) (s : QS) (now p t a b f : Int) (w : World) (hQ : Que w B col s) (ok : OkS s) (hn : 0 ≤ now ∧ now ≤ 1000000) (ht : -9223372036854775808 ≤ t ∧ t ≤ 9223372036854775807) :
    Calls Try.prog 16 #[.pointer (some ⟨B, 0, none⟩), .int .i64 now, .int .i64 p, .int .i64 t, .agg #[.int .i64 a, .int .i64 b, .int .i64 f]] w fun e w' => e = .returned (.int .i64 (offE s now p t a b f)) ∧ QDone B col w (offT s now p t a b f) w' := by
  by_cases h : p < 0 ∨ (s.k : Int) ≤ p
  · have e : offE s now p t a b f = 17 := by unfold offE; rw [if_pos h]
    have z : offT s now p t a b f = s := by unfold offT; rw [e, if_neg (by decide)]
    rw [e, z]
    exact (qOffer_17 B col s now p t a b f w hQ h).mono fun _ _ ⟨h1, h2⟩ => ⟨h1, QDone.same hQ h2⟩
  · exact qOffer_in B col s now p t a b f w hQ ok hn ht (by omega) (by omega)
end Go.Proofs.Ytpoffkkkkieniaa
