/- Contract: the reference's Offer. -/
import Derived.Test.YtpoffkkkkieniaaQS
import Derived.Test.YtpoffkkkkieniaaInR
namespace Go.Proofs.Ytpoffkkkkieniaa
open Go Go.RowKit Go.BigFrame

def rqA (s : QS) (n : Nat) (la : Option Addr) (lc : Nat) (ra : Option Addr) (rc : Nat) (ma : Option Addr) (mc : Nat) : Value :=
  .agg #[.int .i64 s.k, .int .i64 s.wt, .slice la n lc, .slice ra s.tks.length rc, .slice ma s.tks.length mc]
/-- what the reference's Offer leaves -/
def ROff (w : World) (n : Nat) (la ra : Option Addr) (rc : Nat) (ma : Option Addr) (mc : Nat) (cs : List (Value × Value)) (s' : QS) (er : Int) (e : Ending) (w' : World) : Prop :=
  ∃ L la' lc, e = .returned (.tuple #[rqA s' L.length la' lc ra rc ma mc, .int .i64 er]) ∧ RQ w' s' L la' lc ra rc ma mc cs ∧ Q w w' ∧ L.length ≤ n + 1 ∧ (la' = la ∨ ∀ y, la' = some y → w.heap.size ≤ y.block ∧ y.block < w'.heap.size)
theorem Box.here5 {w : World} {B : Nat} {a b c d e : Value} (h : Box w B [a, b, c, d, e]) : B < w.heap.size ∧ w.cell? ⟨B, 0, none⟩ = some a ∧ w.cell? ⟨B, 1, none⟩ = some b ∧ w.cell? ⟨B, 2, none⟩ = some c ∧ w.cell? ⟨B, 3, none⟩ = some d ∧ w.cell? ⟨B, 4, none⟩ = some e :=
  ⟨h.1, (h.2 0 _ rfl).1, (h.2 1 _ rfl).1, (h.2 2 _ rfl).1, (h.2 3 _ rfl).1, (h.2 4 _ rfl).1⟩
theorem Box.free5 {w : World} {B : Nat} {a b c d e : Value} (h : Box w B [a, b, c, d, e]) : w.frozen? ⟨B, 0, none⟩ = false ∧ w.frozen? ⟨B, 1, none⟩ = false ∧ w.frozen? ⟨B, 2, none⟩ = false ∧ w.frozen? ⟨B, 3, none⟩ = false ∧ w.frozen? ⟨B, 4, none⟩ = false :=
  ⟨(h.2 0 _ rfl).2, (h.2 1 _ rfl).2, (h.2 2 _ rfl).2, (h.2 3 _ rfl).2, (h.2 4 _ rfl).2⟩
/-- a value stored into five cells -/
theorem Box.store5 {w : World} {B : Nat} {a b c d e a' b' c' d' e' : Value} (h : Box w B [a, b, c, d, e]) :
    Box (((((w.setCell ⟨B, 0, none⟩ a').setCell ⟨B, 1, none⟩ b').setCell ⟨B, 2, none⟩ c').setCell ⟨B, 3, none⟩ d').setCell ⟨B, 4, none⟩ e') B [a', b', c', d', e'] :=
  Box.set (Box.set (Box.set (Box.set (Box.set h 0 a' (show 0 < 5 by decide)) 1 b' (show 1 < 5 by decide)) 2 c' (show 2 < 5 by decide)) 3 d' (show 3 < 5 by decide)) 4 e' (show 4 < 5 by decide)
theorem Q.store5 {w0 w : World} {B : Nat} (h : Q w0 w) (hB : w0.heap.size ≤ B) (a' b' c' d' e' : Value) :
    Q w0 (((((w.setCell ⟨B, 0, none⟩ a').setCell ⟨B, 1, none⟩ b').setCell ⟨B, 2, none⟩ c').setCell ⟨B, 3, none⟩ d').setCell ⟨B, 4, none⟩ e') :=
  ((((h.setCell (p := ⟨B, 0, none⟩) hB a').setCell (p := ⟨B, 1, none⟩) hB b').setCell (p := ⟨B, 2, none⟩) hB c').setCell (p := ⟨B, 3, none⟩) hB d').setCell (p := ⟨B, 4, none⟩) hB e'
theorem Sl.store5 {w : World} {B size n cap : Nat} {a : Option Addr} {cs : List Value} (h : Sl w size a n cap cs) (hB : ∀ y, a = some y → y.block ≠ B) (a' b' c' d' e' : Value) :
    Sl (((((w.setCell ⟨B, 0, none⟩ a').setCell ⟨B, 1, none⟩ b').setCell ⟨B, 2, none⟩ c').setCell ⟨B, 3, none⟩ d').setCell ⟨B, 4, none⟩ e') size a n cap cs :=
  h.qf (F := (· = B)) (((((QF.set (F := (· = B)) w B 0 a' rfl).setNew B 1 b' (.inl rfl)).setNew B 2 c' (.inl rfl)).setNew B 3 d' (.inl rfl)).setNew B 4 e' (.inl rfl)) hB
/-- the reference's queue beside the queue -/
def RQO (w : World) (col : Nat → Nat) (s : QS) (L : List On) (la : Option Addr) (lc : Nat) (ra : Option Addr) (rc : Nat) (ma : Option Addr) (mc : Nat) (cs : List (Value × Value)) : Prop :=
  RQ w s L la lc ra rc ma mc cs ∧ (∀ x, (la = some x ∨ ra = some x ∨ ma = some x) → x.block < w.heap.size ∧ col x.block = 0) ∧
  ∀ c ∈ cs, ∀ x n m, (c.1 = .slice (some x) n m ∨ c.2 = .slice (some x) n m) → x.block < w.heap.size ∧ col x.block = 0
theorem RQO.q {w w' : World} {col : Nat → Nat} {s : QS} {L : List On} {la ra ma : Option Addr} {lc rc mc : Nat} {cs : List (Value × Value)} (h : RQO w col s L la lc ra rc ma mc cs) (q : Q w w') : RQO w' col s L la lc ra rc ma mc cs :=
  ⟨h.1.q q, fun x hx => ⟨Nat.lt_of_lt_of_le (h.2.1 x hx).1 q.size, (h.2.1 x hx).2⟩, fun c hc x n m hx => ⟨Nat.lt_of_lt_of_le (h.2.2 c hc x n m hx).1 q.size, (h.2.2 c hc x n m hx).2⟩⟩
theorem RQO.qf {w w' : World} {F : Nat → Prop} {col : Nat → Nat} {s : QS} {L : List On} {la ra ma : Option Addr} {lc rc mc : Nat} {cs : List (Value × Value)} (h : RQO w col s L la lc ra rc ma mc cs) (q : QF F w w') (hF : ∀ b, F b → col b ≠ 0 ∨ w.heap.size ≤ b) : RQO w' col s L la lc ra rc ma mc cs := by
  obtain ⟨h1, h2, h3⟩ := h
  have nf : ∀ b, b < w.heap.size → col b = 0 → ¬ F b := fun b hb hc hf => by rcases hF b hf with h | h <;> omega
  refine ⟨⟨h1.sl.qf q (fun x hx => nf _ (h2 x (.inl hx)).1 (h2 x (.inl hx)).2), h1.rows.qf q (fun x hx => nf _ (h2 x (.inr (.inl hx))).1 (h2 x (.inr (.inl hx))).2), h1.miss.qf q (fun x hx => nf _ (h2 x (.inr (.inr hx))).1 (h2 x (.inr (.inr hx))).2), h1.cl, fun i x hx => ?_, h1.acc, h1.small⟩,
    fun x hx => ⟨Nat.lt_of_lt_of_le (h2 x hx).1 q.size, (h2 x hx).2⟩, fun c hc x n m hx => ⟨Nat.lt_of_lt_of_le (h3 c hc x n m hx).1 q.size, (h3 c hc x n m hx).2⟩⟩
  obtain ⟨c, hc, a, ca, b, cb, hcc, ha, hb, _, _⟩ := h1.tk i x hx
  have hm := List.mem_of_getElem? hc
  refine ⟨c, hc, a, ca, b, cb, hcc, ha.qf q (fun y hy => ?_), hb.qf q (fun y hy => ?_), fun _ _ => rfl, fun _ _ => rfl⟩
  · have := h3 c hm y _ _ (.inl (by rw [hcc, hy]))
    exact nf _ this.1 this.2
  · have := h3 c hm y _ _ (.inr (by rw [hcc, hy]))
    exact nf _ this.1 this.2
theorem RQO.done {w w' : World} {col col' : Nat → Nat} {s : QS} {L : List On} {la ra ma : Option Addr} {lc rc mc : Nat} {cs : List (Value × Value)} (h : RQO w col s L la lc ra rc ma mc cs) (he : Ext w col col') (hf : QF (colF col) w w') : RQO w' col' s L la lc ra rc ma mc cs := by
  have h' := h.qf hf (fun b hb => .inl hb)
  refine ⟨h'.1, fun x hx => ⟨(h'.2.1 x hx).1, (he _ (h.2.1 x hx).1).trans (h.2.1 x hx).2⟩, fun c hc x n m hx => ⟨(h'.2.2 c hc x n m hx).1, (he _ (h.2.2 c hc x n m hx).1).trans (h.2.2 c hc x n m hx).2⟩⟩
/-- behind the reference's Offer -/
theorem RQO.off {w w' : World} {B : Nat} {col : Nat → Nat} {s s' s0 : QS} {L L' : List On} {la la' ra ma : Option Addr} {lc lc' rc mc : Nat} {cs : List (Value × Value)} (hQ : Que w B col s0) (h : RQO w col s L la lc ra rc ma mc cs) (h1 : RQ w' s' L' la' lc' ra rc ma mc cs) (q : Q w w')
    (hl : la' = la ∨ ∀ y, la' = some y → w.heap.size ≤ y.block ∧ y.block < w'.heap.size) : RQO w' col s' L' la' lc' ra rc ma mc cs := by
  have h' := h.q q
  refine ⟨h1, fun x hx => ?_, h'.2.2⟩
  rcases hx with hx | hx
  · rcases hl with rfl | hl
    · exact h'.2.1 x (.inl hx)
    · exact ⟨(hl x hx).2, hQ.new0 _ (hl x hx).1⟩
  · exact h'.2.1 x (.inr hx)
theorem onC_one (L : List On) : ∀ u ∈ L.flatMap onC, u.oneCell' = true := by
  intro u hu
  obtain ⟨c, _, hc⟩ := List.mem_flatMap.1 hu
  simp only [onC, List.mem_cons, List.not_mem_nil, or_false] at hc
  rcases hc with rfl | rfl | rfl | rfl | rfl <;> rfl
theorem RQ.offered {w : World} {s : QS} {L : List On} {la ra ma : Option Addr} {lc rc mc : Nat} {cs : List (Value × Value)} (h : RQ w s L la lc ra rc ma mc cs) (ok : OkS s) (p t x : Int) (hp : 0 ≤ p) (hpk : p < s.k) (hf : L.find? (isOn p t) = none) (hl : L.length ≤ 900)
    (a2 : Option Addr) (c2 : Nat) (hs : Sl w 5 a2 (L.length + 1) c2 ((L ++ [(⟨p, t, x⟩ : On)]).flatMap onC)) : RQ w (accSet s t p.toNat x) (L ++ [⟨p, t, x⟩]) a2 c2 ra rc ma mc cs where
  sl := by rw [List.length_append]; exact hs
  rows := h.rows
  miss := h.miss
  cl := h.cl
  tk := h.tk
  acc := fun u q => by
    have k8 := ok.k8
    rw [acc_get s t u _ q _ (by rw [ok.len]; omega), List.find?_append]
    by_cases hc : u = t ∧ q = p.toNat
    · have e : (q : Int) = p := by omega
      rw [if_pos hc, hc.1, e, hf]
      simp [isOn]
    · have hn : isOn q u ⟨p, t, x⟩ = false := by
        unfold isOn
        rw [decide_eq_false]
        rintro ⟨h1, h2⟩
        have h1 : p = q := h1
        have h2 : t = u := h2
        exact hc ⟨h2.symm, by omega⟩
      rw [if_neg hc, h.acc u q]
      cases L.find? (isOn q u) with
      | some y => rfl
      | none => simp [hn]
  small := by rw [List.length_append]; show L.length + 1 ≤ 1000; omega
theorem infoOne22 : (Try.prog.info? 66).map (fun i => (i.zero, i.size, i.bytes)) = some (some (.agg #[.int .i64 0, .int .i64 0, .int .i64 0, .int .i64 0, .int .i64 0]), 5, 40) := by kernel_rfl
set_option maxRecDepth 100000 in
set_option maxHeartbeats 2000000 in
theorem rOffer_any (s : QS) (L : List On) (la : Option Addr) (lc : Nat) (ra : Option Addr) (rc : Nat) (ma : Option Addr) (mc : Nat) (cs : List (Value × Value)) (now p t a b f : Int) (w : World) (hR : RQ w s L la lc ra rc ma mc cs) (h900 : L.length ≤ 900) (ok : OkS s) (hn : 0 ≤ now ∧ now ≤ 1000000) :
    Calls Try.prog 15 #[rqA s L.length la lc ra rc ma mc, .int .i64 now, .int .i64 p, .int .i64 t, .agg #[.int .i64 a, .int .i64 b, .int .i64 f]] w (ROff w L.length la ra rc ma mc cs (offT s now p t a b f) (offE s now p t a b f)) := by
  have HR := Lib.hid hR
  have HOK := Lib.hid ok
  have hk8 := ok.k8
  have hl6 := ok.n6000
  have hL := hR.small
  have b0 := Box.new w [.int .i64 s.k, .int .i64 s.wt, .slice la L.length lc, .slice ra s.tks.length rc, .slice ma s.tks.length mc] 30
  have b1 := Box.new (w.alloc (.cells #[.int .i64 s.k, .int .i64 s.wt, .slice la L.length lc, .slice ra s.tks.length rc, .slice ma s.tks.length mc] 30)) [.int .i64 a, .int .i64 b, .int .i64 f] 34
  have b2 := Box.new ((w.alloc (.cells #[.int .i64 s.k, .int .i64 s.wt, .slice la L.length lc, .slice ra s.tks.length rc, .slice ma s.tks.length mc] 30)).alloc (.cells #[.int .i64 a, .int .i64 b, .int .i64 f] 34)) [.int .i64 0, .int .i64 0, .slice none 0 0, .slice none 0 0, .slice none 0 0] 30
  simp only [World.size_alloc] at b1 b2
  have HB0 := Lib.hid (((Box.alloc b0 (.cells #[.int .i64 a, .int .i64 b, .int .i64 f] 34)).alloc (.cells #[.int .i64 0, .int .i64 0, .slice none 0 0, .slice none 0 0, .slice none 0 0] 30)))
  have HB1 := Lib.hid (Box.alloc b1 (.cells #[.int .i64 0, .int .i64 0, .slice none 0 0, .slice none 0 0, .slice none 0 0] 30))
  have HB2 := Lib.hid b2
  have HQ0 := Lib.hid ((((Q.refl w).alloc (.cells #[.int .i64 s.k, .int .i64 s.wt, .slice la L.length lc, .slice ra s.tks.length rc, .slice ma s.tks.length mc] 30)).alloc (.cells #[.int .i64 a, .int .i64 b, .int .i64 f] 34)).alloc (.cells #[.int .i64 0, .int .i64 0, .slice none 0 0, .slice none 0 0, .slice none 0 0] 30))
  clear hR ok b0 b1 b2
  by_cases hA : p < 0 ∨ (s.k : Int) ≤ p
  · have HE := Lib.hid (show offE s now p t a b f = 17 by unfold offE; rw [if_pos hA])
    have HZ := Lib.hid (show offT s now p t a b f = s by unfold offT; rw [HE.out, if_neg (by decide)])
    rcases (show p < 0 ∨ (0 ≤ p ∧ (s.k : Int) ≤ p) from by omega) with hp | ⟨hp, hp2⟩
    all_goals
      clear hA
      unfold rqA
      go_enter Try.func15, Try.ntmps15
      go_wp2
      refine bodyPost_ret (v := .tuple #[rqA s L.length la lc ra rc ma mc, .int .i64 17]) (by simp [results, Try.results15, go_sem, rqA]) rfl ?_
      rw [HE.out, HZ.out]
      refine ⟨L, la, lc, rfl, HR.out.q ?_, ?_, by omega, .inl rfl⟩
      all_goals repeat' (first | exact Q.refl _ | refine Q.alloc ?_ _ | refine Q.setCell ?_ (by simp) _)
  · have hp0 : 0 ≤ p := by omega
    have hpk : p < s.k := by omega
    unfold rqA
    go_enter Try.func15, Try.ntmps15
    go_wp2_with (fail)
    generalize ((w.alloc (.cells #[.int .i64 s.k, .int .i64 s.wt, .slice la L.length lc, .slice ra s.tks.length rc, .slice ma s.tks.length mc] 30)).alloc (.cells #[.int .i64 a, .int .i64 b, .int .i64 f] 34)).alloc (.cells #[.int .i64 0, .int .i64 0, .slice none 0 0, .slice none 0 0, .slice none 0 0] 30) = wa at *
    refine (rValidate_any a b f _).mono ?_
    rintro e w1 ⟨rfl, hq⟩
    have HB0a := Lib.hid (Box.q HB0.out hq)
    have HB1a := Lib.hid (Box.q HB1.out hq)
    have HB2a := Lib.hid (Box.q HB2.out hq)
    have HQa := Lib.hid (HQ0.out.trans hq)
    have HRa := Lib.hid (HR.out.q (HQ0.out.trans hq))
    clear hq HB0 HB1 HB2 HQ0
    obtain ⟨l0, c00, c01, c02, c03, c04⟩ := Box.here5 HB0a.out
    obtain ⟨l2, z0, z1, z2, z3, z4⟩ := Box.here5 HB2a.out
    obtain ⟨fz0, fz1, fz2, fz3, fz4⟩ := Box.free5 HB2a.out
    have HQs := Lib.hid (HQa.out.store5 (B := w.heap.size + 1 + 1) (by omega) (.int .i64 s.k) (.int .i64 s.wt) (.slice la L.length lc) (.slice ra s.tks.length rc) (.slice ma s.tks.length mc))
    have HBs := Lib.hid (HB2a.out.store5 (a' := .int .i64 s.k) (b' := .int .i64 s.wt) (c' := .slice la L.length lc) (d' := .slice ra s.tks.length rc) (e' := .slice ma s.tks.length mc))
    by_cases hv : errV a b f = 0
    case neg =>
      have hb : (errV a b f != 0) = true := by simpa using hv
      have HE := Lib.hid (show offE s now p t a b f = errV a b f by unfold offE; rw [if_neg (by omega), if_pos hv])
      have HZ := Lib.hid (show offT s now p t a b f = s by unfold offT; rw [HE.out, if_neg hv])
      go_wp2
      generalize (((((w1.setCell ⟨w.heap.size + 1 + 1, 0, none⟩ (.int .i64 s.k)).setCell ⟨w.heap.size + 1 + 1, 1, none⟩ (.int .i64 s.wt)).setCell ⟨w.heap.size + 1 + 1, 2, none⟩ (.slice la L.length lc)).setCell ⟨w.heap.size + 1 + 1, 3, none⟩ (.slice ra s.tks.length rc)).setCell ⟨w.heap.size + 1 + 1, 4, none⟩ (.slice ma s.tks.length mc)) = W at *
      obtain ⟨_, y0, y1, y2, y3, y4⟩ := Box.here5 HBs.out
      clear z0 z1 z2 z3 z4 fz0 fz1 fz2 fz3 fz4 c00 c01 c02 c03 c04
      refine bodyPost_ret (v := .tuple #[rqA s L.length la lc ra rc ma mc, .int .i64 (errV a b f)]) (by simp [results, Try.results15, go_sem, rqA, y0, y1, y2, y3, y4]) rfl ?_
      rw [HE.out, HZ.out]
      exact ⟨L, la, lc, rfl, HR.out.q HQs.out, HQs.out, by omega, .inl rfl⟩
    case pos =>
      have HV := Lib.hid hv
      rw [hv]
      clear hv
      by_cases hT : t < 0 ∨ 6000 ≤ t ∨ now + 8 < t
      · have HE := Lib.hid (show offE s now p t a b f = 18 by unfold offE; rw [if_neg (by omega), if_neg (by rw [HV.out]; decide), if_pos hT])
        have HZ := Lib.hid (show offT s now p t a b f = s by unfold offT; rw [HE.out, if_neg (by decide)])
        rcases (show t < 0 ∨ (0 ≤ t ∧ 6000 ≤ t) ∨ (0 ≤ t ∧ t < 6000 ∧ now + 8 < t) from by omega) with ht | ⟨ht, ht1⟩ | ⟨ht, ht1, ht2⟩
        all_goals
          clear hT
          go_wp2
          generalize (((((w1.setCell ⟨w.heap.size + 1 + 1, 0, none⟩ (.int .i64 s.k)).setCell ⟨w.heap.size + 1 + 1, 1, none⟩ (.int .i64 s.wt)).setCell ⟨w.heap.size + 1 + 1, 2, none⟩ (.slice la L.length lc)).setCell ⟨w.heap.size + 1 + 1, 3, none⟩ (.slice ra s.tks.length rc)).setCell ⟨w.heap.size + 1 + 1, 4, none⟩ (.slice ma s.tks.length mc)) = W at *
          obtain ⟨_, y0, y1, y2, y3, y4⟩ := Box.here5 HBs.out
          clear z0 z1 z2 z3 z4 fz0 fz1 fz2 fz3 fz4 c00 c01 c02 c03 c04
          refine bodyPost_ret (v := .tuple #[rqA s L.length la lc ra rc ma mc, .int .i64 18]) (by simp [results, Try.results15, go_sem, rqA, y0, y1, y2, y3, y4]) rfl ?_
          rw [HE.out, HZ.out]
          exact ⟨L, la, lc, rfl, HR.out.q HQs.out, HQs.out, by omega, .inl rfl⟩
      · have ht0 : 0 ≤ t := by omega
        have ht1 : t < 6000 := by omega
        have ht2 : t ≤ now + 8 := by omega
        have HTn := Lib.hid hT
        clear hT
        by_cases hl : t < s.tks.length
        · have HE := Lib.hid (show offE s now p t a b f = 20 by unfold offE; rw [if_neg (by omega), if_neg (by rw [HV.out]; decide), if_neg HTn.out, if_pos hl])
          have HZ := Lib.hid (show offT s now p t a b f = s by unfold offT; rw [HE.out, if_neg (by decide)])
          go_wp2
          generalize (((((w1.setCell ⟨w.heap.size + 1 + 1, 0, none⟩ (.int .i64 s.k)).setCell ⟨w.heap.size + 1 + 1, 1, none⟩ (.int .i64 s.wt)).setCell ⟨w.heap.size + 1 + 1, 2, none⟩ (.slice la L.length lc)).setCell ⟨w.heap.size + 1 + 1, 3, none⟩ (.slice ra s.tks.length rc)).setCell ⟨w.heap.size + 1 + 1, 4, none⟩ (.slice ma s.tks.length mc)) = W at *
          obtain ⟨_, y0, y1, y2, y3, y4⟩ := Box.here5 HBs.out
          clear z0 z1 z2 z3 z4 fz0 fz1 fz2 fz3 fz4 c00 c01 c02 c03 c04
          refine bodyPost_ret (v := .tuple #[rqA s L.length la lc ra rc ma mc, .int .i64 20]) (by simp [results, Try.results15, go_sem, rqA, y0, y1, y2, y3, y4]) rfl ?_
          rw [HE.out, HZ.out]
          exact ⟨L, la, lc, rfl, HR.out.q HQs.out, HQs.out, by omega, .inl rfl⟩
        · have hlb : (s.tks.length : Int) ≤ t := by omega
          have HN := Lib.hid (show offE s now p t a b f = if ((s.acc t).getD p.toNat none).isSome then 4 else 0 by unfold offE; rw [if_neg (by omega), if_neg (by rw [HV.out]; decide), if_neg HTn.out, if_neg hl])
          have hacc := HR.out.acc t p.toNat
          rw [Int.toNat_of_nonneg hp0] at hacc
          have HAC := Lib.hid hacc
          clear hacc hl
          go_wp2_with (fail)
          refine (rFind_any (.int .i64 s.k) (.int .i64 s.wt) la lc (.slice ra s.tks.length rc) (.slice ma s.tks.length mc) L p t _ HRa.out.sl hL).mono ?_
          rintro e w2 ⟨rfl, hq⟩
          have HB02 := Lib.hid (Box.q HB0a.out hq)
          have HB12 := Lib.hid (Box.q HB1a.out hq)
          have HB22 := Lib.hid (Box.q HB2a.out hq)
          have HQ2 := Lib.hid (HQa.out.trans hq)
          have HR2 := Lib.hid (HRa.out.q hq)
          clear hq HB0a HB1a HB2a HQa HRa l0 c00 c01 c02 c03 c04 l2 z0 z1 z2 z3 z4 fz0 fz1 fz2 fz3 fz4 HQs HBs
          obtain ⟨l0, c00, c01, c02, c03, c04⟩ := Box.here5 HB02.out
          obtain ⟨l2, z0, z1, z2, z3, z4⟩ := Box.here5 HB22.out
          obtain ⟨fz0, fz1, fz2, fz3, fz4⟩ := Box.free5 HB22.out
          cases hf : L.find? (isOn p t) with
          | some o =>
            obtain ⟨fi, hfi, _⟩ := findZ_some hf
            have HE := Lib.hid (show offE s now p t a b f = 4 by rw [HN.out, HAC.out, hf]; rfl)
            have HZ := Lib.hid (show offT s now p t a b f = s by unfold offT; rw [HE.out, if_neg (by decide)])
            have HQs := Lib.hid (HQ2.out.store5 (B := w.heap.size + 1 + 1) (by omega) (.int .i64 s.k) (.int .i64 s.wt) (.slice la L.length lc) (.slice ra s.tks.length rc) (.slice ma s.tks.length mc))
            have HBs := Lib.hid (HB22.out.store5 (a' := .int .i64 s.k) (b' := .int .i64 s.wt) (c' := .slice la L.length lc) (d' := .slice ra s.tks.length rc) (e' := .slice ma s.tks.length mc))
            rw [hfi]
            clear hf hfi
            go_wp2
            generalize (((((w2.setCell ⟨w.heap.size + 1 + 1, 0, none⟩ (.int .i64 s.k)).setCell ⟨w.heap.size + 1 + 1, 1, none⟩ (.int .i64 s.wt)).setCell ⟨w.heap.size + 1 + 1, 2, none⟩ (.slice la L.length lc)).setCell ⟨w.heap.size + 1 + 1, 3, none⟩ (.slice ra s.tks.length rc)).setCell ⟨w.heap.size + 1 + 1, 4, none⟩ (.slice ma s.tks.length mc)) = W at *
            obtain ⟨_, y0, y1, y2, y3, y4⟩ := Box.here5 HBs.out
            clear z0 z1 z2 z3 z4 fz0 fz1 fz2 fz3 fz4 c00 c01 c02 c03 c04
            refine bodyPost_ret (v := .tuple #[rqA s L.length la lc ra rc ma mc, .int .i64 4]) (by simp [results, Try.results15, go_sem, rqA, y0, y1, y2, y3, y4]) rfl ?_
            rw [HE.out, HZ.out]
            exact ⟨L, la, lc, rfl, HR.out.q HQs.out, HQs.out, by omega, .inl rfl⟩
          | none =>
            have HE := Lib.hid (show offE s now p t a b f = 0 by rw [HN.out, HAC.out, hf]; rfl)
            rw [findZ_none hf]
            have HF := Lib.hid hf
            clear hf
            obtain ⟨x, hx0, hx1, rfl, rfl, rfl⟩ := valid_codeQ HV.out
            obtain ⟨i0, hi, hz0, hz1, hz2⟩ := info_parts infoOne22
            have HI := Lib.hid hi
            clear hi
            go_upto_region 12 with (fail)
            go_cut [62] (fun s62 wx => ∃ a2 c2 wF, Q w2 wF ∧ Sl wF 5 a2 (L.length + 1) c2 ((L ++ [(⟨p, t, x⟩ : On)]).flatMap onC) ∧ (∀ y, a2 = some y → w.heap.size + 1 + 1 < y.block) ∧ wx = wF.setCell ⟨w.heap.size, 2, none⟩ (.slice a2 (L.length + 1) c2))
            case first =>
              clear c00 c01 c02 c03 c04 z0 z1 z2 z3 z4 fz0 fz1 fz2 fz3 fz4 l0 l2
              refine wp_region_treeS (fun w'' => ∃ x : After w2.drew, w'' = x.w) 11 (.val 1 (.val 2 (.val 4 (.val 5 (.val 6 (.val 7 (.two 0 (.two 3 (.one 8 (.one 9 (.val 10 (.one 11 (.fin))))) 8 (.one 3 (.one 9 (.val 10 (.one 11 (.fin)))))) 8 (.one 0 (.one 3 (.one 9 (.val 10 (.one 11 (.fin))))))))))))) (by kernel_rfl) (by kernel_rfl) (fun _ _ _ _ _ h => h) ⟨⟨_, Q.refl _⟩, rfl⟩ ?_
              have HQW := Lib.hid (Q.drew (Q.refl w2))
              have HRW := Lib.hid (HR2.out.q (Q.drew (Q.refl w2)))
              have HB0W := Lib.hid (Box.q HB02.out (Q.drew (Q.refl w2)))
              have HB1W := Lib.hid (Box.q HB12.out (Q.drew (Q.refl w2)))
              generalize w2.drew = W at *
              obtain ⟨b0, HB0⟩ : ∃ b0, Hid (b0 = hsz W) := ⟨_, Lib.hid rfl⟩
              have HQW0 := Lib.hid (Q.refl W)
              have q2 := Box.sf HB0W.out 2 _ rfl
              have i0' := Box.sf HB1W.out 0 _ rfl
              have i1' := Box.sf HB1W.out 1 _ rfl
              have i2' := Box.sf HB1W.out 2 _ rfl
              repeat (refine treeS_val rfl rfl ?_; go_big_quiet_step (fail); refine wpQuiet_nil ?_)
              clear q2 i0' i1' i2'
              refine treeS_two ?_ ?_
              · refine treeS_one rfl rfl ?_
                intro K hK
                go_wp2_with (fail)
                refine hK _ _ ⟨⟨_, HQW0.out.alloc _⟩, rfl⟩ ?_
                clear hK K
                have hqwE := (Q.refl W).alloc (.cells #[] 66)
                have hE0 : Hid ((W.alloc (.cells #[] 66)).ownsRow b0 66 5 (.slice (some ⟨W.heap.size, 0, none⟩) 0 0) 0 []) := Lib.hid (World.ownsRow_made W #[] 0 (hsz_le HB0.out HQW0.out) (by decide) rfl)
                generalize W.alloc (.cells #[] 66) = wE at *
                generalize W.heap.size = gE at *
                have HEwE := hE0
                clear hE0
                have HQwE := Lib.hid (HQW0.out.trans hqwE)
                clear hqwE
                refine treeS_two ?_ ?_
                · refine treeS_one rfl rfl ?_
                  intro K hK
                  refine wp_append_sl _ _ 26 rfl b0 66 i0 _ 5 40 Try.underlying26 HI.out hz0 hz1 hz2 rfl (by decide) _ 0 [] rfl HEwE.out la L.length lc _ rfl (HRW.out.sl.q HQwE.out) (onC_one L) (by omega) (by decide) (hsz_le HB0.out HQwE.out) ?_
                  intro a1 c1 wAE hown hgrow hgT
                  rw [Nat.zero_add] at hown hgT ⊢
                  rw [List.nil_append] at hown
                  have hqwAE : Q W wAE := HQwE.out.grown hgrow (fun k hk => hsz_ge HB0.out (HEwE.out.lt k hk).1)
                  refine hK _ _ ⟨⟨_, hqwAE⟩, rfl⟩ ?_
                  clear hK K
                  go_frame
                  have HAwAE := Lib.hid hown
                  clear hown hgrow hgT
                  have HQwAE := Lib.hid hqwAE
                  clear hqwAE
                  refine treeS_one rfl rfl ?_
                  intro K hK
                  go_wp2_with (fail)
                  refine hK _ _ ⟨⟨_, HQwAE.out.alloc _⟩, rfl⟩ ?_
                  clear hK K
                  have hqwBEA := (Q.refl wAE).alloc (.cells #[.int .i64 p, .int .i64 t, .int .i64 (x % 3 - 1), .int .i64 (x / 3 % 3 - 1), .int .i64 (x / 9)] 66)
                  have hB0 : Hid (Sl (wAE.alloc (.cells #[.int .i64 p, .int .i64 t, .int .i64 (x % 3 - 1), .int .i64 (x / 3 % 3 - 1), .int .i64 (x / 9)] 66)) 5 (some ⟨wAE.heap.size, 0, none⟩) 1 1 [.int .i64 p, .int .i64 t, .int .i64 (x % 3 - 1), .int .i64 (x / 3 % 3 - 1), .int .i64 (x / 9)]) := Lib.hid (sl_alloc wAE [.int .i64 p, .int .i64 t, .int .i64 (x % 3 - 1), .int .i64 (x / 3 % 3 - 1), .int .i64 (x / 9)] 66 5 rfl)
                  have hBl := Lib.hid (show wAE.heap.size < (wAE.alloc (.cells #[.int .i64 p, .int .i64 t, .int .i64 (x % 3 - 1), .int .i64 (x / 3 % 3 - 1), .int .i64 (x / 9)] 66)).heap.size from by rw [World.size_alloc]; omega)
                  generalize wAE.alloc (.cells #[.int .i64 p, .int .i64 t, .int .i64 (x % 3 - 1), .int .i64 (x / 3 % 3 - 1), .int .i64 (x / 9)] 66) = wBEA at *
                  generalize wAE.heap.size = gB at *
                  have HBlwBEA := hBl
                  clear hBl
                  have HBwBEA := hB0
                  clear hB0
                  have HQwBEA := Lib.hid (HQwAE.out.trans hqwBEA)
                  have HAwBEA := Lib.hid (own_q HAwAE.out hqwBEA)
                  clear hqwBEA
                  refine treeS_one rfl rfl ?_
                  intro K hK
                  refine wp_append_sl _ _ 26 rfl b0 66 i0 _ 5 40 Try.underlying26 HI.out hz0 hz1 hz2 rfl (by decide) _ L.length _ rfl HAwBEA.out (some ⟨gB, 0, none⟩) 1 1 _ rfl HBwBEA.out (by simp [Value.oneCell']) (by omega) (by decide) (hsz_le HB0.out HQwBEA.out) ?_
                  intro a2 c2 wF hown hgrow hgT
                  have hqF : Q W wF := HQwBEA.out.grown hgrow (fun k hk => hsz_ge HB0.out (HAwBEA.out.lt k hk).1)
                  refine hK _ _ ⟨⟨_, hqF⟩, rfl⟩ ?_
                  clear hK K
                  go_frame
                  have HOF := Lib.hid hown
                  have HQF := Lib.hid hqF
                  clear hown hgrow hgT hqF
                  refine treeS_val rfl rfl ?_; go_big_quiet_step (fail); refine wpQuiet_nil ?_
                  have hbQ := Box.q HB0W.out HQF.out
                  obtain ⟨lQ, k0, k1, k2, k3, k4⟩ := Box.here5 hbQ
                  have fQ2 := (Box.free5 hbQ).2.2.1
                  clear hbQ
                  refine treeS_last rfl rfl ?_
                  intro K hK
                  go_wp2_with (fail)
                  refine treeS_end ?_
                  clear k0 k1 k2 k3 k4 fQ2 lQ
                  go_wp2_with (fail)
                  go_meet
                  exact ⟨a2, c2, wF, HQW.out.trans HQF.out, by rw [List.flatMap_append, List.flatMap_singleton]; exact Sl.of_own HOF.out, fun y hy => by have h1 := (HOF.out.lt y.block (by subst hy; rfl)).1; have h2 := hsz_ge HB0.out h1; have h3 := HB22.out.1; have h4 := HQW.out.size; omega, rfl⟩
                · refine treeS_one rfl rfl ?_
                  intro K hK
                  go_wp2_with (fail)
                  refine hK _ _ ⟨⟨_, HQwE.out.alloc _⟩, rfl⟩ ?_
                  clear hK K
                  have hqwBE := (Q.refl wE).alloc (.cells #[.int .i64 p, .int .i64 t, .int .i64 (x % 3 - 1), .int .i64 (x / 3 % 3 - 1), .int .i64 (x / 9)] 66)
                  have hB0 : Hid (Sl (wE.alloc (.cells #[.int .i64 p, .int .i64 t, .int .i64 (x % 3 - 1), .int .i64 (x / 3 % 3 - 1), .int .i64 (x / 9)] 66)) 5 (some ⟨wE.heap.size, 0, none⟩) 1 1 [.int .i64 p, .int .i64 t, .int .i64 (x % 3 - 1), .int .i64 (x / 3 % 3 - 1), .int .i64 (x / 9)]) := Lib.hid (sl_alloc wE [.int .i64 p, .int .i64 t, .int .i64 (x % 3 - 1), .int .i64 (x / 3 % 3 - 1), .int .i64 (x / 9)] 66 5 rfl)
                  have hBl := Lib.hid (show wE.heap.size < (wE.alloc (.cells #[.int .i64 p, .int .i64 t, .int .i64 (x % 3 - 1), .int .i64 (x / 3 % 3 - 1), .int .i64 (x / 9)] 66)).heap.size from by rw [World.size_alloc]; omega)
                  have hEne := Lib.hid (show gE < wE.heap.size from (HEwE.out.lt gE rfl).2)
                  generalize wE.alloc (.cells #[.int .i64 p, .int .i64 t, .int .i64 (x % 3 - 1), .int .i64 (x / 3 % 3 - 1), .int .i64 (x / 9)] 66) = wBE at *
                  generalize wE.heap.size = gB at *
                  have HBlwBE := hBl
                  clear hBl
                  have HBwBE := hB0
                  clear hB0
                  have HQwBE := Lib.hid (HQwE.out.trans hqwBE)
                  have HEwBE := Lib.hid (own_q HEwE.out hqwBE)
                  clear hqwBE
                  refine treeS_one rfl rfl ?_
                  intro K hK
                  refine wp_append_sl _ _ 26 rfl b0 66 i0 _ 5 40 Try.underlying26 HI.out hz0 hz1 hz2 rfl (by decide) _ 0 [] rfl HEwBE.out la L.length lc _ rfl (HRW.out.sl.q HQwBE.out) (onC_one L) (by omega) (by decide) (hsz_le HB0.out HQwBE.out) ?_
                  intro a1 c1 wAEB hown hgrow hgT
                  rw [Nat.zero_add] at hown hgT ⊢
                  rw [List.nil_append] at hown
                  have hqwAEB : Q W wAEB := HQwBE.out.grown hgrow (fun k hk => hsz_ge HB0.out (HEwBE.out.lt k hk).1)
                  refine hK _ _ ⟨⟨_, hqwAEB⟩, rfl⟩ ?_
                  clear hK K
                  go_frame
                  have HAwAEB := Lib.hid hown
                  have HBwAEB := Lib.hid (HBwBE.out.qf (QF.grown (F := fun b => b = gE) hgrow (fun k hk => by cases hk; rfl)) (fun y hy e => by cases hy; have h1 := hEne.out; have h2 : gB = gE := e; omega))
                  clear hown hgrow hgT
                  have HQwAEB := Lib.hid hqwAEB
                  clear hqwAEB
                  refine treeS_one rfl rfl ?_
                  intro K hK
                  refine wp_append_sl _ _ 26 rfl b0 66 i0 _ 5 40 Try.underlying26 HI.out hz0 hz1 hz2 rfl (by decide) _ L.length _ rfl HAwAEB.out (some ⟨gB, 0, none⟩) 1 1 _ rfl HBwAEB.out (by simp [Value.oneCell']) (by omega) (by decide) (hsz_le HB0.out HQwAEB.out) ?_
                  intro a2 c2 wF hown hgrow hgT
                  have hqF : Q W wF := HQwAEB.out.grown hgrow (fun k hk => hsz_ge HB0.out (HAwAEB.out.lt k hk).1)
                  refine hK _ _ ⟨⟨_, hqF⟩, rfl⟩ ?_
                  clear hK K
                  go_frame
                  have HOF := Lib.hid hown
                  have HQF := Lib.hid hqF
                  clear hown hgrow hgT hqF
                  refine treeS_val rfl rfl ?_; go_big_quiet_step (fail); refine wpQuiet_nil ?_
                  have hbQ := Box.q HB0W.out HQF.out
                  obtain ⟨lQ, k0, k1, k2, k3, k4⟩ := Box.here5 hbQ
                  have fQ2 := (Box.free5 hbQ).2.2.1
                  clear hbQ
                  refine treeS_last rfl rfl ?_
                  intro K hK
                  go_wp2_with (fail)
                  refine treeS_end ?_
                  clear k0 k1 k2 k3 k4 fQ2 lQ
                  go_wp2_with (fail)
                  go_meet
                  exact ⟨a2, c2, wF, HQW.out.trans HQF.out, by rw [List.flatMap_append, List.flatMap_singleton]; exact Sl.of_own HOF.out, fun y hy => by have h1 := (HOF.out.lt y.block (by subst hy; rfl)).1; have h2 := hsz_ge HB0.out h1; have h3 := HB22.out.1; have h4 := HQW.out.size; omega, rfl⟩
              · refine treeS_one rfl rfl ?_
                intro K hK
                go_wp2_with (fail)
                refine hK _ _ ⟨⟨_, HQW0.out.alloc _⟩, rfl⟩ ?_
                clear hK K
                have hqwB := (Q.refl W).alloc (.cells #[.int .i64 p, .int .i64 t, .int .i64 (x % 3 - 1), .int .i64 (x / 3 % 3 - 1), .int .i64 (x / 9)] 66)
                have hB0 : Hid (Sl (W.alloc (.cells #[.int .i64 p, .int .i64 t, .int .i64 (x % 3 - 1), .int .i64 (x / 3 % 3 - 1), .int .i64 (x / 9)] 66)) 5 (some ⟨W.heap.size, 0, none⟩) 1 1 [.int .i64 p, .int .i64 t, .int .i64 (x % 3 - 1), .int .i64 (x / 3 % 3 - 1), .int .i64 (x / 9)]) := Lib.hid (sl_alloc W [.int .i64 p, .int .i64 t, .int .i64 (x % 3 - 1), .int .i64 (x / 3 % 3 - 1), .int .i64 (x / 9)] 66 5 rfl)
                have hBl := Lib.hid (show W.heap.size < (W.alloc (.cells #[.int .i64 p, .int .i64 t, .int .i64 (x % 3 - 1), .int .i64 (x / 3 % 3 - 1), .int .i64 (x / 9)] 66)).heap.size from by rw [World.size_alloc]; omega)
                generalize W.alloc (.cells #[.int .i64 p, .int .i64 t, .int .i64 (x % 3 - 1), .int .i64 (x / 3 % 3 - 1), .int .i64 (x / 9)] 66) = wB at *
                generalize W.heap.size = gB at *
                have HBlwB := hBl
                clear hBl
                have HBwB := hB0
                clear hB0
                have HQwB := Lib.hid (HQW0.out.trans hqwB)
                clear hqwB
                refine treeS_one rfl rfl ?_
                intro K hK
                go_wp2_with (fail)
                refine hK _ _ ⟨⟨_, HQwB.out.alloc _⟩, rfl⟩ ?_
                clear hK K
                have hqwEB := (Q.refl wB).alloc (.cells #[] 66)
                have hE0 : Hid ((wB.alloc (.cells #[] 66)).ownsRow b0 66 5 (.slice (some ⟨wB.heap.size, 0, none⟩) 0 0) 0 []) := Lib.hid (World.ownsRow_made wB #[] 0 (hsz_le HB0.out HQwB.out) (by decide) rfl)
                have hEne := Lib.hid (show gB < wB.heap.size from HBlwB.out)
                generalize wB.alloc (.cells #[] 66) = wEB at *
                generalize wB.heap.size = gE at *
                have HEwEB := hE0
                clear hE0
                have HQwEB := Lib.hid (HQwB.out.trans hqwEB)
                have HBwEB := Lib.hid (HBwB.out.q hqwEB)
                clear hqwEB
                refine treeS_one rfl rfl ?_
                intro K hK
                refine wp_append_sl _ _ 26 rfl b0 66 i0 _ 5 40 Try.underlying26 HI.out hz0 hz1 hz2 rfl (by decide) _ 0 [] rfl HEwEB.out la L.length lc _ rfl (HRW.out.sl.q HQwEB.out) (onC_one L) (by omega) (by decide) (hsz_le HB0.out HQwEB.out) ?_
                intro a1 c1 wABE hown hgrow hgT
                rw [Nat.zero_add] at hown hgT ⊢
                rw [List.nil_append] at hown
                have hqwABE : Q W wABE := HQwEB.out.grown hgrow (fun k hk => hsz_ge HB0.out (HEwEB.out.lt k hk).1)
                refine hK _ _ ⟨⟨_, hqwABE⟩, rfl⟩ ?_
                clear hK K
                go_frame
                have HAwABE := Lib.hid hown
                have HBwABE := Lib.hid (HBwEB.out.qf (QF.grown (F := fun b => b = gE) hgrow (fun k hk => by cases hk; rfl)) (fun y hy e => by cases hy; have h1 := hEne.out; have h2 : gB = gE := e; omega))
                clear hown hgrow hgT
                have HQwABE := Lib.hid hqwABE
                clear hqwABE
                refine treeS_one rfl rfl ?_
                intro K hK
                refine wp_append_sl _ _ 26 rfl b0 66 i0 _ 5 40 Try.underlying26 HI.out hz0 hz1 hz2 rfl (by decide) _ L.length _ rfl HAwABE.out (some ⟨gB, 0, none⟩) 1 1 _ rfl HBwABE.out (by simp [Value.oneCell']) (by omega) (by decide) (hsz_le HB0.out HQwABE.out) ?_
                intro a2 c2 wF hown hgrow hgT
                have hqF : Q W wF := HQwABE.out.grown hgrow (fun k hk => hsz_ge HB0.out (HAwABE.out.lt k hk).1)
                refine hK _ _ ⟨⟨_, hqF⟩, rfl⟩ ?_
                clear hK K
                go_frame
                have HOF := Lib.hid hown
                have HQF := Lib.hid hqF
                clear hown hgrow hgT hqF
                refine treeS_val rfl rfl ?_; go_big_quiet_step (fail); refine wpQuiet_nil ?_
                have hbQ := Box.q HB0W.out HQF.out
                obtain ⟨lQ, k0, k1, k2, k3, k4⟩ := Box.here5 hbQ
                have fQ2 := (Box.free5 hbQ).2.2.1
                clear hbQ
                refine treeS_last rfl rfl ?_
                intro K hK
                go_wp2_with (fail)
                refine treeS_end ?_
                clear k0 k1 k2 k3 k4 fQ2 lQ
                go_wp2_with (fail)
                go_meet
                exact ⟨a2, c2, wF, HQW.out.trans HQF.out, by rw [List.flatMap_append, List.flatMap_singleton]; exact Sl.of_own HOF.out, fun y hy => by have h1 := (HOF.out.lt y.block (by subst hy; rfl)).1; have h2 := hsz_ge HB0.out h1; have h3 := HB22.out.1; have h4 := HQW.out.size; omega, rfl⟩
            case rest =>
              obtain ⟨a2, c2, wF, hqF, hslF, hblF, rfl⟩ := hcut
              have HQF := Lib.hid (HQ2.out.trans hqF)
              have hne : w.heap.size + 1 + 1 ≠ w.heap.size := by omega
              have q2 : Q w (wF.setCell ⟨w.heap.size, 2, none⟩ (.slice a2 (L.length + 1) c2)) := (HQ2.out.trans hqF).setCell (p := ⟨w.heap.size, 2, none⟩) (Nat.le_refl _) _
              have bQ : Box (wF.setCell ⟨w.heap.size, 2, none⟩ (.slice a2 (L.length + 1) c2)) w.heap.size [.int .i64 s.k, .int .i64 s.wt, .slice a2 (L.length + 1) c2, .slice ra s.tks.length rc, .slice ma s.tks.length mc] := Box.set (Box.q HB02.out hqF) 2 _ (show 2 < 5 by decide)
              have bR := (Box.q HB22.out hqF).setFar (B' := w.heap.size) 2 (.slice a2 (L.length + 1) c2) hne
              have HSF := Lib.hid (hslF.qf (QF.set (F := (· = w.heap.size)) wF w.heap.size 2 (.slice a2 (L.length + 1) c2) rfl) (fun y hy e => by have h1 := hblF y hy; have h2 : y.block = w.heap.size := e; omega))
              have HBL := Lib.hid hblF
              have HQ3 := Lib.hid q2
              have HBQ := Lib.hid bQ
              have HBR := Lib.hid bR
              clear q2 bQ bR hslF hblF hqF hne HQF c00 c01 c02 c03 c04 z0 z1 z2 z3 z4 fz0 fz1 fz2 fz3 fz4 l0 l2
              generalize wF.setCell ⟨w.heap.size, 2, none⟩ (.slice a2 (L.length + 1) c2) = wG at *
              obtain ⟨l0, c00, c01, c02, c03, c04⟩ := Box.here5 HBQ.out
              obtain ⟨l2, z0, z1, z2, z3, z4⟩ := Box.here5 HBR.out
              obtain ⟨fz0, fz1, fz2, fz3, fz4⟩ := Box.free5 HBR.out
              have HQs := Lib.hid (HQ3.out.store5 (B := w.heap.size + 1 + 1) (by omega) (.int .i64 s.k) (.int .i64 s.wt) (.slice a2 (L.length + 1) c2) (.slice ra s.tks.length rc) (.slice ma s.tks.length mc))
              have HBs := Lib.hid (HBR.out.store5 (a' := .int .i64 s.k) (b' := .int .i64 s.wt) (c' := .slice a2 (L.length + 1) c2) (d' := .slice ra s.tks.length rc) (e' := .slice ma s.tks.length mc))
              have HSs := Lib.hid (HSF.out.store5 (B := w.heap.size + 1 + 1) (fun y hy => by have h1 := HBL.out y hy; omega) (.int .i64 s.k) (.int .i64 s.wt) (.slice a2 (L.length + 1) c2) (.slice ra s.tks.length rc) (.slice ma s.tks.length mc))
              have HZ := Lib.hid (show offT s now p t (x % 3 - 1) (x / 3 % 3 - 1) (x / 9) = accSet s t p.toNat x by unfold offT; rw [if_pos HE.out, codeOf_code])
              go_wp2
              generalize (((((wG.setCell ⟨w.heap.size + 1 + 1, 0, none⟩ (.int .i64 s.k)).setCell ⟨w.heap.size + 1 + 1, 1, none⟩ (.int .i64 s.wt)).setCell ⟨w.heap.size + 1 + 1, 2, none⟩ (.slice a2 (L.length + 1) c2)).setCell ⟨w.heap.size + 1 + 1, 3, none⟩ (.slice ra s.tks.length rc)).setCell ⟨w.heap.size + 1 + 1, 4, none⟩ (.slice ma s.tks.length mc)) = W at *
              obtain ⟨_, y0, y1, y2, y3, y4⟩ := Box.here5 HBs.out
              clear z0 z1 z2 z3 z4 fz0 fz1 fz2 fz3 fz4 c00 c01 c02 c03 c04
              have HRF := Lib.hid ((HR.out.q HQs.out).offered HOK.out p t x hp0 hpk HF.out h900 a2 c2 HSs.out)
              refine bodyPost_ret (v := .tuple #[rqA s (L.length + 1) a2 c2 ra rc ma mc, .int .i64 0]) (by simp [results, Try.results15, go_sem, rqA, y0, y1, y2, y3, y4]) rfl ?_
              rw [HE.out, HZ.out]
              exact ⟨L ++ [⟨p, t, x⟩], a2, c2, by rw [List.length_append]; rfl, HRF.out, HQs.out, by rw [List.length_append]; exact Nat.le_refl _, .inr fun y hy => ⟨by have := HBL.out y hy; omega, by
                obtain ⟨g, o, he, hg, _⟩ := HSs.out.pos (by omega)
                rw [he] at hy; cases hy; exact hg⟩⟩
end Go.Proofs.Ytpoffkkkkieniaa
