/- A queue beside other memory; contract: lives (chapter 22). -/
import Derived.Test.YtpoffkkkkieniaaQE
import Derived.Test.YtpoffkkkkieniaaQF
namespace Go.Proofs.Ytpoffkkkkieniaa
open Go Go.RowKit Go.BigFrame

/-- behind a call: a queue that was made behind w0 -/
theorem qstep {w0 w w' : World} {B : Nat} {col : Nat → Nat} {s' : QS} (hq : Q w0 w) (h0 : ∀ b, b < w0.heap.size → col b = 0) (hd : QDone B col w s' w') :
    ∃ col', Que w' B col' s' ∧ Q w0 w' ∧ (∀ b, b < w0.heap.size → col' b = 0) ∧ Ext w col col' ∧ QF (colF col) w w' := by
  obtain ⟨col', h1, h2, h3⟩ := hd
  exact ⟨col', h1, QF.q hq h3 (fun k hk => by
    rcases Nat.lt_or_ge k w0.heap.size with h | h
    · exact absurd (h0 k h) hk
    · exact h), fun b hb => (h2 b (Nat.lt_of_lt_of_le hb hq.size)).trans (h0 b hb), h2, h3⟩
/-- a slice that is none of the queue's -/
def SlO (w : World) (col : Nat → Nat) (size : Nat) (a : Option Addr) (n cap : Nat) (cs : List Value) : Prop := Sl w size a n cap cs ∧ ∀ x, a = some x → x.block < w.heap.size ∧ col x.block = 0
theorem SlO.q {w w' : World} {col : Nat → Nat} {size n cap : Nat} {a : Option Addr} {cs : List Value} (h : SlO w col size a n cap cs) (q : Q w w') : SlO w' col size a n cap cs :=
  ⟨h.1.q q, fun x hx => ⟨Nat.lt_of_lt_of_le (h.2 x hx).1 q.size, (h.2 x hx).2⟩⟩
theorem SlO.done {w w' : World} {col col' : Nat → Nat} {size n cap : Nat} {a : Option Addr} {cs : List Value} (h : SlO w col size a n cap cs) (he : Ext w col col') (hf : QF (colF col) w w') : SlO w' col' size a n cap cs :=
  ⟨h.1.qf hf (fun x hx hc => hc (h.2 x hx).2), fun x hx => ⟨Nat.lt_of_lt_of_le (h.2 x hx).1 hf.size, (he _ (h.2 x hx).1).trans (h.2 x hx).2⟩⟩
theorem SlO.new {w w' : World} {B : Nat} {col : Nat → Nat} {s : QS} {E : TypeId} {size n cap : Nat} {a : Option Addr} {cs : List Value} (hQ : Que w B col s) (h : w'.ownsRow w.heap.size E size (.slice a n cap) n cs) : SlO w' col size a n cap cs := by
  refine ⟨Sl.of_own h, fun x hx => ?_⟩
  rcases h.2 with ⟨he, _⟩ | ⟨g, c, cur, he, hb, hg, _⟩
  · cases he; cases hx
  · cases he
    cases hx
    exact ⟨(Array.getElem?_eq_some_iff.1 hg).1, Classical.byContradiction fun hn => by have := hQ.lt g hn; omega⟩
/-- a block that is none of the queue's -/
theorem BoxO.done {w w' : World} {col col' : Nat → Nat} {G : Nat} {vs : List Value} (h : Box w G vs) (h0 : col G = 0) (he : Ext w col col') (hf : QF (colF col) w w') : Box w' G vs ∧ col' G = 0 :=
  ⟨h.qf hf (fun hc => hc h0), (he _ h.1).trans h0⟩
theorem Que.new0 {w : World} {B : Nat} {col : Nat → Nat} {s : QS} (h : Que w B col s) (b : Nat) (hb : w.heap.size ≤ b) : col b = 0 := Classical.byContradiction fun hn => by have := h.lt b hn; omega

def liveA : QS := qs0 1 2
def liveB : QS := fixT liveA
def liveC : QS := accSet liveB 1 0 (codeOf 1 0 2)
def liveD : QS := fixT liveC
theorem live1 : advT (qs0 1 2) 1 = liveA := advT_not (by decide)
theorem live2 : advT liveA 2 = liveB := by
  rw [advT_due (by decide) (by decide)]
  exact advT_not (by decide)
theorem live3 : offE liveB 2 0 1 1 0 2 = 0 ∧ offT liveB 2 0 1 1 0 2 = liveC := by
  have h : offE liveB 2 0 1 1 0 2 = 0 := by decide
  exact ⟨h, by unfold offT; rw [if_pos h]; rfl⟩
theorem live4 : advT liveC 2 = liveD := by
  rw [advT_due (by decide) (by decide)]
  exact advT_not (by decide)
theorem okA : OkS liveA := ok0 (by omega) (by omega) (by omega)
theorem okB : OkS liveB := ok_fix okA (by decide)
theorem okC : OkS liveC := ok_set okB 1 0 _ (by decide) (by decide)
theorem okD : OkS liveD := ok_fix okC (by decide)
set_option maxRecDepth 100000 in
set_option maxHeartbeats 1000000 in
theorem lives22_any (w : World) : Calls Try.prog 19 #[] w fun e w' => e = .returned (.bool true) ∧ Q w w' := by
  go_enter Try.func19, Try.ntmps19
  go_wp2_with (fail)
  refine (qNew_any 1 2 _).mono ?_
  rintro e w1 ⟨B, col, rfl, hQ, hq, hc⟩
  have HQ1 := Lib.hid hQ
  have Hq1 := Lib.hid hq
  have HC := Lib.hid hc
  clear hQ hq hc
  go_wp2_with (fail)
  refine (qAdvance_any B col _ 1 _ HQ1.out okA (by omega)).mono ?_
  rintro e w2 ⟨rfl, hd⟩
  rw [live1] at hd ⊢
  rw [show ((liveA.tks.length : Int) - (qs0 1 2).tks.length) = 0 from by decide]
  obtain ⟨col2, h1, h2, h3, _, _⟩ := qstep Hq1.out HC.out hd
  have HQ2 := Lib.hid h1
  have Hq2 := Lib.hid h2
  have HC2 := Lib.hid h3
  clear hd h1 h2 h3 HQ1 Hq1 HC
  go_wp2_with (fail)
  refine (qAdvance_any B col2 _ 2 _ HQ2.out okA (by omega)).mono ?_
  rintro e w3 ⟨rfl, hd⟩
  rw [live2] at hd ⊢
  rw [show ((liveB.tks.length : Int) - liveA.tks.length) = 1 from by decide]
  obtain ⟨col3, h1, h2, h3, _, _⟩ := qstep Hq2.out HC2.out hd
  have HQ3 := Lib.hid h1
  have Hq3 := Lib.hid h2
  have HC3 := Lib.hid h3
  clear hd h1 h2 h3 HQ2 Hq2 HC2
  go_wp2_with (fail)
  refine (qFixed_yes B col3 _ 0 ([4], [true]) _ HQ3.out okB (by decide)).mono ?_
  rintro e w4 ⟨a, ca, b, cb, rfl, ha, hb, hq⟩
  have SA := Lib.hid (SlO.new HQ3.out ha)
  have SB := Lib.hid (SlO.new HQ3.out hb)
  have HQ4 := Lib.hid (HQ3.out.q hq)
  have Hq4 := Lib.hid (Hq3.out.trans hq)
  clear ha hb hq HQ3 Hq3
  go_wp2_with (fail)
  refine (qOffer_any B col3 _ 2 0 1 1 0 2 _ HQ4.out okB (by omega) (by omega)).mono ?_
  rintro e w5 ⟨rfl, hd⟩
  rw [live3.2] at hd
  rw [live3.1]
  obtain ⟨col5, h1, h2, h3, h4, h5⟩ := qstep Hq4.out HC3.out hd
  have HQ5 := Lib.hid h1
  have Hq5 := Lib.hid h2
  have HC5 := Lib.hid h3
  have SA5 := Lib.hid (SA.out.done h4 h5)
  have SB5 := Lib.hid (SB.out.done h4 h5)
  clear hd h1 h2 h3 h4 h5 HQ4 Hq4 HC3 SA SB
  go_wp2_with (fail)
  refine (qAdvance_any B col5 _ 2 _ HQ5.out okC (by omega)).mono ?_
  rintro e w6 ⟨rfl, hd⟩
  rw [live4] at hd ⊢
  rw [show ((liveD.tks.length : Int) - liveC.tks.length) = 1 from by decide]
  obtain ⟨col6, h1, h2, h3, h4, h5⟩ := qstep Hq5.out HC5.out hd
  have HQ6 := Lib.hid h1
  have Hq6 := Lib.hid h2
  have SA6 := Lib.hid (SA5.out.done h4 h5)
  have SB6 := Lib.hid (SB5.out.done h4 h5)
  clear hd h1 h2 h3 h4 h5 HQ5 Hq5 HC5 SA5 SB5
  go_wp2_with (fail)
  refine (qFixed_yes B col6 _ 1 ([23], [false]) _ HQ6.out okD (by decide)).mono ?_
  rintro e w7 ⟨a7, ca7, b7, cb7, rfl, ha, hb, hq⟩
  have S7 := Lib.hid (Sl.of_own ha)
  have T7 := Lib.hid (Sl.of_own hb)
  have SA7 := Lib.hid (SA6.out.q hq)
  have SB7 := Lib.hid (SB6.out.q hq)
  have Hq7 := Lib.hid (Hq6.out.trans hq)
  clear ha hb hq HQ6 Hq6 SA6 SB6
  obtain ⟨g1, o1, rfl, l1, k1⟩ := SA7.out.1.pos (by decide)
  obtain ⟨g2, o2, rfl, l2, k2⟩ := SB7.out.1.pos (by decide)
  obtain ⟨g3, o3, rfl, l3, k3⟩ := S7.out.pos (by decide)
  obtain ⟨g4, o4, rfl, l4, k4⟩ := T7.out.pos (by decide)
  have c10 : w7.cell? ⟨g1, o1, none⟩ = some (.int .i64 0) := k1 0 _ rfl
  have c11 : w7.cell? ⟨g1, o1 + 1, none⟩ = some (.int .i64 0) := k1 1 _ rfl
  have c12 : w7.cell? ⟨g1, o1 + 2, none⟩ = some (.int .i64 0) := k1 2 _ rfl
  have c20 : w7.cell? ⟨g2, o2, none⟩ = some (.bool true) := k2 0 _ rfl
  have c30 : w7.cell? ⟨g3, o3, none⟩ = some (.int .i64 1) := k3 0 _ rfl
  have c31 : w7.cell? ⟨g3, o3 + 1, none⟩ = some (.int .i64 0) := k3 1 _ rfl
  have c32 : w7.cell? ⟨g3, o3 + 2, none⟩ = some (.int .i64 2) := k3 2 _ rfl
  have c40 : w7.cell? ⟨g4, o4, none⟩ = some (.bool false) := k4 0 _ rfl
  clear k1 k2 k3 k4
  go_wp2
  go_ret
  exact ⟨rfl, Hq7.out⟩
end Go.Proofs.Ytpoffkkkkieniaa
