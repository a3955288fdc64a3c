/- The input queue in memory; contracts: New, Next, Clone. -/
import Derived.Test.YtpoffkkkkieniaaQM
import Derived.Test.YtpoffkkkkieniaaSame
import Derived.Test.YtpoffkkkkieniaaInR
namespace Go.Proofs.Ytpoffkkkkieniaa
open Go Go.RowKit

def kI (t : Int) : Value := .int .i64 t
theorem kI_inj (x y : Int) (h : kI x = kI y) : x = y := by unfold kI at h; cases h; rfl
theorem keyedInt : Maps.Keyed Try.prog 3 := Maps.int_keyed Try.underlying3
theorem keyInt (t : Int) (h : -9223372036854775808 ≤ t ∧ t ≤ 9223372036854775807) : keyOf Try.prog 3 (kI t) = some (.int .i64 t) :=
  Maps.keyOf_int_mk Try.underlying3 (by simp [Lit.wf, IntKind.min, IntKind.max, IntKind.signed, IntKind.bits]; omega)
def pairC (x : Value × Value) : List Value := [x.1, x.2]
/-- a fixed tick, as it lies in memory -/
def TkAt (w : World) (col : Nat → Nat) (x : List Int × List Bool) (c : Value × Value) : Prop :=
  ∃ a ca b cb, c = (.slice a x.1.length ca, .slice b x.2.length cb) ∧ Sl w 3 a x.1.length ca (inCells x.1) ∧ Sl w 1 b x.2.length cb (x.2.map Value.bool) ∧ (∀ g, a = some g → col g.block = 5) ∧ (∀ g, b = some g → col g.block = 5)
def rowP (o : Option Nat) : Option Value := o.map fun b => .pointer (some ⟨b, 0, none⟩)
structure QueX (w : World) (B : Nat) (col : Nat → Nat) (s : QS) (MB : Nat) (ta : Option Addr) (tc : Nat) (cs : List (Value × Value)) (mp : Int → Option Nat) : Prop where
  box : Box w B [.int .i64 s.k, .int .i64 s.wt, .map (some MB), .slice ta s.tks.length tc]
  map : MapIs Try.prog 3 kI w MB (fun t => rowP (mp t))
  row : ∀ t b, mp t = some b → Box w b (rowC (s.acc t)) ∧ col b = 4
  inj : ∀ t u b, mp t = some b → mp u = some b → t = u
  nn : ∀ t, mp t = none → (s.tks.length : Int) ≤ t → s.acc t = none8
  cl : cs.length = s.tks.length
  tk : ∀ (i : Nat) x, s.tks[i]? = some x → ∃ c, cs[i]? = some c ∧ TkAt w col x c
  own : w.ownsRow 0 74 2 (.slice ta s.tks.length tc) s.tks.length (cs.flatMap pairC)
  cB : col B = 1
  cM : col MB = 2
  cT : ∀ g, (Value.slice ta s.tks.length tc).ownBlock = some g → col g = 3
  lt : ∀ b, col b ≠ 0 → b < w.heap.size
def Que (w : World) (B : Nat) (col : Nat → Nat) (s : QS) : Prop := ∃ MB ta tc cs mp, QueX w B col s MB ta tc cs mp
/-- col' colours the blocks that were there as col does -/
def Ext (w : World) (col col' : Nat → Nat) : Prop := ∀ b, b < w.heap.size → col' b = col b
def colF (col : Nat → Nat) (b : Nat) : Prop := col b ≠ 0
theorem TkAt.mono {w w' : World} {col col' : Nat → Nat} {x : List Int × List Bool} {c : Value × Value} {F : Nat → Prop} (h : TkAt w col x c) (q : QF F w w') (hF : ∀ b, col b = 5 → ¬ F b) (hc : ∀ b, col b = 5 → col' b = 5) : TkAt w' col' x c := by
  obtain ⟨a, ca, b, cb, h1, h2, h3, h4, h5⟩ := h
  exact ⟨a, ca, b, cb, h1, h2.qf q (fun g hg => hF _ (h4 g hg)), h3.qf q (fun g hg => hF _ (h5 g hg)), fun g hg => hc _ (h4 g hg), fun g hg => hc _ (h5 g hg)⟩
/-- what leaves the queue's blocks alone -/
theorem QueX.qf {w w' : World} {B MB tc : Nat} {col : Nat → Nat} {s : QS} {ta : Option Addr} {cs : List (Value × Value)} {mp : Int → Option Nat} {F : Nat → Prop}
    (h : QueX w B col s MB ta tc cs mp) (q : QF F w w') (hF : ∀ b, F b → col b = 0) : QueX w' B col s MB ta tc cs mp where
  box := h.box.qf q (fun hf => by have := hF _ hf; rw [h.cB] at this; cases this)
  map := h.map.qf q (fun hf => by have := hF _ hf; rw [h.cM] at this; cases this)
  row := fun t b hb => ⟨(h.row t b hb).1.qf q (fun hf => by have := hF _ hf; rw [(h.row t b hb).2] at this; cases this), (h.row t b hb).2⟩
  inj := h.inj
  nn := h.nn
  cl := h.cl
  tk := fun i x hx => by
    obtain ⟨c, hc, ht⟩ := h.tk i x hx
    exact ⟨c, hc, ht.mono q (fun b hb hf => by have := hF _ hf; omega) (fun _ hb => hb)⟩
  own := own_qf h.own q (fun g hg hf => by have := hF _ hf; rw [h.cT g hg] at this; cases this)
  cB := h.cB
  cM := h.cM
  cT := h.cT
  lt := fun b hb => Nat.lt_of_lt_of_le (h.lt b hb) q.size
theorem QueX.q {w w' : World} {B MB tc : Nat} {col : Nat → Nat} {s : QS} {ta : Option Addr} {cs : List (Value × Value)} {mp : Int → Option Nat}
    (h : QueX w B col s MB ta tc cs mp) (q : Q w w') : QueX w' B col s MB ta tc cs mp := h.qf (QF.of (F := fun _ => False) q) (fun _ hf => hf.elim)
theorem Que.q {w w' : World} {B : Nat} {col : Nat → Nat} {s : QS} (h : Que w B col s) (q : Q w w') : Que w' B col s := by
  obtain ⟨MB, ta, tc, cs, mp, hx⟩ := h
  exact ⟨MB, ta, tc, cs, mp, hx.q q⟩
theorem Que.qf {w w' : World} {B : Nat} {col : Nat → Nat} {s : QS} {F : Nat → Prop} (h : Que w B col s) (q : QF F w w') (hF : ∀ b, F b → col b = 0) : Que w' B col s := by
  obtain ⟨MB, ta, tc, cs, mp, hx⟩ := h
  exact ⟨MB, ta, tc, cs, mp, hx.qf q hF⟩
theorem Que.lt {w : World} {B : Nat} {col : Nat → Nat} {s : QS} (h : Que w B col s) : ∀ b, col b ≠ 0 → b < w.heap.size := by
  obtain ⟨MB, ta, tc, cs, mp, hx⟩ := h
  exact hx.lt
/-- what a call on the queue leaves -/
def QDone (B : Nat) (col : Nat → Nat) (w : World) (s' : QS) (w' : World) : Prop := ∃ col', Que w' B col' s' ∧ Ext w col col' ∧ QF (colF col) w w'
theorem QDone.same {B : Nat} {col : Nat → Nat} {w w' : World} {s : QS} (h : Que w B col s) (q : Q w w') : QDone B col w s w' := ⟨col, h.q q, fun _ _ => rfl, QF.of q⟩

/-- a new row for a tick that had none -/
theorem QueX.newRow {w w' : World} {B MB tc : Nat} {col : Nat → Nat} {s : QS} {ta : Option Addr} {cs : List (Value × Value)} {mp : Int → Option Nat} (h : QueX w B col s MB ta tc cs mp) (t : Int) (R : Nat) (hR : col R = 0)
    (hm : mp t = none) (ht : (s.tks.length : Int) ≤ t) (hbox : Box w' R (rowC none8)) (q : QF (· = MB) w w') (hmap : MapIs Try.prog 3 kI w' MB (fun y => if y = t then some (.pointer (some ⟨R, 0, none⟩)) else rowP (mp y))) :
    QueX w' B (fun b => if b = R then 4 else col b) s MB ta tc cs (fun y => if y = t then some R else mp y) where
  box := h.box.qf q (fun e => by have h1 := h.cB; have h2 := h.cM; rw [e] at h1; omega)
  map := by
    have e : (fun y => if y = t then some (Value.pointer (some ⟨R, 0, none⟩)) else rowP (mp y)) = fun y => rowP (if y = t then some R else mp y) := by
      funext y
      split <;> rfl
    rw [← e]; exact hmap
  row := fun u b hb => by
    show Box w' b (rowC (s.acc u)) ∧ (if b = R then 4 else col b) = 4
    replace hb : (if u = t then some R else mp u) = some b := hb
    split at hb
    · rename_i hu
      cases hb
      exact ⟨by rw [hu, h.nn t hm ht]; exact hbox, if_pos rfl⟩
    · obtain ⟨h1, h2⟩ := h.row u b hb
      refine ⟨h1.qf q (fun e => by have := h.cM; rw [e] at h2; omega), ?_⟩
      split <;> omega
  inj := fun u v b hu hv => by
    replace hu : (if u = t then some R else mp u) = some b := hu
    replace hv : (if v = t then some R else mp v) = some b := hv
    split at hu <;> split at hv
    · omega
    · cases hu
      have := (h.row v R hv).2
      omega
    · cases hv
      have := (h.row u R hu).2
      omega
    · exact h.inj u v b hu hv
  nn := fun u hu hl => by
    replace hu : (if u = t then some R else mp u) = none := hu
    split at hu
    · cases hu
    · exact h.nn u hu hl
  cl := h.cl
  tk := fun i x hx => by
    obtain ⟨c, hc, hk⟩ := h.tk i x hx
    exact ⟨c, hc, hk.mono q (fun b hb e => by have := h.cM; rw [e] at hb; omega) (fun b hb => by show (if b = R then 4 else col b) = 5; rw [if_neg (fun e => by rw [e] at hb; omega)]; exact hb)⟩
  own := own_qf h.own q (fun g hg e => by have h1 := h.cT g hg; have := h.cM; rw [e] at h1; omega)
  cB := by show (if B = R then 4 else col B) = 1; rw [if_neg (fun e => by have := h.cB; rw [e] at this; omega)]; exact h.cB
  cM := by show (if MB = R then 4 else col MB) = 2; rw [if_neg (fun e => by have := h.cM; rw [e] at this; omega)]; exact h.cM
  cT := fun g hg => by
    have h1 := h.cT g hg
    show (if g = R then 4 else col g) = 3
    rw [if_neg (fun e => by rw [e] at h1; omega)]; exact h1
  lt := fun b hb => by
    replace hb : (if b = R then 4 else col b) ≠ 0 := hb
    split at hb
    · rename_i e; rw [e]; exact hbox.1
    · exact Nat.lt_of_lt_of_le (h.lt b hb) q.size
/-- the row of a tick has turned -/
theorem QueX.setRow {w w' : World} {B MB tc R : Nat} {col : Nat → Nat} {s : QS} {ta : Option Addr} {cs : List (Value × Value)} {mp : Int → Option Nat} (h : QueX w B col s MB ta tc cs mp) (t : Int) (p : Nat) (c : Int)
    (hm : mp t = some R) (hbox : Box w' R (rowC ((s.acc t).set p (some c)))) (q : QF (· = R) w w') : QueX w' B col (accSet s t p c) MB ta tc cs mp where
  box := h.box.qf q (fun e => by have h1 := h.cB; have h2 := (h.row t R hm).2; rw [e] at h1; omega)
  map := h.map.qf q (fun e => by have h1 := h.cM; have h2 := (h.row t R hm).2; rw [e] at h1; omega)
  row := fun u b hb => by
    have h2 := (h.row u b hb)
    refine ⟨?_, h2.2⟩
    show Box w' b (rowC (if u = t then (s.acc t).set p (some c) else s.acc u))
    split
    · rename_i hu
      rw [hu, hm] at hb
      cases hb
      exact hbox
    · rename_i hu
      exact h2.1.qf q (fun e => hu (h.inj u t R (by rw [← e]; exact hb) hm))
  inj := h.inj
  nn := fun u hu hl => by
    show (if u = t then (s.acc t).set p (some c) else s.acc u) = none8
    rw [if_neg (fun e => by rw [e, hm] at hu; cases hu)]
    exact h.nn u hu hl
  cl := h.cl
  tk := fun i x hx => by
    obtain ⟨d, hd, hk⟩ := h.tk i x hx
    exact ⟨d, hd, hk.mono q (fun b hb e => by have := (h.row t R hm).2; rw [e] at hb; omega) (fun b hb => hb)⟩
  own := own_qf h.own q (fun g hg e => by have h1 := h.cT g hg; have := (h.row t R hm).2; rw [e] at h1; omega)
  cB := h.cB
  cM := h.cM
  cT := h.cT
  lt := fun b hb => Nat.lt_of_lt_of_le (h.lt b hb) q.size

theorem qNew_any (k wt : Nat) (w : World) :
    Calls Try.prog 11 #[.int .i64 k, .int .i64 wt] w fun e w' => ∃ B col, e = .returned (.pointer (some ⟨B, 0, none⟩)) ∧ Que w' B col (qs0 k wt) ∧ Q w w' ∧ ∀ b, b < w.heap.size → col b = 0 := by
  have hmm := @run_makeMap Try.prog
  go_enter Try.func11, Try.ntmps11
  go_wp2
  go_ret
  refine ⟨w.heap.size + 1, fun b => if b = w.heap.size + 1 then 1 else if b = w.heap.size then 2 else 0, rfl, ⟨w.heap.size, none, 0, [], fun _ => none, ?_⟩, ((Q.refl w).alloc _).alloc _, fun b hb => by show (if _ then _ else _) = _; rw [if_neg (by omega), if_neg (by omega)]⟩
  have hm := MapIs.new (f := kI) w Try.prog 3
  have hb := Box.new (w.alloc (.map #[] 0)) [.int .i64 k, .int .i64 wt, .map (some w.heap.size), .slice none 0 0] 62
  refine ⟨by rw [World.size_alloc] at hb; exact hb, hm.q ((Q.refl _).alloc _), (fun _ _ h => by cases h), (fun _ _ _ h => by cases h), fun _ _ _ => rfl, rfl, (fun i x hx => by simp [qs0] at hx), World.ownsRow_nil _ _ _ _, if_pos rfl, ?_, (fun g hg => by cases hg), fun b hb => ?_⟩
  · show (if _ then _ else _) = _
    rw [if_neg (by omega), if_pos rfl]
  · simp only [World.size_alloc]
    replace hb : (if b = w.heap.size + 1 then 1 else if b = w.heap.size then 2 else 0) ≠ 0 := hb
    split at hb
    · omega
    · split at hb
      · omega
      · exact absurd rfl hb
theorem qNext_any (B : Nat) (col : Nat → Nat) (s : QS) (w : World) (h : Que w B col s) : Calls Try.prog 17 #[.pointer (some ⟨B, 0, none⟩)] w fun e w' => e = .returned (.int .i64 s.tks.length) ∧ w = w' := by
  obtain ⟨MB, ta, tc, cs, mp, hx⟩ := h
  obtain ⟨c3, _⟩ := hx.box.2 3 _ rfl
  have hlt := hx.box.1
  clear hx
  go_enter Try.func17, Try.ntmps17
  go_wp2
  go_ret
  exact ⟨rfl, rfl⟩
end Go.Proofs.Ytpoffkkkkieniaa
