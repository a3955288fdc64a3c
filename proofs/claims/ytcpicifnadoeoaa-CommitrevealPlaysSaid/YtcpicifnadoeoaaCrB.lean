/- A round in memory; contracts: New, Close, Open, player, first. -/
import Derived.Test.YtcpicifnadoeoaaCrA
import Derived.Test.YtcpicifnadoeoaaEqual
import Derived.Test.YtcpicifnadoeoaaSame
namespace Go.Proofs.Ytcpicifnadoeoaa
open Go Go.RowKit Go.BigFrame

/-- what is known of a player -/
structure St where
  com : Bool
  rev : Bool
  c : Int
  inn : Int
def st0 : St := ⟨false, false, 0, 4⟩
def stC (s : St) : List Value := [.bool s.com, .bool s.rev, .int .u64 s.c, .int .i64 (s.inn % 3 - 1), .int .i64 (s.inn / 3 % 3 - 1), .int .i64 (s.inn / 9)]
/-- the cells of a round -/
def rdC (t p : Int) (o : Bool) (sts : List St) : List Value := .int .i64 t :: .int .i64 p :: .bool o :: sts.flatMap stC
def Rd (w : World) (B : Nat) (t p : Int) (o : Bool) (sts : List St) : Prop := Box w B (rdC t p o sts)
/-- all but block B is kept -/
def QX (B : Nat) (w w' : World) : Prop := w.grownBy w' (some B)

theorem flat_get {α : Type} (f : α → List Value) (m : Nat) (hf : ∀ x, (f x).length = m) (l : List α) (i j : Nat) (hi : i < l.length) (hj : j < m) : (l.flatMap f)[i * m + j]? = (f l[i])[j]? := by
  induction l generalizing i with
  | nil => simp at hi
  | cons x l ih =>
    rw [List.flatMap_cons]
    cases i with
    | zero => rw [List.getElem?_append_left (by rw [hf]; omega)]; simp
    | succ i =>
      rw [List.getElem?_append_right (by rw [hf, Nat.succ_mul]; omega), hf, show (i + 1) * m + j - m = i * m + j by rw [Nat.succ_mul]; omega, ih i (by simpa using hi)]
      simp
theorem flat_set {α : Type} (f : α → List Value) (m : Nat) (hf : ∀ x, (f x).length = m) (l : List α) (i j : Nat) (u : Value) (y : α) (hi : i < l.length) (hj : j < m) (hy : f y = (f l[i]).set j u) : (l.flatMap f).set (i * m + j) u = (l.set i y).flatMap f := by
  induction l generalizing i with
  | nil => simp at hi
  | cons x l ih =>
    cases i with
    | zero =>
      rw [List.flatMap_cons, List.set_append_left _ _ (by rw [hf]; omega)]
      simp at hy
      simp [hy]
    | succ i =>
      rw [List.flatMap_cons, List.set_append_right _ _ (by rw [hf, Nat.succ_mul]; omega), hf, show (i + 1) * m + j - m = i * m + j by rw [Nat.succ_mul]; omega, ih i (by simpa using hi) (by simpa using hy)]
      simp
theorem stC_len (s : St) : (stC s).length = 6 := rfl

theorem crNew_any (p t : Int) (w : World) : Calls Try.prog 15 #[.int .i64 p, .int .i64 t] w fun e w' => e = .returned (.pointer (some ⟨w.heap.size, 0, none⟩)) ∧ Rd w' w.heap.size t p false (List.replicate 8 st0) ∧ Q w w' := by
  go_enter Try.func15, Try.ntmps15
  go_wp2
  go_ret
  exact ⟨rfl, Box.new w (rdC t p false (List.replicate 8 st0)) 73, (Q.refl w).alloc _⟩

theorem QX.refl (B : Nat) (w : World) : QX B w w := ⟨rfl, rfl, rfl, Nat.le_refl _, fun _ _ _ => rfl⟩
theorem QX.of {B : Nat} {w w' : World} (h : Q w w') : QX B w w' := ⟨Below.os h, Below.tape h, Below.output h, h.size, fun k hk _ => Below.block h k hk⟩
theorem QX.trans {B : Nat} {a b c : World} (h : QX B a b) (k : QX B b c) : QX B a c :=
  ⟨k.os.trans h.os, k.tape.trans h.tape, k.output.trans h.output, Nat.le_trans h.size k.size, fun i hi hne => (k.block i (Nat.lt_of_lt_of_le hi h.size) hne).trans (h.block i hi hne)⟩
theorem QX.set (w : World) (B i : Nat) (v : Value) : QX B w (w.setCell ⟨B, i, none⟩ v) :=
  ⟨rfl, rfl, rfl, by simp, fun k _ hne => Below.heap_setCell _ _ _ _ (fun e => hne (by rw [e]))⟩
theorem Q.qx {B : Nat} {w a b : World} (h : Q w a) (g : QX B a b) (hB : w.heap.size ≤ B) : Q w b := h.grown g (fun k hk => by cases hk; exact hB)
theorem Box.qx {w w' : World} {B B' : Nat} {vs : List Value} (h : Box w B' vs) (g : QX B w w') (hB : B' ≠ B) : Box w' B' vs := by
  have hb := g.block B' h.1 (fun e => hB (by cases e; rfl))
  refine ⟨Nat.lt_of_lt_of_le h.1 g.size, fun k v hv => ?_⟩
  exact ⟨(World.cell?_of_block (a := ⟨B', k, none⟩) hb).trans (h.2 k v hv).1, (World.frozen?_of_block (a := ⟨B', k, none⟩) hb).trans (h.2 k v hv).2⟩
theorem Sl.qx {w w' : World} {B size n cap : Nat} {a : Option Addr} {cs : List Value} (h : Sl w size a n cap cs) (g : QX B w w') (hB : ∀ x, a = some x → x.block ≠ B) : Sl w' size a n cap cs := by
  obtain ⟨h1, h2, h3, h4, h5⟩ := h
  refine ⟨h1, h2, h3, h4, ?_⟩
  rcases h5 with h5 | ⟨g', o, ha, hg, hc⟩
  · exact .inl h5
  · exact .inr ⟨g', o, ha, Nat.lt_of_lt_of_le hg g.size, fun j u hu => (World.cell?_of_block (a := ⟨g', o + j, none⟩) (g.block g' hg (fun e => hB _ ha (by cases e; rfl)))).trans (hc j u hu)⟩
theorem own_qx {w w' : World} {B base : Nat} {E : TypeId} {size : Nat} {v : Value} {n : Nat} {cs : List Value} (h : w.ownsRow base E size v n cs) (g : QX B w w') (hB : B < base) : w'.ownsRow base E size v n cs := by
  obtain ⟨h1, h2⟩ := h
  refine ⟨h1, ?_⟩
  rcases h2 with h2 | ⟨b, c, cur, he, hb, hg, r⟩
  · exact .inl h2
  · exact .inr ⟨b, c, cur, he, hb, (g.block b (Array.getElem?_eq_some_iff.1 hg).1 (fun e => by cases e; omega)).trans hg, r⟩

theorem rdC_at (t p : Int) (o : Bool) (sts : List St) (i j : Nat) (hi : i < sts.length) (hj : j < 6) : (rdC t p o sts)[3 + (i * 6 + j)]? = (stC sts[i])[j]? := by
  unfold rdC
  rw [show 3 + (i * 6 + j) = (i * 6 + j) + 1 + 1 + 1 by omega]
  simp only [List.getElem?_cons_succ]
  exact flat_get stC 6 stC_len sts i j hi hj
theorem rdC_set (t p : Int) (o : Bool) (sts : List St) (i j : Nat) (u : Value) (y : St) (hi : i < sts.length) (hj : j < 6) (hy : stC y = (stC sts[i]).set j u) : (rdC t p o sts).set (3 + (i * 6 + j)) u = rdC t p o (sts.set i y) := by
  unfold rdC
  rw [show 3 + (i * 6 + j) = (i * 6 + j) + 1 + 1 + 1 by omega]
  simp only [List.set_cons_succ]
  rw [flat_set stC 6 stC_len sts i j u y hi hj hy]
theorem Box.set' {w : World} {B : Nat} {vs : List Value} (h : Box w B vs) (i : Nat) (u : Value) (hi : i < vs.length) : Box (w.setCell ⟨B, i, none⟩ u) B (vs.set i u) := Box.set h i u hi

theorem crClose_any (B : Nat) (t p : Int) (o : Bool) (sts : List St) (w : World) (hR : Rd w B t p o sts) :
    Calls Try.prog 18 #[.pointer (some ⟨B, 0, none⟩)] w fun e w' => (∃ v, e = .returned v) ∧ Rd w' B t p true sts ∧ QX B w w' := by
  have HR := Lib.hid hR
  obtain ⟨c2, f2⟩ := hR.2 2 (.bool o) rfl
  have hlt := hR.1
  clear hR
  go_enter Try.func18, Try.ntmps18
  go_wp2
  go_end0
  exact ⟨⟨_, rfl⟩, HR.out.set 2 (.bool true) (by simp [rdC]), QX.set _ _ _ _⟩
theorem crOpen_any (B : Nat) (t p : Int) (o : Bool) (sts : List St) (w : World) (hR : Rd w B t p o sts) :
    Calls Try.prog 31 #[.pointer (some ⟨B, 0, none⟩)] w fun e w' => e = .returned (.bool o) ∧ w' = w := by
  obtain ⟨c2, f2⟩ := hR.2 2 (.bool o) rfl
  have hlt := hR.1
  clear hR
  go_enter Try.func31, Try.ntmps31
  go_wp2
  go_ret
  exact ⟨rfl, rfl⟩
theorem crPlayer_no (B : Nat) (t p i : Int) (o : Bool) (sts : List St) (w : World) (hR : Rd w B t p o sts) (h : i < 0 ∨ p ≤ i) :
    Calls Try.prog 38 #[.pointer (some ⟨B, 0, none⟩), .int .i64 i] w fun e w' => e = .returned (.tuple #[.pointer none, .int .i64 17]) ∧ w' = w := by
  obtain ⟨c1, _⟩ := hR.2 1 (.int .i64 p) rfl
  have hlt := hR.1
  clear hR
  by_cases h0 : i < 0
  · go_enter Try.func38, Try.ntmps38
    go_wp2
    go_ret2
    exact ⟨rfl, rfl⟩
  · have h1 : p ≤ i := by omega
    go_enter Try.func38, Try.ntmps38
    go_wp2
    go_ret2
    exact ⟨rfl, rfl⟩
theorem crPlayer_yes (B : Nat) (t p : Int) (i : Nat) (o : Bool) (sts : List St) (w : World) (hR : Rd w B t p o sts) (h : (i : Int) < p) (hp : p ≤ 8) :
    Calls Try.prog 38 #[.pointer (some ⟨B, 0, none⟩), .int .i64 i] w fun e w' => e = .returned (.tuple #[.pointer (some ⟨B, 3 + i * 6, none⟩), .int .i64 0]) ∧ w' = w := by
  obtain ⟨c1, _⟩ := hR.2 1 (.int .i64 p) rfl
  have hlt := hR.1
  clear hR
  go_enter Try.func38, Try.ntmps38
  go_wp2
  go_ret2
  exact ⟨rfl, rfl⟩

/-- the error of the first condition that does not hold -/
def firstE : List (Bool × Int) → Int
  | [] => 0
  | (h, e) :: r => if h then firstE r else e
def chC (x : Bool × Int) : List Value := [.bool x.1, .int .i64 x.2]
theorem crFirst_any (a : Option Addr) (n cap : Nat) (cs : List (Bool × Int)) (w : World) (hs : Sl w 2 a n cap (cs.flatMap chC)) (hn : n ≤ 100) (hl : cs.length = n) :
    Calls Try.prog 39 #[.slice a n cap] w fun e w' => e = .returned (.int .i64 (firstE cs)) ∧ Q w w' := by
  have HS := Lib.hid hs
  have HL := Lib.hid hl
  clear hs hl
  go_enter Try.func39, Try.ntmps39
  go_wp2_with (fail)
  go_loopw [7] (fun i wr => ∃ k : Nat, k ≤ n ∧ i = .int .i64 k ∧ Q w wr ∧ firstE cs = firstE (cs.drop k)) (fun i _ => n - (intOf i).toNat)
  case atStart => exact ⟨0, by omega, rfl, Q.refl _, rfl⟩
  case round =>
    obtain ⟨k, hk, rfl, hq, he⟩ := hrel
    have HE := Lib.hid he
    clear he
    by_cases hlt : k < n
    · obtain ⟨g, o, rfl, hg, hc⟩ := (HS.out.q hq).pos (by omega)
      have hzl : k < cs.length := by rw [HL.out]; exact hlt
      have c0 : wr.cell? ⟨g, o + k * 2, none⟩ = some _ := hc (k * 2) (.bool cs[k].1) (by rw [show k * 2 = k * 2 + 0 by omega, flat_get chC 2 (fun _ => rfl) cs k 0 hzl (by omega)]; rfl)
      have c1 : wr.cell? ⟨g, o + k * 2 + 1, none⟩ = some _ := hc (k * 2 + 1) (.int .i64 cs[k].2) (by rw [flat_get chC 2 (fun _ => rfl) cs k 1 hzl (by omega)]; rfl)
      have hd : cs.drop k = cs[k] :: cs.drop (k + 1) := List.drop_eq_getElem_cons hzl
      have HE2 := Lib.hid (show firstE cs = if cs[k].1 then firstE (cs.drop (k + 1)) else cs[k].2 by rw [HE.out, hd]; rfl)
      have HQ := Lib.hid hq
      generalize cs[k] = x at *
      obtain ⟨h, e⟩ := x
      clear hc hd hq
      cases h with
      | true =>
        go_wp2_with (fail)
        go_roundw
        case rel => exact ⟨k + 1, by omega, by go_num, by first | exact HQ.out.alloc _ | exact (HQ.out.alloc _).setCell (by simp; have := HQ.out.size; omega) _, HE2.out⟩
        case measure => simp [intOf]; omega
      | false =>
        go_wp2
        go_ret
        rw [HE2.out]
        exact ⟨rfl, by first | exact HQ.out.alloc _ | exact (HQ.out.alloc _).setCell (by simp; have := HQ.out.size; omega) _⟩
    · have hkn : k = n := by omega
      have HZ := Lib.hid (show firstE cs = 0 by rw [HE.out, List.drop_of_length_le (by rw [HL.out]; omega)]; rfl)
      go_wp2
      go_ret
      rw [HZ.out]
      exact ⟨rfl, hq⟩
end Go.Proofs.Ytcpicifnadoeoaa
