/- Contract: the reference's complete; rows of a call's own that are appended to in turn. -/
import Derived.Test.YtpoffkkkkieniaaQT
namespace Go.Proofs.Ytpoffkkkkieniaa
open Go Go.RowKit Go.BigFrame

/-- two values that do not lie in one block -/
def Apart (u v : Value) : Prop := ∀ k, u.ownBlock = some k → v.ownBlock ≠ some k
theorem Apart.symm {u v : Value} (h : Apart u v) : Apart v u := fun k h1 h2 => h k h2 h1
theorem apart_grown {w : World} {base : Nat} {u v v' : Value} {E : TypeId} {z m : Nat} {xs : List Value} (ha : Apart u v) (ho : w.ownsRow base E z v m xs) (hk : ∀ k, v'.ownBlock = some k → u.ownBlock = some k ∨ w.heap.size ≤ k) : Apart v' v := by
  intro k h1 h2
  rcases hk k h1 with h' | h'
  · exact ha k h' h2
  · have := (ho.lt k h2).2; omega
theorem append_one_f {P : Program} {w1 : World} {ops : Array Oper} {rest : List Oper} {op : Oper} {a : Act} {R : Exit → Act → World → Prop} (hgd : op.guard = none) (s x : Operand) (t : TypeId)
    (ho : op.op = .call { callee := .builtin .append, args := #[s, x], argTypes := #[t, t] })
    (base : Nat) (E : TypeId) (i : TypeInfo) (z : Value) (size bytes : Nat) (ht : P.underlying t = some (.slice E)) (hi : P.info? E = some i) (hz : i.zero = some z)
    (hsize : i.size = size) (hby : i.bytes = bytes) (hzs : z.cells.size = size) (hsz : 0 < size)
    (v : Value) (n : Nat) (xs : List Value) (hs : a.eval s = v) (hown : w1.ownsRow base E size v n xs)
    (B : Nat) (hB : w1.heap.size = B) (news : List Value) (hx : a.eval x = .slice (some ⟨B, 0, none⟩) 1 1) (hl : news.length = size) (h1 : ∀ u ∈ news, u.oneCell' = true)
    (hn : n ≤ 90000) (hby2 : bytes ≤ 100000) (hb : base ≤ w1.heap.size)
    (h : ∀ g cap w', w'.ownsRow base E size (.slice (some ⟨g, 0, none⟩) (n + 1) cap) (n + 1) (xs ++ news) → QF (fun b => v.ownBlock = some b) w1 w' →
      (∀ k, (Value.slice (some ⟨g, 0, none⟩) (n + 1) cap).ownBlock = some k → v.ownBlock = some k ∨ w1.heap.size ≤ k) → wpList P ops R rest (a.put op.dst (.slice (some ⟨g, 0, none⟩) (n + 1) cap)) w') :
    wpList P ops R (op :: rest) a (w1.alloc (.cells news.toArray E)) := by
  subst hB
  have hq : Q w1 (w1.alloc (.cells news.toArray E)) := (Q.refl w1).alloc _
  have hsl : Sl (w1.alloc (.cells news.toArray E)) size (some ⟨w1.heap.size, 0, none⟩) 1 1 news := by
    refine ⟨by omega, by omega, by decide, (fun e => by cases e), .inr ⟨w1.heap.size, 0, rfl, by simp, fun j u hu => ?_⟩⟩
    rw [Nat.zero_add]
    exact ((Box.new w1 news E).2 j u hu).1
  refine wpList_append_sl hgd s x t ho base E i z size bytes ht hi hz hsize hby hzs hsz v n xs hs (hown.alloc _) (some ⟨w1.heap.size, 0, none⟩) 1 1 news hx hsl h1 (by omega) hby2 (by have := hq.size; omega) ?_
  intro a' cap w' hown' hg hk
  obtain ⟨g, rfl⟩ : ∃ g, a' = some ⟨g, 0, none⟩ := by
    rcases hown'.2 with ⟨he, h0⟩ | ⟨g, c, cur, he, _⟩
    · omega
    · cases he; exact ⟨g, rfl⟩
  refine h g cap w' hown' ?_ ?_
  · have h2 := QF.grown (F := fun b => v.ownBlock = some b) hg (fun k e => e)
    exact (QF.of (F := fun b => v.ownBlock = some b) hq).trans h2 (fun i e => .inl e)
  · intro k hk'
    rcases hk k hk' with h' | h'
    · exact .inl h'
    · exact .inr (by have := hq.size; omega)
/-- the blocks of the reference's slices -/
def Cl (G : Nat → Prop) (la ra ma : Option Addr) (cs : List (Value × Value)) : Prop :=
  (∀ x, (la = some x ∨ ra = some x ∨ ma = some x) → G x.block) ∧ ∀ c ∈ cs, ∀ x n m, (c.1 = .slice (some x) n m ∨ c.2 = .slice (some x) n m) → G x.block
theorem Cl.mono {G H : Nat → Prop} {la ra ma : Option Addr} {cs : List (Value × Value)} (h : Cl G la ra ma cs) (k : ∀ b, G b → H b) : Cl H la ra ma cs := ⟨fun x hx => k _ (h.1 x hx), fun c hc x n m hx => k _ (h.2 c hc x n m hx)⟩
theorem RQ.qf {w w' : World} {F : Nat → Prop} {s : QS} {L : List On} {la ra ma : Option Addr} {lc rc mc : Nat} {cs : List (Value × Value)} (h1 : RQ w s L la lc ra rc ma mc cs) (q : QF F w w') (hF : Cl (fun b => ¬ F b) la ra ma cs) : RQ w' s L la lc ra rc ma mc cs := by
  refine ⟨h1.sl.qf q (fun x hx => hF.1 x (.inl hx)), h1.rows.qf q (fun x hx => hF.1 x (.inr (.inl hx))), h1.miss.qf q (fun x hx => hF.1 x (.inr (.inr hx))), h1.cl, fun i x hx => ?_, h1.acc, h1.small⟩
  obtain ⟨c, hc, a, ca, b, cb, hcc, ha, hb, _, _⟩ := h1.tk i x hx
  have hm := List.mem_of_getElem? hc
  exact ⟨c, hc, a, ca, b, cb, hcc, ha.qf q (fun y hy => hF.2 c hm y _ _ (.inl (by rw [hcc, hy]))), hb.qf q (fun y hy => hF.2 c hm y _ _ (.inr (by rw [hcc, hy]))), fun _ _ => rfl, fun _ _ => rfl⟩
/-- all inputs of tick t are given -/
def complA (s : QS) (t : Int) : Bool := (List.range s.k).all (fun p => ((s.acc t).getD p none).isSome)
theorem find_lt {w : World} {s : QS} {L : List On} {la ra ma : Option Addr} {lc rc mc : Nat} {cs : List (Value × Value)} (h : RQ w s L la lc ra rc ma mc cs) (p : Nat) (t : Int) : (findZ L p t < 0 ↔ ((s.acc t).getD p none).isSome = false) := by
  rw [h.acc t p]
  cases hf : L.find? (isOn p t) with
  | none => rw [findZ_none hf]; simp
  | some o =>
    obtain ⟨i, h1, _⟩ := findZ_some hf
    rw [h1]
    simp
set_option maxRecDepth 100000 in
set_option maxHeartbeats 1000000 in
theorem rComplete_any (s : QS) (L : List On) (la : Option Addr) (lc : Nat) (ra : Option Addr) (rc : Nat) (ma : Option Addr) (mc : Nat) (cs : List (Value × Value)) (t : Int) (w : World) (hR : RQ w s L la lc ra rc ma mc cs) (hk : s.k ≤ 8) :
    Calls Try.prog 26 #[rqA s L.length la lc ra rc ma mc, .int .i64 t] w fun e w' => e = .returned (.bool (complA s t)) ∧ Q w w' := by
  have HR := Lib.hid hR
  have HB := Lib.hid (Box.new w [.int .i64 s.k, .int .i64 s.wt, .slice la L.length lc, .slice ra s.tks.length rc, .slice ma s.tks.length mc] 30)
  have HQ := Lib.hid ((Q.refl w).alloc (.cells #[.int .i64 s.k, .int .i64 s.wt, .slice la L.length lc, .slice ra s.tks.length rc, .slice ma s.tks.length mc] 30))
  have hl := hR.small
  clear hR
  unfold rqA
  go_enter Try.func26, Try.ntmps26
  go_wp2_with (fail)
  generalize w.alloc (.cells #[.int .i64 s.k, .int .i64 s.wt, .slice la L.length lc, .slice ra s.tks.length rc, .slice ma s.tks.length mc] 30) = wa at *
  generalize w.heap.size = QB at *
  go_loopw [5] (fun v wr => ∃ p : Nat, p ≤ s.k ∧ v = .int .i64 p ∧ (∀ j, j < p → ((s.acc t).getD j none).isSome = true) ∧ Q wa wr) (fun v _ => s.k - (intOf v).toNat)
  case atStart => exact ⟨0, by omega, rfl, fun j h => by omega, Q.refl _⟩
  case round =>
    obtain ⟨p, hp, rfl, hall, hq⟩ := hrel
    have HA := Lib.hid hall
    have HQr := Lib.hid hq
    obtain ⟨l0, c0, c1, c2, c3, c4⟩ := Box.here5 (Box.q HB.out hq)
    clear hall hq
    by_cases hpk : p < s.k
    · have hpi : (p : Int) < (s.k : Int) := by omega
      go_wp2_with (fail)
      refine (rFind_any _ _ la lc _ _ L p t wr (HR.out.sl.q (HQ.out.trans HQr.out)) hl).mono ?_
      have HF := Lib.hid (find_lt HR.out p t)
      generalize findZ L p t = z at *
      rintro e w1 ⟨rfl, hq1⟩
      have HQ1 := Lib.hid (HQr.out.trans hq1)
      clear hq1
      cases hs : ((s.acc t).getD p none).isSome with
      | false =>
        have hz : z < 0 := HF.out.2 hs
        have HC := Lib.hid (show complA s t = false by
          unfold complA
          rw [List.all_eq_false]
          exact ⟨p, List.mem_range.2 hpk, by rw [hs]; decide⟩)
        clear hs
        go_wp2
        go_ret
        rw [HC.out]
        exact ⟨rfl, HQ.out.trans HQ1.out⟩
      | true =>
        have hz : ¬ z < 0 := fun e => by have := HF.out.1 e; rw [hs] at this; cases this
        have HS := Lib.hid hs
        clear hs
        go_wp2_with (fail)
        go_roundw
        case rel =>
          refine ⟨p + 1, by omega, by go_num, fun j hj => ?_, HQ1.out⟩
          rcases Nat.lt_or_ge j p with h | h
          · exact HA.out j h
          · rw [show j = p by omega]; exact HS.out
        case measure => simp [intOf]; omega
    · have hpe : p = s.k := by omega
      have hpi : ¬ (p : Int) < (s.k : Int) := by omega
      have HC := Lib.hid (show complA s t = true by
        unfold complA
        rw [List.all_eq_true]
        intro j hj
        exact HA.out j (by rw [hpe]; exact List.mem_range.1 hj))
      clear hpe
      go_wp2
      go_ret
      rw [HC.out]
      exact ⟨rfl, HQ.out.trans HQr.out⟩
end Go.Proofs.Ytpoffkkkkieniaa
