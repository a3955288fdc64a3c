/- The reference's queue in memory; contracts: find, Offer. -/
import Derived.Test.YtpoffkkkkieniaaQN
import Derived.Test.YtpoffkkkkieniaaTreeS
namespace Go.Proofs.Ytpoffkkkkieniaa
open Go Go.RowKit Go.BigFrame

structure On where
  p : Int
  t : Int
  c : Int
def onC (o : On) : List Value := [.int .i64 o.p, .int .i64 o.t, .int .i64 (o.c % 3 - 1), .int .i64 (o.c / 3 % 3 - 1), .int .i64 (o.c / 9)]
theorem onC_len (o : On) : (onC o).length = 5 := rfl
def isOn (p t : Int) (o : On) : Bool := decide (o.p = p ∧ o.t = t)
def fstV (c : Value × Value) : List Value := [c.1]
def sndV (c : Value × Value) : List Value := [c.2]
/-- the reference's queue: the slices of its value, and what they hold -/
structure RQ (w : World) (s : QS) (L : List On) (la : Option Addr) (lc : Nat) (ra : Option Addr) (rc : Nat) (ma : Option Addr) (mc : Nat) (cs : List (Value × Value)) : Prop where
  sl : Sl w 5 la L.length lc (L.flatMap onC)
  rows : Sl w 1 ra s.tks.length rc (cs.flatMap fstV)
  miss : Sl w 1 ma s.tks.length mc (cs.flatMap sndV)
  cl : cs.length = s.tks.length
  tk : ∀ (i : Nat) x, s.tks[i]? = some x → ∃ c, cs[i]? = some c ∧ TkAt w (fun _ => 5) x c
  acc : ∀ (t : Int) (p : Nat), (s.acc t).getD p none = (L.find? (isOn p t)).map On.c
  small : L.length ≤ 1000
def rqV (s : QS) (n : Nat) (la : Option Addr) (lc : Nat) (ra : Option Addr) (rc : Nat) (ma : Option Addr) (mc : Nat) : List Value :=
  [.int .i64 s.k, .int .i64 s.wt, .slice la n lc, .slice ra s.tks.length rc, .slice ma s.tks.length mc]
theorem TkAt.q5 {w w' : World} {x : List Int × List Bool} {c : Value × Value} (h : TkAt w (fun _ => 5) x c) (q : Q w w') : TkAt w' (fun _ => 5) x c := h.mono (QF.of (F := fun _ => False) q) (fun _ _ h => h) (fun _ h => h)
theorem RQ.q {w w' : World} {s : QS} {L : List On} {la ra ma : Option Addr} {lc rc mc : Nat} {cs : List (Value × Value)} (h : RQ w s L la lc ra rc ma mc cs) (q : Q w w') : RQ w' s L la lc ra rc ma mc cs :=
  ⟨h.sl.q q, h.rows.q q, h.miss.q q, h.cl, fun i x hx => by obtain ⟨c, h1, h2⟩ := h.tk i x hx; exact ⟨c, h1, h2.q5 q⟩, h.acc, h.small⟩
/-- the index that find returns -/
def findZ (L : List On) (p t : Int) : Int := match L.findIdx? (isOn p t) with | some i => i | none => -1
theorem findZ_none {L : List On} {p t : Int} (h : L.find? (isOn p t) = none) : findZ L p t = -1 := by
  unfold findZ
  rw [List.findIdx?_eq_none_iff.2 (fun x hx => by simpa using List.find?_eq_none.1 h x hx)]
theorem findZ_some {L : List On} {p t : Int} {o : On} (h : L.find? (isOn p t) = some o) : ∃ i : Nat, findZ L p t = i ∧ L[i]? = some o := by
  unfold findZ
  cases hf : L.findIdx? (isOn p t) with
  | none =>
    have := List.findIdx?_eq_none_iff.1 hf o (List.mem_of_find?_eq_some h)
    rw [List.find?_some h] at this
    cases this
  | some i =>
    refine ⟨i, rfl, ?_⟩
    obtain ⟨hl, h1, h2⟩ := List.findIdx?_eq_some_iff_getElem.1 hf
    rw [List.find?_eq_some_iff_getElem] at h
    obtain ⟨_, j, hj, rfl, h3⟩ := h
    rcases Nat.lt_trichotomy i j with hij | hij | hij
    · have := h3 i hij; rw [h1] at this; cases this
    · subst hij; exact List.getElem?_eq_getElem hj
    · have := h2 j hij; simp at this; simp [this] at *
theorem Sl.onAt {w : World} {a : Option Addr} {n cap : Nat} {l : List On} (h : Sl w 5 a n cap (l.flatMap onC)) (i : Nat) (hi : i < l.length) : ∃ g o, a = some ⟨g, o, none⟩ ∧ g < w.heap.size ∧ ∀ (j : Nat) u, (onC l[i])[j]? = some u → w.cell? ⟨g, o + i * 5 + j, none⟩ = some u := by
  have hn : l.length = n := by have := h.1; rw [flatL onC 5 onC_len] at this; omega
  obtain ⟨g, o, ha, hg, hc⟩ := h.pos (by omega)
  refine ⟨g, o, ha, hg, fun j u hu => ?_⟩
  have hj : j < 5 := by
    rcases Nat.lt_or_ge j 5 with h' | h'
    · exact h'
    · rw [List.getElem?_eq_none (by rw [onC_len]; exact h')] at hu; cases hu
  have := hc (i * 5 + j) u (by rw [flatG onC 5 onC_len l i j hi hj]; exact hu)
  rw [← Nat.add_assoc] at this
  exact this
set_option maxRecDepth 100000 in
theorem rFind_any (v0 v1 : Value) (la : Option Addr) (lc : Nat) (v3 v4 : Value) (L : List On) (p t : Int) (w : World) (hs : Sl w 5 la L.length lc (L.flatMap onC)) (hl : L.length ≤ 1000) :
    Calls Try.prog 27 #[.agg #[v0, v1, .slice la L.length lc, v3, v4], .int .i64 p, .int .i64 t] w fun e w' => e = .returned (.int .i64 (findZ L p t)) ∧ Q w w' := by
  have HS := Lib.hid hs
  have HB := Lib.hid (Box.new w [v0, v1, .slice la L.length lc, v3, v4] 30)
  have HQ := Lib.hid ((Q.refl w).alloc (.cells #[v0, v1, .slice la L.length lc, v3, v4] 30))
  clear hs
  go_enter Try.func27, Try.ntmps27
  go_wp2_with (fail)
  generalize w.alloc (.cells #[v0, v1, .slice la L.length lc, v3, v4] 30) = wa at *
  generalize w.heap.size = QB at *
  go_loopw [7] (fun v wr => ∃ i : Nat, i ≤ L.length ∧ v = .int .i64 i ∧ (∀ (j : Nat) o, j < i → L[j]? = some o → isOn p t o = false) ∧ Q wa wr) (fun v _ => L.length - (intOf v).toNat)
  case atStart => exact ⟨0, by omega, rfl, fun j o h => by omega, Q.refl _⟩
  case round =>
    obtain ⟨i, hi, rfl, hno, hq⟩ := hrel
    have HNO := Lib.hid hno
    have HQr := Lib.hid hq
    have hb2 := ((Box.q HB.out hq).2 2 _ rfl).1
    have hbl := (Box.q HB.out hq).1
    clear hno hq
    by_cases hil : i < L.length
    · have hii : (i : Int) < L.length := by omega
      obtain ⟨g, o, rfl, hg, hcs⟩ := (HS.out.q (HQ.out.trans HQr.out)).onAt i hil
      have c0 : wr.cell? ⟨g, o + i * 5, none⟩ = some (.int .i64 L[i].p) := hcs 0 _ rfl
      have c1 : wr.cell? ⟨g, o + i * 5 + 1, none⟩ = some (.int .i64 L[i].t) := hcs 1 _ rfl
      have HLI := Lib.hid (List.getElem?_eq_getElem hil)
      generalize L[i] = y at *
      clear hcs
      by_cases hp : y.p = p
      · have hb : (y.p == p) = true := by simpa using hp
        by_cases ht : y.t = t
        · have hbt : (y.t == t) = true := by simpa using ht
          have HF := Lib.hid (show findZ L p t = i by
            unfold findZ
            have : L.findIdx? (isOn p t) = some i := by
              rw [List.findIdx?_eq_some_iff_getElem]
              refine ⟨hil, ?_, fun j hj => ?_⟩
              · have := HLI.out
                rw [List.getElem?_eq_getElem hil] at this
                rw [Option.some.inj this]
                unfold isOn
                rw [decide_eq_true ⟨hp, ht⟩]
              · have := HNO.out j _ hj (List.getElem?_eq_getElem (by omega))
                simp [this]
            rw [this])
          clear hp ht
          go_wp2
          go_ret
          rw [HF.out]
          exact ⟨rfl, HQ.out.trans HQr.out⟩
        · have hbt : (y.t == t) = false := by simpa using ht
          have HN2 := Lib.hid (show isOn p t y = false by unfold isOn; rw [decide_eq_false]; exact fun h => ht h.2)
          clear hp ht
          go_wp2_with (fail)
          go_roundw
          case rel =>
            refine ⟨i + 1, by omega, by go_num, fun j o' hj ho' => ?_, HQr.out⟩
            by_cases hji : j = i
            · rw [hji, HLI.out] at ho'; cases ho'; exact HN2.out
            · exact HNO.out j o' (by omega) ho'
          case measure => simp [intOf]; omega
      · have hb : (y.p == p) = false := by simpa using hp
        have HN2 := Lib.hid (show isOn p t y = false by unfold isOn; rw [decide_eq_false]; exact fun h => hp h.1)
        clear hp
        go_wp2_with (fail)
        go_roundw
        case rel =>
          refine ⟨i + 1, by omega, by go_num, fun j o' hj ho' => ?_, HQr.out⟩
          by_cases hji : j = i
          · rw [hji, HLI.out] at ho'; cases ho'; exact HN2.out
          · exact HNO.out j o' (by omega) ho'
        case measure => simp [intOf]; omega
    · have hii : ¬ (i : Int) < L.length := by omega
      have HF := Lib.hid (show findZ L p t = -1 from findZ_none (by
        rw [List.find?_eq_none]
        intro x hx
        obtain ⟨j, hj⟩ := List.mem_iff_getElem?.1 hx
        have := HNO.out j x (by have := (List.getElem?_eq_some_iff.1 hj).1; omega) hj
        simp [this]))
      go_wp2
      go_ret
      rw [HF.out]
      exact ⟨rfl, HQ.out.trans HQr.out⟩
end Go.Proofs.Ytpoffkkkkieniaa
