/- Slices: what is said of one that is read, and of one that a call has made; the codes of valid inputs. -/
import Derived.Test.YtpoffkkkkieniaaSoft
import Derived.Deep.AppendLies
namespace Go.Proofs.Ytpoffkkkkieniaa
open Go Go.RowKit

/-- the slice (a, n, cap) reads as the cells cs, size cells an element -/
def Sl (w : World) (size : Nat) (a : Option Addr) (n cap : Nat) (cs : List Value) : Prop :=
  cs.length = n * size ∧ n ≤ cap ∧ cap ≤ maxLen ∧ (a = none → cap = 0) ∧ (n = 0 ∨ ∃ g o, a = some ⟨g, o, none⟩ ∧ g < w.heap.size ∧ ∀ (j : Nat) u, cs[j]? = some u → w.cell? ⟨g, o + j, none⟩ = some u)
theorem Sl.q {w w' : World} {size : Nat} {a : Option Addr} {n cap : Nat} {cs : List Value} (h : Sl w size a n cap cs) (q : Q w w') : Sl w' size a n cap cs := by
  obtain ⟨h1, h2, h3, h4, h5⟩ := h
  refine ⟨h1, h2, h3, h4, ?_⟩
  rcases h5 with h5 | ⟨g, o, ha, hg, hc⟩
  · exact .inl h5
  · exact .inr ⟨g, o, ha, Nat.lt_of_lt_of_le hg q.size, fun j u hu => (q.cells.1 _ _ hg).trans (hc j u hu)⟩
theorem Sl.pos {w : World} {size : Nat} {a : Option Addr} {n cap : Nat} {cs : List Value} (h : Sl w size a n cap cs) (hn : 0 < n) :
    ∃ g o, a = some ⟨g, o, none⟩ ∧ g < w.heap.size ∧ ∀ (j : Nat) u, cs[j]? = some u → w.cell? ⟨g, o + j, none⟩ = some u := by
  obtain ⟨_, _, _, _, h4⟩ := h
  rcases h4 with h0 | h4
  · omega
  · exact h4
theorem Sl.of_own {w : World} {base : Nat} {E : TypeId} {size : Nat} {a : Option Addr} {n cap : Nat} {cs : List Value} (h : w.ownsRow base E size (.slice a n cap) n cs) : Sl w size a n cap cs := by
  have hc : ∀ g, (Value.slice a n cap).ownBlock = some g → ∀ j u, cs[j]? = some u → w.cell? ((⟨g, 0, none⟩ : Addr).add j) = some u := fun g hg => h.cells hg
  obtain ⟨h1, h2⟩ := h
  rcases h2 with ⟨he, h0⟩ | ⟨g, c, cur, he, hb, hg, hn, hm, hs, ht⟩
  · cases he
    exact ⟨h1, Nat.le_refl _, Nat.zero_le _, fun _ => rfl, .inl rfl⟩
  · cases he
    refine ⟨h1, hn, hm, (fun e => by cases e), .inr ⟨g, 0, rfl, (Array.getElem?_eq_some_iff.1 hg).1, fun j u hu => ?_⟩⟩
    have := hc g rfl j u hu
    rw [Addr.add_lit] at this
    exact this
theorem spot_none {w : World} {a : Addr} {v : Value} (h : w.cell? a = some v) : a.spot = none := World.cell?_spot h
theorem Sl.of_row {k : IntKind} {w : World} {a : Option Addr} {len cap : Nat} {zs : List Int} (h : IsRow k w a len cap zs) : Sl w 1 a len cap ((zs.take len).map (Value.int k)) := by
  rcases h with ⟨rfl, rfl, rfl, rfl⟩ | ⟨x, rfl, hl, hm, hz, hc, hw⟩
  · exact ⟨by simp, Nat.le_refl _, Nat.zero_le _, fun _ => rfl, .inl rfl⟩
  · refine ⟨by simp; omega, hl, hm, (fun e => by cases e), ?_⟩
    by_cases h0 : len = 0
    · exact .inl h0
    · right
      have c0 := hc 0 (by omega)
      have hs : x.spot = none := by simpa [Addr.add] using World.cell?_spot c0
      obtain ⟨g, o, s⟩ := x
      simp only at hs
      subst hs
      refine ⟨g, o, rfl, by simpa [Addr.add] using World.block_lt_of_cell? _ _ c0, fun j u hu => ?_⟩
      have hj : j < len := by
        rcases Nat.lt_or_ge j len with h | h
        · exact h
        · rw [List.getElem?_eq_none (by simp; omega)] at hu; cases hu
      have := hc j (by omega)
      rw [Addr.add_lit] at this
      rw [this]
      simp [hj] at hu
      obtain ⟨y, hy, rfl⟩ := hu
      simp [hy]

/-- a slice of n elements that the call has made, in a row of its own -/
def RetOwn (w : World) (E : TypeId) (size n : Nat) (cs : List Value) (e : Ending) (w' : World) : Prop :=
  ∃ a cap, e = .returned (.slice a n cap) ∧ w'.ownsRow w.heap.size E size (.slice a n cap) n cs ∧ Q w w'
theorem own_q {w w' : World} {base : Nat} {E : TypeId} {size : Nat} {v : Value} {n : Nat} {cs : List Value} (h : w.ownsRow base E size v n cs) (q : Q w w') : w'.ownsRow base E size v n cs := by
  obtain ⟨h1, h2⟩ := h
  refine ⟨h1, ?_⟩
  rcases h2 with h2 | ⟨g, c, cur, he, hb, hg, r⟩
  · exact .inl h2
  · exact .inr ⟨g, c, cur, he, hb, (Below.block q g (Array.getElem?_eq_some_iff.1 hg).1).trans hg, r⟩
theorem Q.grown {w a b : World} {row : Option Nat} (h : Q w a) (hg : a.grownBy b row) (hr : ∀ k, row = some k → w.heap.size ≤ k) : Q w b := Below.grown h hg h.size hr
theorem Q.grown_own {w a b : World} {base : Nat} {E : TypeId} {size : Nat} {v : Value} {n : Nat} {cs : List Value} (h : Q w a) (ho : a.ownsRow base E size v n cs) (hb : w.heap.size ≤ base) (hg : a.grownBy b v.ownBlock) : Q w b :=
  h.grown hg fun k hk => Nat.le_trans hb (ho.lt k hk).1

/-- the cells of the valid input with a code -/
def inC (c : Int) : List Value := [.int .i64 (c % 3 - 1), .int .i64 (c / 3 % 3 - 1), .int .i64 (c / 9)]
def inCells (cs : List Int) : List Value := cs.flatMap inC
theorem inCells_len (cs : List Int) : (inCells cs).length = cs.length * 3 := by
  induction cs with
  | nil => rfl
  | cons c cs ih => simp only [inCells, List.flatMap_cons, List.length_append, List.length_cons] at ih ⊢; rw [ih]; simp [inC]; omega
theorem inCells_snoc (cs : List Int) (c : Int) : inCells (cs ++ [c]) = inCells cs ++ inC c := by simp [inCells]
/-- a code -/
def Code (c : Int) : Prop := 0 ≤ c ∧ c < 36
/-- the codes that Inputs makes -/
def codesOf (zs : List Int) : List Int := zs.map (aroundZ · 36)
theorem codesOf_len (zs : List Int) : (codesOf zs).length = zs.length := by simp [codesOf]
theorem codesOf_snoc (zs : List Int) (z : Int) : codesOf (zs ++ [z]) = codesOf zs ++ [aroundZ z 36] := by simp [codesOf]
theorem codesOf_code (zs : List Int) : ∀ c ∈ codesOf zs, 0 ≤ c ∧ c < 36 := by
  intro c hc
  simp only [codesOf, List.mem_map] at hc
  obtain ⟨z, _, rfl⟩ := hc
  exact ⟨aroundZ_lo _ _ (by omega), aroundZ_hi _ _ (by omega)⟩
theorem take_snoc_get {α : Type} (l : List α) (k : Nat) (h : k < l.length) : l.take (k + 1) = l.take k ++ [l[k]] := by
  rw [List.take_succ_eq_append_getElem h]

theorem infoIn : (Try.prog.info? 34).map (fun i => (i.zero, i.size, i.bytes)) = some (some (.agg #[.int .i64 0, .int .i64 0, .int .i64 0]), 3, 24) := by kernel_rfl
theorem infoU8 : (Try.prog.info? 5).map (fun i => (i.zero, i.size, i.bytes)) = some (some (.int .u8 0), 1, 1) := by kernel_rfl
theorem infoInt : (Try.prog.info? 3).map (fun i => (i.zero, i.size, i.bytes)) = some (some (.int .i64 0), 1, 8) := by kernel_rfl

end Go.Proofs.Ytpoffkkkkieniaa
