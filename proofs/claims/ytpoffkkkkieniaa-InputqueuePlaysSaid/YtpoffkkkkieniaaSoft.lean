/- A region that draws its order, whose operations read and whose callees turn nothing that was there (they may make memory): one walk in the order of the text. -/
import Derived.Test.YtpoffkkkkieniaaBase
namespace Go.Proofs.Ytpoffkkkkieniaa
open Go Go.RowKit

/-- a world in which nothing of W has turned -/
structure After (W : World) where
  w : World
  q : Q W w

instance (W : World) : Nonempty (After W) := ⟨⟨W, Q.refl W⟩⟩

theorem After.cells (W : World) : (∀ (x : After W) b o, b < W.heap.size → x.w.cell? ⟨b, o, none⟩ = W.cell? ⟨b, o, none⟩) := fun x b o h => x.q.cells.1 b o h

theorem wp_region_soft {P : Program} {id : Nat} {R : Exit → Act → World → Prop} {a : Act} {w : World} {l : List Oper} (W : World) (hW : Q W w) (hm : P.follows .mixedOrders = true) (hB : Region.lexB .any l.toArray = true)
    (h : wpQuiet P l.toArray (fun w' => ∃ x : After W, w' = x.w) (fun a' => ∀ w', (∃ x : After W, w' = x.w) → R .normal a' w') l a) : (Code.region id l.toArray true).wp P R a w :=
  wp_region_quiet (C := fun w' => ∃ x : After W, w' = x.w) hm hB ⟨⟨w.drew, hW.drew⟩, rfl⟩ (by simpa using h)

theorem Calls.soft {P : Program} {f : FuncId} {args : Array Value} {W : World} {x : After W} {v : Value}
    (h : Calls P f args x.w fun e w' => e = .returned v ∧ Q x.w w') : Calls P f args x.w fun e w'' => e = .returned v ∧ ∃ y : After W, w'' = y.w :=
  h.mono fun _ w' ⟨he, hq⟩ => ⟨he, ⟨w', x.q.trans hq⟩, rfl⟩
theorem Calls.soft_same {P : Program} {f : FuncId} {args : Array Value} {W : World} {x : After W} {v : Value}
    (h : Calls P f args x.w fun e w' => e = .returned v ∧ x.w = w') : Calls P f args x.w fun e w'' => e = .returned v ∧ ∃ y : After W, w'' = y.w :=
  h.mono fun _ _ ⟨he, hq⟩ => ⟨he, x, hq.symm⟩

/-- where the walk is to stand: go_wp2_with (at_builtin; refine stopAt ?_) -/
def StopAt (p : Prop) : Prop := p
theorem stopAt {p : Prop} (h : StopAt p) : p := h
theorem goOn {p : Prop} (h : p) : StopAt p := h

/-- a block of cells of which the first are these, and none is frozen -/
def Box (w : World) (B : Nat) (vs : List Value) : Prop := B < w.heap.size ∧ ∀ (k : Nat) v, vs[k]? = some v → w.cell? ⟨B, k, none⟩ = some v ∧ w.frozen? ⟨B, k, none⟩ = false
theorem Box.q {w w' : World} {B : Nat} {vs : List Value} (h : Box w B vs) (q : Q w w') : Box w' B vs :=
  ⟨Nat.lt_of_lt_of_le h.1 q.size, fun k v hv => ⟨(q.cells.1 _ _ h.1).trans (h.2 k v hv).1, (q.cells.2 _ _ h.1).trans (h.2 k v hv).2⟩⟩
theorem Box.after {W : World} {B : Nat} {vs : List Value} (h : Box W B vs) (x : After W) : Box x.w B vs := h.q x.q
theorem Box.alloc {w : World} {B : Nat} {vs : List Value} (h : Box w B vs) (o : Obj) : Box (w.alloc o) B vs := h.q ((Q.refl w).alloc o)
theorem Box.new (w : World) (vs : List Value) (t : TypeId) : Box (w.alloc (.cells vs.toArray t)) w.heap.size vs := by
  refine ⟨by simp, fun k v hv => ?_⟩
  have hk : k < vs.length := by
    rcases Nat.lt_or_ge k vs.length with h | h
    · exact h
    · rw [List.getElem?_eq_none h] at hv; cases hv
  constructor
  · simp [hv]
  · simp

theorem Box.here3 {W : World} {B : Nat} {a b c : Value} (h : Box W B [a, b, c]) : B < W.heap.size ∧ W.cell? ⟨B, 0, none⟩ = some a ∧ W.cell? ⟨B, 1, none⟩ = some b ∧ W.cell? ⟨B, 2, none⟩ = some c :=
  ⟨h.1, (h.2 0 _ rfl).1, (h.2 1 _ rfl).1, (h.2 2 _ rfl).1⟩
theorem Box.soft3 {W : World} {B : Nat} {a b c : Value} (h : Box W B [a, b, c]) :
    (∀ x : After W, x.w.cell? ⟨B, 0, none⟩ = some a) ∧ (∀ x : After W, x.w.cell? ⟨B, 1, none⟩ = some b) ∧ (∀ x : After W, x.w.cell? ⟨B, 2, none⟩ = some c) :=
  ⟨fun x => ((h.after x).2 0 _ rfl).1, fun x => ((h.after x).2 1 _ rfl).1, fun x => ((h.after x).2 2 _ rfl).1⟩

/-- whether two inputs are equal -/
def same3 (a b c d e f : Int) : Bool := decide (a = d ∧ b = e ∧ c = f)
theorem same3_refl (a b c : Int) : same3 a b c a b c = true := by simp [same3]
theorem same3_code (x y : Int) (_hx : 0 ≤ x) (hy : 0 ≤ y) : same3 (x % 3 - 1) (x / 3 % 3 - 1) (x / 9) (y % 3 - 1) (y / 3 % 3 - 1) (y / 9) = decide (x = y) := by
  unfold same3
  rw [decide_eq_decide]
  constructor
  · omega
  · rintro rfl; exact ⟨rfl, rfl, rfl⟩
theorem eqIn_in (w : World) (a b c d e f : Int) :
    (Op.equalIn 10000 34 (.agg #[.int .i64 a, .int .i64 b, .int .i64 c]) (.agg #[.int .i64 d, .int .i64 e, .int .i64 f])).run Try.prog w = .ok (same3 a b c d e f) w := by
  by_cases h1 : a = d
  · by_cases h2 : b = e
    · by_cases h3 : c = f
      · simp [go_sem, same3, h1, h2, h3]
      · simp [go_sem, same3, h1, h2, h3]
    · simp [go_sem, same3, h2]
  · simp [go_sem, same3, h1]


/-- a slice of integers that came in: nil, or a row of cap cells of which the first len are its elements -/
def IsRow (k : IntKind) (w : World) (a : Option Addr) (len cap : Nat) (zs : List Int) : Prop :=
  (a = none ∧ len = 0 ∧ cap = 0 ∧ zs = []) ∨
  ∃ x, a = some x ∧ len ≤ cap ∧ cap ≤ maxLen ∧ zs.length = cap ∧ (∀ i, i < zs.length → w.cell? (x.add i) = some (.int k (zs.getD i 0))) ∧ ∀ n ∈ zs, (Lit.int k n).wf = true

theorem wf_u8 {n : Int} (h : (Lit.int .u8 n).wf = true) : 0 ≤ n ∧ n ≤ 255 := by simpa [Lit.wf, IntKind.min, IntKind.max, IntKind.signed, IntKind.bits] using h
theorem wf_i64 {n : Int} (h : (Lit.int .i64 n).wf = true) : -9223372036854775808 ≤ n ∧ n ≤ 9223372036854775807 := by simpa [Lit.wf, IntKind.min, IntKind.max, IntKind.signed, IntKind.bits] using h
theorem wf_u64 {n : Int} (h : (Lit.int .u64 n).wf = true) : 0 ≤ n ∧ n ≤ 18446744073709551615 := by simpa [Lit.wf, IntKind.min, IntKind.max, IntKind.signed, IntKind.bits] using h


end Go.Proofs.Ytpoffkkkkieniaa
