/- Contracts: rows encoded, decoded, compared. -/
import Derived.Test.YtpoffkkkkieniaaRowsB
namespace Go.Proofs.Ytpoffkkkkieniaa
open Go Go.RowKit Go.BigFrame

/-- the code of an input -/
def codeOf (a b k : Int) : Int := a + 1 + 3 * (b + 1) + 9 * k
theorem codeOf_code (c : Int) : codeOf (c % 3 - 1) (c / 3 % 3 - 1) (c / 9) = c := by unfold codeOf; omega

theorem inCells_get (cs : List Int) (k : Nat) (hk : k < cs.length) : (inCells cs)[k * 3]? = some (.int .i64 (cs[k] % 3 - 1)) ∧ (inCells cs)[k * 3 + 1]? = some (.int .i64 (cs[k] / 3 % 3 - 1)) ∧ (inCells cs)[k * 3 + 2]? = some (.int .i64 (cs[k] / 9)) := by
  induction cs generalizing k with
  | nil => simp at hk
  | cons c cs ih =>
    cases k with
    | zero => simp [inCells, inC]
    | succ k =>
      have := ih k (by simpa using hk)
      simp only [inCells, List.flatMap_cons] at this ⊢
      rw [show (k + 1) * 3 = k * 3 + 1 + 1 + 1 by omega]
      simpa [inC] using this

/-- 'out = append(out, x)', out being the call's own: the element lies in a new block; behind it the slice is not nil, and all that lay below is as it was. -/
theorem append_one {P : Program} {w1 : World} {ops : Array Oper} {rest : List Oper} {op : Oper} {a : Act} {R : Exit → Act → World → Prop} (hgd : op.guard = none) (s x : Operand) (t : TypeId)
    (ho : op.op = .call { callee := .builtin .append, args := #[s, x], argTypes := #[t, t] })
    (base : Nat) (E : TypeId) (i : TypeInfo) (z : Value) (size bytes : Nat) (ht : P.underlying t = some (.slice E)) (hi : P.info? E = some i) (hz : i.zero = some z)
    (hsize : i.size = size) (hby : i.bytes = bytes) (hzs : z.cells.size = size) (hsz : 0 < size)
    (v : Value) (n : Nat) (xs : List Value) (hs : a.eval s = v) (hown : w1.ownsRow base E size v n xs)
    (c : Nat) (B : Nat) (hB : w1.heap.size = B) (news : List Value) (hx : a.eval x = .slice (some ⟨B, 0, none⟩) 1 c) (hl : news.length = size) (h1 : ∀ u ∈ news, u.oneCell' = true)
    (hn : n ≤ 100000) (hby2 : bytes ≤ 100000) (hb : base ≤ w1.heap.size)
    (h : ∀ g cap w', w'.ownsRow base E size (.slice (some ⟨g, 0, none⟩) (n + 1) cap) (n + 1) (xs ++ news) → (∀ w0, Q w0 w1 → w0.heap.size ≤ base → Q w0 w') → wpList P ops R rest (a.put op.dst (.slice (some ⟨g, 0, none⟩) (n + 1) cap)) w') :
    wpList P ops R (op :: rest) a (w1.alloc (.cells news.toArray E)) := by
  subst hB
  have hbb : (n + 1) * bytes ≤ 140737488355328 := Nat.le_trans (Nat.mul_le_mul (show n + 1 ≤ 100001 by omega) hby2) (by decide)
  refine wpList_append_lies _ hgd s x t ho base E i z size bytes ht hi hz hsize hby hzs hsz v n xs hs (hown.alloc _) ⟨w1.heap.size, 0, none⟩ 1 c news hx (by omega) (World.news_of_block (heap_alloc_new w1 _)) h1 (by decide) (by unfold maxLen; omega) hbb (by simp; omega) _ rfl ?_
  intro g cap w2 hown2 hgrow2 _ _
  exact h g cap w2 hown2 (fun w0 q hb0 => (q.alloc _).grown_own (hown.alloc _) hb0 hgrow2)

end Go.Proofs.Ytpoffkkkkieniaa
