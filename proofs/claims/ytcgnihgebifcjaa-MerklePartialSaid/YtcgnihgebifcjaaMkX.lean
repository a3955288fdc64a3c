/- The partial tree in memory: keys of its two maps; contracts: Root, Get. -/
import Derived.Test.YtcgnihgebifcjaaMkM
import Derived.Maps.Keyed
import Derived.DeepKeys4
namespace Go.Proofs.Ytcgnihgebifcjaa
open Go Go.RowKit Go.BigFrame

def kI (t : Int) : Value := .int .i64 t
theorem kI_inj (x y : Int) (h : kI x = kI y) : x = y := by unfold kI at h; cases h; rfl
theorem keyedInt : Maps.Keyed Try.prog 3 := Maps.int_keyed Try.underlying3
theorem keyInt (t : Int) (h : -9223372036854775808 ≤ t ∧ t ≤ 9223372036854775807) : keyOf Try.prog 3 (kI t) = some (.int .i64 t) :=
  Maps.keyOf_int_mk Try.underlying3 (by simp [Lit.wf, IntKind.min, IntKind.max, IntKind.signed, IntKind.bits]; omega)
def kP (p : Nat × Nat) : Value := .agg #[.int .i64 p.1, .int .i64 p.2]
theorem kP_inj (x y : Nat × Nat) (h : kP x = kP y) : x = y := by
  unfold kP at h
  obtain ⟨x1, x2⟩ := x
  obtain ⟨y1, y2⟩ := y
  simp at h
  obtain ⟨h1, h2⟩ := h
  rw [show x1 = y1 by omega, show x2 = y2 by omega]
theorem laidPl : laidOutB Try.prog = true := by kernel_rfl
theorem keyedPlace : Maps.Keyed Try.prog 75 := Maps.Keyed.of_law (deep_law_laid laidPl (m := 2) (by omega) (of_decide_eq_true (by kernel_rfl)) (by kernel_rfl) (by kernel_rfl))
theorem litI (x : Nat) (h : x ≤ 1000000000) : (Lit.int .i64 (x : Int)).wf = true := by simp [Lit.wf, IntKind.min, IntKind.max, IntKind.signed, IntKind.bits]; omega
theorem cellsPlace : Try.prog.cellsOf 75 = 2 := by kernel_rfl
theorem keyPl : Try.prog.keyType 75 = true := by kernel_rfl
theorem litsInt (m : Nat) (x : Nat) (h : x ≤ 1000000000) : Try.prog.keyLits (m + 1) 3 [.int .i64 x] = some [.int .i64 x] := by
  simp [Program.keyLits, Try.underlying3, litI x h]
theorem litsPlace (m : Nat) (p : Nat × Nat) (h1 : p.1 ≤ 1000000000) (h2 : p.2 ≤ 1000000000) : Try.prog.keyLits (m + 1 + 1) 75 [.int .i64 p.1, .int .i64 p.2] = some [.int .i64 p.1, .int .i64 p.2] := by
  have c3 : Try.prog.cellsOf 3 = 1 := by kernel_rfl
  unfold Program.keyLits
  simp [Try.underlying75, cellsPlace, c3, litsInt m p.1 h1, litsInt m p.2 h2]
theorem keyPlace (p : Nat × Nat) (h1 : p.1 ≤ 1000000000) (h2 : p.2 ≤ 1000000000) : ∃ l, keyOf Try.prog 75 (kP p) = some l := by
  obtain ⟨m, hs⟩ : ∃ m, Try.prog.types.size + 1 = m + 1 + 1 := ⟨Try.prog.types.size - 1, by kernel_rfl⟩
  unfold keyOf kP
  rw [Try.underlying75]
  simp only [keyPl, Bool.true_and]
  have hf : (Value.agg #[.int .i64 p.1, .int .i64 p.2]).formed Try.prog 75 = true := by simp [Value.formed, Try.underlying75, cellsPlace]
  rw [if_pos hf, hs]
  have := litsPlace m p h1 h2
  refine ⟨_, by rw [show (Value.agg #[.int .i64 p.1, .int .i64 p.2]).cells.toList = [.int .i64 p.1, .int .i64 p.2] from rfl, this]; rfl⟩
/-- the state of a partial tree -/
structure PS where
  cm : Int → Option Int
  N : Nat × Nat → Option Int
  root : Int
def putC (cm : Int → Option Int) (i v : Int) : Int → Option Int := fun j => if j = i then some v else cm j
def putN (N : Nat × Nat → Option Int) (p : Nat × Nat) (h : Int) : Nat × Nat → Option Int := fun q => if q = p then some h else N q
def cmV (cm : Int → Option Int) : Int → Option Value := fun i => (cm i).map (Value.int .i64)
def nmV (N : Nat × Nat → Option Int) : Nat × Nat → Option Value := fun p => (N p).map (Value.int .u64)
theorem cmV_put (cm : Int → Option Int) (i v : Int) : cmV (putC cm i v) = fun y => if y = i then some (.int .i64 v) else cmV cm y := by
  funext y
  unfold cmV putC
  split <;> rfl
theorem nmV_put (N : Nat × Nat → Option Int) (p : Nat × Nat) (h : Int) : nmV (putN N p h) = fun y => if y = p then some (.int .u64 h) else nmV N y := by
  funext y
  unfold nmV putN
  split <;> rfl
/-- a partial tree over n cells in memory -/
structure PartAt (w : World) (PB MC MN n : Nat) (s : PS) : Prop where
  box : Box w PB [.int .i64 n, .int .u64 s.root, .map (some MC), .map (some MN)]
  cm : MapIs Try.prog 3 kI w MC (cmV s.cm)
  nm : MapIs Try.prog 75 kP w MN (nmV s.N)
  ne1 : PB ≠ MC
  ne2 : PB ≠ MN
  ne3 : MC ≠ MN
section
variable {w w' : World} {PB MC MN n : Nat} {s : PS}
theorem PartAt.qf {F : Nat → Prop} (h : PartAt w PB MC MN n s) (q : QF F w w') (h1 : ¬ F PB) (h2 : ¬ F MC) (h3 : ¬ F MN) : PartAt w' PB MC MN n s :=
  ⟨h.box.qf q h1, h.cm.qf q h2, h.nm.qf q h3, h.ne1, h.ne2, h.ne3⟩
theorem PartAt.putN (h : PartAt w PB MC MN n s) (p : Nat × Nat) (x : Int) (q : QF (· = MN) w w') (hm : MapIs Try.prog 75 kP w' MN (fun y => if y = p then some (.int .u64 x) else nmV s.N y)) : PartAt w' PB MC MN n ⟨s.cm, Go.Proofs.Ytcgnihgebifcjaa.putN s.N p x, s.root⟩ :=
  ⟨h.box.qf q h.ne2, h.cm.qf q h.ne3, by show MapIs _ _ _ _ _ (nmV (Go.Proofs.Ytcgnihgebifcjaa.putN s.N p x)); rw [nmV_put]; exact hm, h.ne1, h.ne2, h.ne3⟩
theorem PartAt.putC (h : PartAt w PB MC MN n s) (i x : Int) (q : QF (· = MC) w w') (hm : MapIs Try.prog 3 kI w' MC (fun y => if y = i then some (.int .i64 x) else cmV s.cm y)) : PartAt w' PB MC MN n ⟨Go.Proofs.Ytcgnihgebifcjaa.putC s.cm i x, s.N, s.root⟩ :=
  ⟨h.box.qf q h.ne1, by show MapIs _ _ _ _ _ (cmV (Go.Proofs.Ytcgnihgebifcjaa.putC s.cm i x)); rw [cmV_put]; exact hm, h.nm.qf q (fun e => h.ne3 e.symm), h.ne1, h.ne2, h.ne3⟩
theorem PartAt.setR (h : PartAt w PB MC MN n s) (x : Int) : PartAt (w.setCell ⟨PB, 1, none⟩ (.int .u64 x)) PB MC MN n ⟨s.cm, s.N, x⟩ := by
  have q : QF (· = PB) w (w.setCell ⟨PB, 1, none⟩ (.int .u64 x)) := QF.set (F := (· = PB)) w PB 1 _ rfl
  exact ⟨Box.setC h.box 1 (.int .u64 x) (show 1 < 4 by decide), h.cm.qf q (fun e => h.ne1 e.symm), h.nm.qf q (fun e => h.ne2 e.symm), h.ne1, h.ne2, h.ne3⟩
theorem PartAt.q (h : PartAt w PB MC MN n s) (q : Q w w') : PartAt w' PB MC MN n s := h.qf (F := fun _ => False) (QF.of q) id id id
end
theorem zeroI (w : World) : (zeroValue 3).run Try.prog w = .ok (.int .i64 0) w := by kernel_rfl
theorem zeroU (w : World) : (zeroValue 22).run Try.prog w = .ok (.int .u64 0) w := by kernel_rfl
theorem cmV_get (cm : Int → Option Int) (i : Int) : (cmV cm i).getD (.int .i64 0) = .int .i64 ((cm i).getD 0) := by unfold cmV; cases cm i <;> rfl
theorem cmV_is (cm : Int → Option Int) (i : Int) : (cmV cm i).isSome = (cm i).isSome := by unfold cmV; cases cm i <;> rfl
theorem nmV_get (N : Nat × Nat → Option Int) (p : Nat × Nat) : (nmV N p).getD (.int .u64 0) = .int .u64 ((N p).getD 0) := by unfold nmV; cases N p <;> rfl
theorem lookC {w : World} {MC : Nat} {cm : Int → Option Int} (h : MapIs Try.prog 3 kI w MC (cmV cm)) (i : Int) (hi : -9223372036854775808 ≤ i ∧ i ≤ 9223372036854775807) :
    (Instr.lookup 70 (.map (some MC)) (.int .i64 i) true).run Try.prog w = .ok (.tuple #[.int .i64 ((cm i).getD 0), .bool (cm i).isSome]) w := by
  have := h.look keyedInt Try.underlying70 kI_inj true (zeroI w) i (keyInt i hi)
  rw [cmV_get, cmV_is] at this
  exact this
theorem lookC1 {w : World} {MC : Nat} {cm : Int → Option Int} (h : MapIs Try.prog 3 kI w MC (cmV cm)) (i : Int) (hi : -9223372036854775808 ≤ i ∧ i ≤ 9223372036854775807) :
    (Instr.lookup 70 (.map (some MC)) (.int .i64 i) false).run Try.prog w = .ok (.int .i64 ((cm i).getD 0)) w := by
  have := h.look keyedInt Try.underlying70 kI_inj false (zeroI w) i (keyInt i hi)
  rw [cmV_get] at this
  exact this
theorem lookN {w : World} {MN : Nat} {N : Nat × Nat → Option Int} (h : MapIs Try.prog 75 kP w MN (nmV N)) (x y : Nat) (hx : x ≤ 1000000000) (hy : y ≤ 1000000000) :
    (Instr.lookup 71 (.map (some MN)) (.agg #[.int .i64 x, .int .i64 y]) false).run Try.prog w = .ok (.int .u64 ((N (x, y)).getD 0)) w := by
  obtain ⟨l, hl⟩ := keyPlace (x, y) hx hy
  have := h.look keyedPlace Try.underlying71 kP_inj false (zeroU w) (x, y) hl
  rw [nmV_get] at this
  exact this
theorem wp_put {κ : Type} [DecidableEq κ] {P : Program} {K : TypeId} {f : κ → Value} {w : World} {b : Nat} {m : κ → Option Value} {o : Oper} {a : Act} {R : Exit → Act → World → Prop} {K' : Act → World → Prop} (om ox ov : Operand) (t : TypeId) (hop : o.op = Op.mapUpdate t om ox ov)
    (hK : Maps.Keyed P K) {e : TypeId} (ht : P.underlying t = some (.map K e)) (hf : ∀ x y, f x = f y → x = y) (x : κ) {l : Lit} (hx : keyOf P K (f x) = some l) (v : Value)
    (hm : a.eval om = .map (some b)) (hox : a.eval ox = f x) (hov : a.eval ov = v) (hmap : MapIs P K f w b m)
    (h : ∀ w', MapIs P K f w' b (fun y => if y = x then some v else m y) → QF (· = b) w w' → w'.heap.size = w.heap.size → K' (a.put o.dst undef) w') : Oper.wp P o a w K' R := by
  obtain ⟨w', hrun, r1, r2, r3⟩ := hmap.put hK ht hf x hx v
  unfold Oper.wp
  simp [execOp, hop, hm, hox, hov, hrun, Result.andThen]
  exact h w' r1 r2 r3
set_option maxRecDepth 100000 in
set_option maxHeartbeats 1000000 in
theorem mPRoot_any (PB MC MN n : Nat) (s : PS) (w : World) (h : PartAt w PB MC MN n s) : Calls Try.prog 29 #[.pointer (some ⟨PB, 0, none⟩)] w fun e w' => e = .returned (.int .u64 s.root) ∧ w' = w := by
  have hl := h.box.1
  have c1 := (h.box.2 1 _ rfl).1
  clear h
  go_enter Try.func29, Try.ntmps29
  go_wp2
  go_ret
  exact ⟨rfl, rfl⟩
set_option maxRecDepth 100000 in
set_option maxHeartbeats 1000000 in
theorem mPGet_any (PB MC MN n : Nat) (s : PS) (i : Int) (w : World) (h : PartAt w PB MC MN n s) (hi : -9223372036854775808 ≤ i ∧ i ≤ 9223372036854775807) :
    Calls Try.prog 31 #[.pointer (some ⟨PB, 0, none⟩), .int .i64 i] w fun e w' => e = .returned (.tuple #[.int .i64 ((s.cm i).getD 0), .bool (s.cm i).isSome]) ∧ w' = w := by
  have hl := h.box.1
  have c2 := (h.box.2 2 _ rfl).1
  have hk := lookC h.cm i hi
  clear h
  generalize (s.cm i).getD 0 = v at *
  generalize (s.cm i).isSome = b at *
  go_enter Try.func31, Try.ntmps31
  go_wp2
  go_ret2
  exact ⟨rfl, rfl⟩
end Go.Proofs.Ytcgnihgebifcjaa
