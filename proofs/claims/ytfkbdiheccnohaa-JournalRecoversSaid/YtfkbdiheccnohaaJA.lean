/- Contract: errors.Is, both errors codes of package api. -/
import Derived.Test.YtfkbdiheccnohaaBase
import Derived.LaidEql
import Derived.Stop.Asserts
import Derived.RowKitTokens
namespace Go.Proofs.Ytfkbdiheccnohaa
open Go Go.RowKit Go.BigFrame Go.Extern.Stop Go.Stop Go.Extern

def eI (n : Int) : Value := .iface 29 (.int .i64 n)
theorem isTypeOf34 (v : Value) (w : World) : (Extern.ReflectliteType.typeOf #[.iface 29 v]).run Try.prog w = .ok (.iface 75 (.agg #[.pointer (some ⟨0, 29, none⟩)])) w := by kernel_rfl
theorem isComparable34 (w : World) : ((Extern.ReflectliteType.method fun t => do Extern.Rtype.noPackHeld "Comparable" t; (fun a => Value.bool a.comparable) <$> typeInfo t) #[.agg #[.pointer (some ⟨0, 29, none⟩)]]).run Try.prog w = .ok (.bool true) w := by kernel_rfl
theorem isMethodComparable34 (v : Value) (w : World) : (Go.method 65 75 v "Comparable").run Try.prog w = .ok (62, v) w := by kernel_rfl
theorem noIsE34 (v : Value) (xT : TypeId) (w : World) : (Instr.typeAssert (.iface 29 v) xT 77 true).run Try.prog w = .ok (.tuple #[.nilIface, .bool false]) w := run_typeAssert_lacksB Try.underlying77 (by kernel_rfl) (by kernel_rfl) v xT w
theorem noUnwrapE34 (v : Value) (xT : TypeId) (w : World) : (Instr.typeAssert (.iface 29 v) xT 80 true).run Try.prog w = .ok (.tuple #[.nilIface, .bool false]) w := run_typeAssert_lacksB Try.underlying80 (by kernel_rfl) (by kernel_rfl) v xT w
theorem noUnwrapsE34 (v : Value) (xT : TypeId) (w : World) : (Instr.typeAssert (.iface 29 v) xT 81 true).run Try.prog w = .ok (.tuple #[.nilIface, .bool false]) w := run_typeAssert_lacksB Try.underlying81 (by kernel_rfl) (by kernel_rfl) v xT w
theorem eql34_nil (v : Value) (w : World) : (binOp .eql 52 (.iface 29 v) .nilIface).run Try.prog w = .ok (.bool false) w := by kernel_rfl
theorem eql34_2525 (w : World) : (binOp .eql 52 (.iface 29 (.int .i64 25)) (.iface 29 (.int .i64 25))).run Try.prog w = .ok (.bool true) w := by kernel_rfl
theorem eql34_2625 (w : World) : (binOp .eql 52 (.iface 29 (.int .i64 26)) (.iface 29 (.int .i64 25))).run Try.prog w = .ok (.bool false) w := by kernel_rfl
theorem eql34_825 (w : World) : (binOp .eql 52 (.iface 29 (.int .i64 8)) (.iface 29 (.int .i64 25))).run Try.prog w = .ok (.bool false) w := by kernel_rfl
theorem eql34_2626 (w : World) : (binOp .eql 52 (.iface 29 (.int .i64 26)) (.iface 29 (.int .i64 26))).run Try.prog w = .ok (.bool true) w := by kernel_rfl
theorem eql34_826 (w : World) : (binOp .eql 52 (.iface 29 (.int .i64 8)) (.iface 29 (.int .i64 26))).run Try.prog w = .ok (.bool false) w := by kernel_rfl
set_option maxRecDepth 100000 in
set_option maxHeartbeats 1000000 in
theorem eIs_hit (a : Int) (w : World) (heq : (binOp .eql 52 (.iface 29 (.int .i64 a)) (.iface 29 (.int .i64 a))).run Try.prog w = .ok (.bool true) w) :
    Calls Try.prog 29 #[.iface 29 (.int .i64 a), .iface 29 (.int .i64 a)] w fun e w' => e = .returned (.bool true) ∧ w' = w := by
  have h8 := @run_callFunc_extern Try.prog 34 _ Extern.ReflectliteType.typeOf Try.func34 (by kernel_rfl) (by kernel_rfl) (by kernel_rfl) (by kernel_rfl)
  have h32 := @run_callFunc_extern Try.prog 62 _ (Extern.ReflectliteType.method fun t => do Extern.Rtype.noPackHeld "Comparable" t; pure (.bool (← typeInfo t).comparable)) Try.func62 (by kernel_rfl) (by kernel_rfl) (by kernel_rfl) (by kernel_rfl)
  have tT := isTypeOf34
  have cT := isComparable34
  have mR := isMethodComparable34
  have hn := eql34_nil
  go_enter Try.func29, Try.ntmps29
  go_wp2
  refine wp_loop_rounds 1 ?_
  rw [rounds_succ]
  go_wp2
  go_ret
  exact ⟨rfl, rfl⟩
set_option maxRecDepth 100000 in
set_option maxHeartbeats 1000000 in
theorem eIs_miss (a b : Int) (w : World) (heq : (binOp .eql 52 (.iface 29 (.int .i64 a)) (.iface 29 (.int .i64 b))).run Try.prog w = .ok (.bool false) w) :
    Calls Try.prog 29 #[.iface 29 (.int .i64 a), .iface 29 (.int .i64 b)] w fun e w' => e = .returned (.bool false) ∧ w' = w := by
  have h8 := @run_callFunc_extern Try.prog 34 _ Extern.ReflectliteType.typeOf Try.func34 (by kernel_rfl) (by kernel_rfl) (by kernel_rfl) (by kernel_rfl)
  have h32 := @run_callFunc_extern Try.prog 62 _ (Extern.ReflectliteType.method fun t => do Extern.Rtype.noPackHeld "Comparable" t; pure (.bool (← typeInfo t).comparable)) Try.func62 (by kernel_rfl) (by kernel_rfl) (by kernel_rfl) (by kernel_rfl)
  have tT := isTypeOf34
  have cT := isComparable34
  have mR := isMethodComparable34
  have hn := eql34_nil
  have nE := noIsE34
  have uE := noUnwrapE34
  have vE := noUnwrapsE34
  go_enter Try.func29, Try.ntmps29
  go_wp2
  refine wp_loop_rounds 1 ?_
  rw [rounds_succ]
  go_wp2
  go_ret
  exact ⟨rfl, rfl⟩
end Go.Proofs.Ytfkbdiheccnohaa
