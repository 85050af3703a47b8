/-
  Locks: errors.Is of a Refused over a number.
-/
import Derived.Test.YtgcnappgecdldaaT6
import Derived.LaidEql
import Derived.Stop.Asserts
import Derived.Lib.IfaceEq
import Derived.RowKitTokens
set_option linter.unusedVariables false
set_option linter.unusedSimpArgs false
namespace Go.Proofs.Ytgcnappgecdldaa.C
open Go.RowKit Go.Proofs.Ytgcnappgecdldaa.K Go.Maps Go.Extern.Stop Go.Stop Go.Extern Go.Extern.Rtype

theorem isTypeOf (v : Value) (w : World) : (Extern.ReflectliteType.typeOf #[.iface 26 v]).run Try.prog w = .ok (.iface 110 (.agg #[.pointer (some ⟨0, 26, none⟩)])) w := by kernel_rfl
def cmpX : Array Value → Sem Value := Extern.ReflectliteType.method fun t => do noPackHeld "Comparable" t; pure (.bool (← typeInfo t).comparable)
theorem isComparable (w : World) : (cmpX #[.agg #[.pointer (some ⟨0, 26, none⟩)]]).run Try.prog w = .ok (.bool true) w := by kernel_rfl
theorem isMethodComparable (v : Value) (w : World) : (Go.method 255 110 v "Comparable").run Try.prog w = .ok (84, v) w := by kernel_rfl
theorem noIsR (v : Value) (xT : TypeId) (w : World) : (Instr.typeAssert (.iface 82 v) xT 112 true).run Try.prog w = .ok (.tuple #[.nilIface, .bool false]) w := run_typeAssert_lacksB Try.underlying112 (by kernel_rfl) (by kernel_rfl) v xT w
theorem hasUnwrapR (v : Value) (xT : TypeId) (w : World) : (Instr.typeAssert (.iface 82 v) xT 115 true).run Try.prog w = .ok (.tuple #[.iface 82 v, .bool true]) w := run_typeAssert_hasB Try.underlying115 (by kernel_rfl) v xT w
theorem methodUnwrap (v : Value) (w : World) : (Go.method 255 82 v "Unwrap").run Try.prog w = .ok (80, v) w := by kernel_rfl
theorem noIsE (v : Value) (xT : TypeId) (w : World) : (Instr.typeAssert (.iface 26 v) xT 112 true).run Try.prog w = .ok (.tuple #[.nilIface, .bool false]) w := run_typeAssert_lacksB Try.underlying112 (by kernel_rfl) (by kernel_rfl) v xT w
theorem noUnwrapE (v : Value) (xT : TypeId) (w : World) : (Instr.typeAssert (.iface 26 v) xT 115 true).run Try.prog w = .ok (.tuple #[.nilIface, .bool false]) w := run_typeAssert_lacksB Try.underlying115 (by kernel_rfl) (by kernel_rfl) v xT w
theorem noUnwrapsE (v : Value) (xT : TypeId) (w : World) : (Instr.typeAssert (.iface 26 v) xT 117 true).run Try.prog w = .ok (.tuple #[.nilIface, .bool false]) w := run_typeAssert_lacksB Try.underlying117 (by kernel_rfl) (by kernel_rfl) v xT w
theorem isComp26 : (Try.prog.info? 26).map (·.comparable) = some true := by kernel_rfl

set_option maxRecDepth 100000 in
set_option maxHeartbeats 1600000 in
/-- errors.Is of a Refused whose reason is a number, and a number. -/
theorem is_refused (pb : Nat) (a b : Int) (w : World) (h1 : w.cell? ⟨pb, 1, none⟩ = some (.iface 26 (.int .i64 a))) (r : Bool) (hr : (a == b) = r) :
    Calls Try.prog 47 #[.iface 82 (.pointer (some ⟨pb, 0, none⟩)), .iface 26 (.int .i64 b)] w fun e w' => e = .returned (.bool r) ∧ w' = w := by
  have h8 := @run_callFunc_extern Try.prog 58 _ Extern.ReflectliteType.typeOf Try.func58 (by kernel_rfl) (by kernel_rfl) (by kernel_rfl) (by kernel_rfl)
  have h32 := @run_callFunc_extern Try.prog 84 _ cmpX Try.func84 (by kernel_rfl) (by kernel_rfl) (by kernel_rfl) (by kernel_rfl)
  have tT := isTypeOf
  have cT := isComparable
  have mR := isMethodComparable
  have nE := noIsE
  have uE := noUnwrapE
  have vE := noUnwrapsE
  have nW := noIsR
  have uW := hasUnwrapR
  have mU := methodUnwrap
  have heq := Go.Lib.run_eql_iface_int (P := Try.prog) w (k := .i64) a b Try.underlying37 isComp26 Try.underlying26
  rw [hr] at heq
  have hty := run_eql_iface_types (P := Try.prog) 82 26 (.pointer (some ⟨pb, 0, none⟩)) (.int .i64 b) Try.underlying37 (by decide) w
  rcases r with _ | _
  · go_enter Try.func47, Try.ntmps47
    go_wp2
    refine wp_loop_rounds 2 ?_
    rw [rounds_succ]
    go_wp2
    rw [rounds_succ]
    go_wp2
    go_ret
    exact ⟨rfl, rfl⟩
  · go_enter Try.func47, Try.ntmps47
    go_wp2
    refine wp_loop_rounds 2 ?_
    rw [rounds_succ]
    go_wp2
    rw [rounds_succ]
    go_wp2
    go_ret
    exact ⟨rfl, rfl⟩
end Go.Proofs.Ytgcnappgecdldaa.C
