import Derived.Test.YtdflfcgdfbihfaaDoorC10
import Derived.LaidEql
import Derived.Stop.Asserts
import Derived.RowKitTokens
namespace Go.Proofs.YtdflfcgdfbihfaaDoor
open Go.RowKit CodeText Go.Extern.Stop Go.Stop Go.Extern

theorem isTypeOf (v : Value) (w : World) : (Extern.ReflectliteType.typeOf #[.iface 94 v]).run Tryd.prog w = .ok (.iface 84 (.agg #[.pointer (some ⟨1, 94, none⟩)])) w := by kernel_rfl
def cmpF : Array Value → Sem Value := Extern.ReflectliteType.method fun t => do Go.Extern.Rtype.noPackHeld "Comparable" t; pure (.bool (← typeInfo t).comparable)
theorem isComparable (w : World) : (cmpF #[.agg #[.pointer (some ⟨1, 94, none⟩)]]).run Tryd.prog w = .ok (.bool true) w := by kernel_rfl
theorem isMethodComparable (v : Value) (w : World) : (Go.method 230 84 v "Comparable").run Tryd.prog w = .ok (57, v) w := by kernel_rfl
theorem methodUnwrap (v : Value) (w : World) : (Go.method 230 78 v "Unwrap").run Tryd.prog w = .ok (53, v) w := by kernel_rfl
theorem isComp : (Tryd.prog.info? 94).map (·.comparable) = some true := by kernel_rfl
theorem isSize : (Tryd.prog.info? 118).map (·.size) = some 1 := by kernel_rfl
theorem noIsE (v : Value) (xT : TypeId) (w : World) : (Instr.typeAssert (.iface 94 v) xT 86 true).run Tryd.prog w = .ok (.tuple #[.nilIface, .bool false]) w := run_typeAssert_lacksB Tryd.underlying86 (by kernel_rfl) (by kernel_rfl) v xT w
theorem noIsW (v : Value) (xT : TypeId) (w : World) : (Instr.typeAssert (.iface 78 v) xT 86 true).run Tryd.prog w = .ok (.tuple #[.nilIface, .bool false]) w := run_typeAssert_lacksB Tryd.underlying86 (by kernel_rfl) (by kernel_rfl) v xT w
theorem hasUnwrapW (v : Value) (xT : TypeId) (w : World) : (Instr.typeAssert (.iface 78 v) xT 89 true).run Tryd.prog w = .ok (.tuple #[.iface 78 v, .bool true]) w := run_typeAssert_hasB Tryd.underlying89 (by kernel_rfl) v xT w

theorem is_nil (b : Addr) (w : World) :
    Calls Tryd.prog 21 #[.nilIface, .iface 94 (.pointer (some b))] w fun e w' => e = .returned (.bool false) ∧ w' = w := by
  have hn := run_eql_iface_nil_left (P := Tryd.prog) w 94 (.pointer (some b)) Tryd.underlying41
  go_enter Tryd.func21, Tryd.ntmps21
  go_wp2
  go_ret
  exact ⟨rfl, rfl⟩

set_option maxRecDepth 100000 in
theorem is_lack (x : ByteArray) (b : Addr) (w : World) :
    Calls Tryd.prog 21 #[.iface 78 (.agg #[.string x, .iface 94 (.pointer (some b))]), .iface 94 (.pointer (some b))] w fun e w' => e = .returned (.bool true) ∧ Upd (fun _ => False) w w' := by
  obtain ⟨i, hi, hcmp⟩ := Option.map_eq_some_iff.1 isComp
  obtain ⟨j, hj, hjs⟩ := Option.map_eq_some_iff.1 isSize
  have h8 := @run_callFunc_extern Tryd.prog 35 _ Extern.ReflectliteType.typeOf Tryd.func35 (by kernel_rfl) (by kernel_rfl) (by kernel_rfl) (by kernel_rfl)
  have h32 := @run_callFunc_extern Tryd.prog 57 _ cmpF Tryd.func57 (by kernel_rfl) (by kernel_rfl) (by kernel_rfl) (by kernel_rfl)
  have tT := isTypeOf
  have cT := isComparable
  have mR := isMethodComparable
  have mU := methodUnwrap
  have nE := noIsE
  have nW := noIsW
  have uW := hasUnwrapW
  have heq := fun w => run_eql_iface_ptr_same (P := Tryd.prog) w b Tryd.underlying41 Tryd.underlying94 hi hcmp hj
  have hty := run_eql_iface_types (P := Tryd.prog) 78 94 (.agg #[.string x, .iface 94 (.pointer (some b))]) (.pointer (some b)) Tryd.underlying41 (by decide) w
  go_enter Tryd.func21, Tryd.ntmps21
  go_wp2
  refine wp_loop_rounds 2 ?_
  rw [rounds_succ]
  go_wp2
  rw [rounds_succ]
  go_wp2
  go_ret
  exact ⟨rfl, Upd.alloc _ _ _⟩

end Go.Proofs.YtdflfcgdfbihfaaDoor
