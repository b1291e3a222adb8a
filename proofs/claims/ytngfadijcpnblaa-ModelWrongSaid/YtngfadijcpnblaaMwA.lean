/- What body-less functions give; the awake of norialaw23. -/
import Derived.Test.YtngfadijcpnblaaGxo
import Derived.Test.YtngfadijcpnblaaChecked
import Derived.OpenShut
import Derived.SizedLaws
import Derived.Laws.Externs
import Derived.KernelRfl
namespace Go.Proofs.Ytngfadijcpnblaa
open Go.RowKit

noncomputable def cmpE : Array Value → Sem Value := Extern.ReflectliteType.method fun t => do Extern.Rtype.noPackHeld "Comparable" t; pure (.bool (← typeInfo t).comparable)

def exT : Nat → List SV → Option SV
  | 58, [.c (.v (.iface 40 _))] => some (.c (.v (.iface 134 (.agg #[.pointer (some ⟨0, 40, none⟩)]))))
  | 91, [.agg [.v (.pointer (some ⟨0, 40, none⟩))]] => some (.c (.v (.bool true)))
  | _, _ => none
theorem ext58 : ∃ fn, Try.prog.funcs[58]? = some fn ∧ (fn.name == "runtime.NumGoroutine") = false ∧ fn.body.isNone = true ∧ Extern.findNext fn = none ∧ Extern.find fn = some Extern.ReflectliteType.typeOf :=
  ⟨_, Try.func58, by kernel_rfl, by kernel_rfl, by kernel_rfl, by kernel_rfl⟩
theorem ext91 : ∃ fn, Try.prog.funcs[91]? = some fn ∧ (fn.name == "runtime.NumGoroutine") = false ∧ fn.body.isNone = true ∧ Extern.findNext fn = none ∧ Extern.find fn = some cmpE :=
  ⟨_, Try.func91, by kernel_rfl, by kernel_rfl, by kernel_rfl, by kernel_rfl⟩
theorem typeOf40 (v : Value) (w : World) : (Extern.ReflectliteType.typeOf #[.iface 40 v]).run Try.prog w = .ok (.iface 134 (.agg #[.pointer (some ⟨0, 40, none⟩)])) w := by kernel_rfl
theorem comparable40 (w : World) : (cmpE #[.agg #[.pointer (some ⟨0, 40, none⟩)]]).run Try.prog w = .ok (.bool true) w := by kernel_rfl
theorem exT_ok : ExOk Try.prog exT := by
  intro f vs x h
  unfold exT at h
  split at h <;> cases h
  · refine ⟨fun _ => trivial, fun β => .inl fun w => ?_⟩
    obtain ⟨fn, h1, h2, h3, h4, h5⟩ := ext58
    rw [run_callFunc_extern h1 h2 h3 h4 h5]
    have := typeOf40
    simp only [List.map_cons, List.map_nil, SV.den, Ce.den]
    rw [this]
    rfl
  · refine ⟨fun _ => trivial, fun β => .inl fun w => ?_⟩
    obtain ⟨fn, h1, h2, h3, h4, h5⟩ := ext91
    rw [run_callFunc_extern h1 h2 h3 h4 h5]
    have := comparable40
    simp only [List.map_cons, List.map_nil, SV.den, Ce.den]
    rw [this]
    rfl
theorem laid0 : laidOutB Try.prog = true := by kernel_rfl
theorem own0 : ownKnob Try.prog.godebug = none := by kernel_rfl
theorem mix0 : Try.prog.follows .mixedOrders = true := by kernel_rfl
theorem noNg0 : noNg Try.prog = true := by kernel_rfl
end Go.Proofs.Ytngfadijcpnblaa
