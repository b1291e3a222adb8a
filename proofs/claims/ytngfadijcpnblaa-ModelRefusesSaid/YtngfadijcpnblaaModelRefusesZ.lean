/- ModelRefuses: true for every input, and the arguments read as they did. -/
import Derived.Test.YtngfadijcpnblaaMg
import Derived.Test.YtngfadijcpnblaaRows
set_option linter.unusedSimpArgs false
set_option linter.unusedVariables false
/- ModelRefuses: true for every input, and the arguments read as they did. -/
namespace Go.Proofs.Ytngfadijcpnblaa
open Go.ChangeShapes Go.WideShapes Go.ChangeAt Go.RowKit
set_option maxRecDepth 20000 in
theorem modelRefuses_lifted (os : Os) (started : os.Started) (H : Type) (enc : TypeId × Value → H) :
    ReturnsInHanded {} Try.checked os 5 .any (Rows.modelRefusesSpec.pre6 enc Try.prog Try.f5 Rows.modelRefusesRow.domain false) (Rows.modelRefusesSpec.post enc Try.prog Try.f5 false true false false) := by
  refine law_lifted (C := Try.checked) (tb := 4) laid0 rfl rfl Try.underlying4 ?_ (by kernel_rfl) own0 started (by kernel_rfl) Try.func5
    (ChangeSpec.witness6 (enc := enc) (C := Try.checked) false ⟨#[], #[.slice none 0 0], []⟩ 8 (by kernel_rfl) (by kernel_rfl) (by kernel_rfl) (by kernel_rfl)) ?_
  · intro ds hl
    match ds, hl with
    | [d1], _ => exact ⟨rfl, rfl, rfl⟩
  intro W base args ds ps hval hA
  rw [Try.params5] at hval hA
  rw [chk0] at hval hA
  obtain ⟨v0, r0, d0, e0, p0, q0, rfl, rfl, rfl, h0, hA⟩ := trodAll_cons hA
  obtain ⟨rfl, rfl, rfl⟩ := trodAll_nil hA
  obtain ⟨A, l, c, rfl, hs, hok, hlc, hc⟩ := open_ops (hval 0 22 v0 rfl rfl) h0
  have hl : l.length ≤ 9223372036854775807 := by unfold maxLen at hc; omega
  exact (refuses_ok (hw W) l A c hl hs fun x hx => (hok x hx).1).law fun v Q h => h
theorem modelRefuses_holds : Rows.ModelRefusesSaid :=
  OpenClaim.holds_of_wide 5 Try.f5 rfl rfl rfl rfl rfl rfl rfl ⟨rfl, rfl, rfl, rfl, rfl⟩ rfl rfl rfl rfl rfl (by kernel_rfl) Try.func5 (by kernel_rfl)
    (of_decide_eq_true (by kernel_rfl)) (by unfold Func.isWrapper; first | (rw [if_pos (by decide +kernel)]; kernel_rfl) | (rw [if_neg (by decide +kernel)]; exact ⟨rfl, rfl⟩))
    (fun os started H enc _ => modelRefuses_lifted os started H enc)
end Go.Proofs.Ytngfadijcpnblaa
