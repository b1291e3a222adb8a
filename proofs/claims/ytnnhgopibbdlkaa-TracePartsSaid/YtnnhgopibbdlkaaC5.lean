/- TraceParts: true for every input, and the arguments read as they did. -/
import Derived.Test.YtnnhgopibbdlkaaRows
import Derived.Test.YtnnhgopibbdlkaaTrT
import Derived.Test.YtnnhgopibbdlkaaTrG
namespace Go.Proofs.Ytnnhgopibbdlkaa
open Go.ChangeShapes Go.WideShapes Go.ChangeAt Go.RowKit

theorem traceParts_lifted (os : Os) (started : os.Started) (H : Type) (enc : TypeId × Value → H) :
    ReturnsInHanded {} Try.checked os 5 .any (Rows.tracePartsSpec.pre6 enc Try.prog Try.f5 Rows.tracePartsRow.domain false) (Rows.tracePartsSpec.post enc Try.prog Try.f5 false true false false) := by
  refine law_lifted (C := Try.checked) (tb := 4) laid0 rfl rfl Try.underlying4 ?_ (by kernel_rfl) own0 started (by kernel_rfl) Try.func5
    (ChangeSpec.witness6 (enc := enc) (C := Try.checked) false ⟨#[], #[.slice none 0 0, .int .u8 0, .int .i64 0, .int .i64 0], []⟩ 8 (by kernel_rfl) (by kernel_rfl) (by kernel_rfl) (by kernel_rfl)) ?_
  · intro ds hl
    match ds, hl with
    | [d1, d2, d3, d4], _ => exact ⟨rfl, rfl, rfl⟩
  intro W base args ds ps hval hA
  rw [Try.params5] at hval hA
  obtain ⟨v0, r0, d0, e0, p0, q0, rfl, rfl, rfl, h0, hA⟩ := trodAll_cons hA
  obtain ⟨v1, r1, d1, e1, p1, q1, rfl, rfl, rfl, h1, hA⟩ := trodAll_cons hA
  obtain ⟨v2, r2, d2, e2, p2, q2, rfl, rfl, rfl, h2, hA⟩ := trodAll_cons hA
  obtain ⟨v3, r3, d3, e3, p3, q3, rfl, rfl, rfl, h3, hA⟩ := trodAll_cons hA
  obtain ⟨rfl, rfl, rfl⟩ := trodAll_nil hA
  obtain ⟨A0, l0, c0, rfl, hs0, ho0, hc0, hx0⟩ := open_notes (hval 0 22 v0 rfl rfl) h0
  obtain ⟨n1, rfl, _, _, hw1⟩ := open_int Try.underlying5 (hval 1 5 v1 rfl rfl) h1
  have hn1 : 0 ≤ n1 ∧ n1 ≤ 255 := by
    simp [Lit.wf, IntKind.min, IntKind.max, IntKind.signed, IntKind.bits] at hw1
    exact ⟨by omega, by omega⟩
  obtain ⟨n2, rfl, hn2⟩ := open_i64 Try.underlying3 (hval 2 3 v2 rfl rfl) h2
  obtain ⟨n3, rfl, hn3⟩ := open_i64 Try.underlying3 (hval 3 3 v3 rfl rfl) h3
  exact (TraceParts_ok _ _ A0 c0 l0 n1 n2 n3 hc0 hn1 hs0 hs0).law2 fun v Q h => h.1

theorem traceParts_holds : Rows.TracePartsSaid :=
  OpenClaim.holds_of_wide 5 Try.f5 rfl rfl rfl rfl rfl rfl rfl ⟨rfl, rfl, rfl, rfl, rfl⟩ rfl rfl rfl rfl rfl (by kernel_rfl) Try.func5 (by kernel_rfl)
    (of_decide_eq_true (by kernel_rfl)) (by unfold Func.isWrapper; first | (rw [if_pos (by decide +kernel)]; kernel_rfl) | (rw [if_neg (by decide +kernel)]; exact ⟨rfl, rfl⟩))
    (fun os started H enc _ => traceParts_lifted os started H enc)
end Go.Proofs.Ytnnhgopibbdlkaa
