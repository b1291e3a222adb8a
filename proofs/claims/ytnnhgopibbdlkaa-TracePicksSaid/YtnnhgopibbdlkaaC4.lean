/- TracePicks: true for every input, and the arguments read as they did. -/
import Derived.Test.YtnnhgopibbdlkaaRows
import Derived.Test.YtnnhgopibbdlkaaTrN
import Derived.Test.YtnnhgopibbdlkaaTrG
namespace Go.Proofs.Ytnnhgopibbdlkaa
open Go.ChangeShapes Go.WideShapes Go.ChangeAt Go.RowKit

theorem tracePicks_lifted (os : Os) (started : os.Started) (H : Type) (enc : TypeId × Value → H) :
    ReturnsInHanded {} Try.checked os 4 .any (Rows.tracePicksSpec.pre6 enc Try.prog Try.f4 Rows.tracePicksRow.domain false) (Rows.tracePicksSpec.post enc Try.prog Try.f4 false true false false) := by
  refine law_lifted (C := Try.checked) (tb := 4) laid0 rfl rfl Try.underlying4 ?_ (by kernel_rfl) own0 started (by kernel_rfl) Try.func4
    (ChangeSpec.witness6 (enc := enc) (C := Try.checked) false ⟨#[], #[.slice none 0 0, .int .i64 0, .int .i64 0, .slice none 0 0], []⟩ 8 (by kernel_rfl) (by kernel_rfl) (by kernel_rfl) (by kernel_rfl)) ?_
  · intro ds hl
    match ds, hl with
    | [d1, d2, d3, d4], _ => exact ⟨rfl, rfl, rfl⟩
  intro W base args ds ps hval hA
  rw [Try.params4] at hval hA
  obtain ⟨v0, r0, d0, e0, p0, q0, rfl, rfl, rfl, h0, hA⟩ := trodAll_cons hA
  obtain ⟨v1, r1, d1, e1, p1, q1, rfl, rfl, rfl, h1, hA⟩ := trodAll_cons hA
  obtain ⟨v2, r2, d2, e2, p2, q2, rfl, rfl, rfl, h2, hA⟩ := trodAll_cons hA
  obtain ⟨v3, r3, d3, e3, p3, q3, rfl, rfl, rfl, h3, hA⟩ := trodAll_cons hA
  obtain ⟨rfl, rfl, rfl⟩ := trodAll_nil hA
  obtain ⟨A0, l0, c0, rfl, hs0, ho0, hc0, hx0⟩ := open_notes (hval 0 22 v0 rfl rfl) h0
  obtain ⟨n1, rfl, hn1⟩ := open_i64 Try.underlying3 (hval 1 3 v1 rfl rfl) h1
  obtain ⟨n2, rfl, hn2⟩ := open_i64 Try.underlying3 (hval 2 3 v2 rfl rfl) h2
  obtain ⟨A3, l3, c3, rfl, hs3, ho3, hc3, hx3⟩ := open_nums39 (hval 3 39 v3 rfl rfl) h3
  exact (TracePicks_ok _ _ A0 A3 c0 c3 l0 l3 n1 n2 hs0 hs3).law2 fun v Q h => h.1

theorem tracePicks_holds : Rows.TracePicksSaid :=
  OpenClaim.holds_of_wide 4 Try.f4 rfl rfl rfl rfl rfl rfl rfl ⟨rfl, rfl, rfl, rfl, rfl⟩ rfl rfl rfl rfl rfl (by kernel_rfl) Try.func4 (by kernel_rfl)
    (of_decide_eq_true (by kernel_rfl)) (by unfold Func.isWrapper; first | (rw [if_pos (by decide +kernel)]; kernel_rfl) | (rw [if_neg (by decide +kernel)]; exact ⟨rfl, rfl⟩))
    (fun os started H enc _ => tracePicks_lifted os started H enc)
end Go.Proofs.Ytnnhgopibbdlkaa
