/- TraceSame: true for every input, and the arguments read as they did. -/
import Derived.Test.YtnnhgopibbdlkaaRows
import Derived.Test.YtnnhgopibbdlkaaTrQ
import Derived.Test.YtnnhgopibbdlkaaTrG
namespace Go.Proofs.Ytnnhgopibbdlkaa
open Go.ChangeShapes Go.WideShapes Go.ChangeAt Go.RowKit

theorem bytes37 : Try.prog.bytesOf 37 = 64 := by kernel_rfl
theorem traceSame_lifted (os : Os) (started : os.Started) (H : Type) (enc : TypeId × Value → H) :
    ReturnsInHanded {} Try.checked os 8 .any (Rows.traceSameSpec.pre6 enc Try.prog Try.f8 Rows.traceSameRow.domain false) (Rows.traceSameSpec.post enc Try.prog Try.f8 false true false false) := by
  refine law_lifted_sized (C := Try.checked) (tb := 4) laid0 rfl rfl Try.underlying4 ?_ (by kernel_rfl) own0 started (by kernel_rfl) Try.func8
    (ChangeSpec.witness6 (enc := enc) (C := Try.checked) false ⟨#[], #[.slice none 0 0, .int .u8 0], []⟩ 8 (by kernel_rfl) (by kernel_rfl) (by kernel_rfl) (by kernel_rfl)) ?_
  · intro ds hl
    match ds, hl with
    | [d1, d2], _ => exact ⟨rfl, rfl, rfl⟩
  intro W base args ds ps hval hA hsz
  rw [Try.params8] at hval hA hsz
  obtain ⟨v0, r0, d0, e0, p0, q0, rfl, rfl, rfl, h0, hA⟩ := trodAll_cons hA
  obtain ⟨v1, r1, d1, e1, p1, q1, rfl, rfl, rfl, h1, hA⟩ := trodAll_cons hA
  obtain ⟨rfl, rfl, rfl⟩ := trodAll_nil hA
  obtain ⟨A0, l0, c0, rfl, hs0, ho0, hc0, hx0⟩ := open_notes (hval 0 22 v0 rfl rfl) h0
  obtain ⟨n1, rfl, _, _, hw1⟩ := open_int Try.underlying5 (hval 1 5 v1 rfl rfl) h1
  have hn1 : 0 ≤ n1 ∧ n1 ≤ 255 := by
    simp [Lit.wf, IntKind.min, IntKind.max, IntKind.signed, IntKind.bits] at hw1
    exact ⟨by omega, by omega⟩
  have hb : l0.length ≤ 2199023255488 := by
    rcases slice_len Try.underlying22 h0 with h | ⟨xs, ys, rfl, hxs⟩
    · omega
    · have := sized_slice hsz (j := 0) (t := 22) (e := 37) rfl rfl Try.underlying22
      have hb2 : Try.checked.prog.bytesOf 37 = 64 := bytes37
      rw [hb2] at this
      simp only [reachBytes] at this
      omega
  exact (TraceSame_ok _ _ A0 c0 l0 n1 hb hc0 hn1 hs0 hs0).law2 fun v Q h => h.1

theorem traceSame_holds : Rows.TraceSameSaid :=
  OpenClaim.holds_of_wide 8 Try.f8 rfl rfl rfl rfl rfl rfl rfl ⟨rfl, rfl, rfl, rfl, rfl⟩ rfl rfl rfl rfl rfl (by kernel_rfl) Try.func8 (by kernel_rfl)
    (of_decide_eq_true (by kernel_rfl)) (by unfold Func.isWrapper; first | (rw [if_pos (by decide +kernel)]; kernel_rfl) | (rw [if_neg (by decide +kernel)]; exact ⟨rfl, rfl⟩))
    (fun os started H enc _ => traceSame_lifted os started H enc)
end Go.Proofs.Ytnnhgopibbdlkaa
