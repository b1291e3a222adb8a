/- ModelWrong: true for every input, and the arguments read as they did. -/
import Derived.Test.YtngfadijcpnblaaRows
import Derived.Test.YtngfadijcpnblaaMwC
import Derived.Test.YtngfadijcpnblaaTop
namespace Go.Proofs.Ytngfadijcpnblaa
open Go.ChangeShapes Go.WideShapes Go.ChangeAt Go.RowKit

/-- A struct of just numbers. -/
theorem open_ints {H : Type} {enc : TypeId × Value → H} {P : Program} {w : World} {base : Nat} {spare : Nat → Bool} {held : Bool} {k : Nat} {t : TypeId} {fs : Array Field} {r : Reach} {b0 : Nat} {v : Value} {d : DataW H} {p : List MemPlace}
    (ht : P.underlying t = some (.struct fs)) (hi : intTree P k t = true) (hval : Value.okWide P w r b0 t v) (h : DataW.Trod enc P w base spare held t v d p) : ∃ l : List Int, v = .agg (ints64 l).toArray ∧ l.length = P.cellsOf t := by
  obtain ⟨cs, rfl, hsz⟩ := okWide_struct ht hval
  obtain ⟨fuel, hf⟩ := h
  obtain ⟨l, hl, _⟩ := trod_ints k hi hf
  have hl' : cs.toList = ints64 l := by simpa [Value.cells] using hl
  refine ⟨l, ?_, ?_⟩
  · rw [← hl']
  · have := congrArg List.length hl'
    simp [ints64] at this
    omega
theorem chk0 : Try.checked.prog = Try.prog := rfl
theorem cells42 : Try.prog.cellsOf 42 = 8 := by kernel_rfl
theorem tree42 : intTree Try.prog 4 42 = true := by kernel_rfl

set_option maxRecDepth 20000 in
theorem modelWrong_lifted (os : Os) (started : os.Started) (H : Type) (enc : TypeId × Value → H) :
    ReturnsInHanded {} Try.checked os 6 .any (Rows.modelWrongSpec.pre6 enc Try.prog Try.f6 Rows.modelWrongRow.domain false) (Rows.modelWrongSpec.post enc Try.prog Try.f6 false true false false) := by
  refine law_lifted (C := Try.checked) (tb := 4) laid0 rfl rfl Try.underlying4 ?_ (by kernel_rfl) own0 started (by kernel_rfl) Try.func6
    (ChangeSpec.witness6 (enc := enc) (C := Try.checked) false ⟨#[], #[.agg #[.int .i64 0, .int .i64 0, .int .i64 0, .int .i64 0, .int .i64 0, .int .i64 0, .int .i64 0, .int .i64 0], .int .i64 0, .int .i64 0, .int .i64 0], []⟩ 8 (by kernel_rfl) (by kernel_rfl) (by kernel_rfl) (by kernel_rfl)) ?_
  · intro ds hl
    match ds, hl with
    | [d1, d2, d3, d4], _ => exact ⟨rfl, rfl, rfl⟩
  intro W base args ds ps hval hA
  rw [Try.params6] at hval hA
  rw [chk0] at hval hA
  obtain ⟨v0, r0, d0, e0, p0, q0, rfl, rfl, rfl, h0, hA⟩ := trodAll_cons hA
  obtain ⟨v1, r1, d1, e1, p1, q1, rfl, rfl, rfl, h1, hA⟩ := trodAll_cons hA
  obtain ⟨v2, r2, d2, e2, p2, q2, rfl, rfl, rfl, h2, hA⟩ := trodAll_cons hA
  obtain ⟨v3, r3, d3, e3, p3, q3, rfl, rfl, rfl, h3, hA⟩ := trodAll_cons hA
  obtain ⟨rfl, rfl, rfl⟩ := trodAll_nil hA
  have hv0 := hval 0 42 v0 rfl rfl
  obtain ⟨l0, rfl, hl0⟩ := open_ints Try.underlying42 tree42 hv0 h0
  obtain ⟨n1, rfl, _⟩ := open_i64 Try.underlying3 (hval 1 3 v1 rfl rfl) h1
  obtain ⟨n2, rfl, _⟩ := open_i64 Try.underlying3 (hval 2 3 v2 rfl rfl) h2
  obtain ⟨n3, rfl, _⟩ := open_i64 Try.underlying2 (hval 3 2 v3 rfl rfl) h3
  rw [cells42] at hl0
  match l0, hl0 with
  | [a, b, c, d, e, f, g, h], _ =>
    have hc := (modelWrong_ok a b c d e f g h n1 n2 n3 [roAll (hw W)]).law (fun v Q h => h)
    simp only [ints64, List.map_cons, List.map_nil]
    exact hc

theorem modelWrong_holds : Rows.ModelWrongSaid :=
  OpenClaim.holds_of_wide 6 Try.f6 rfl rfl rfl rfl rfl rfl rfl ⟨rfl, rfl, rfl, rfl, rfl⟩ rfl rfl rfl rfl rfl (by kernel_rfl) Try.func6 (by kernel_rfl)
    (of_decide_eq_true (by kernel_rfl)) (by unfold Func.isWrapper; first | (rw [if_pos (by decide +kernel)]; kernel_rfl) | (rw [if_neg (by decide +kernel)]; exact ⟨rfl, rfl⟩))
    (fun os started H enc _ => modelWrong_lifted os started H enc)
end Go.Proofs.Ytngfadijcpnblaa
