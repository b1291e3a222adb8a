/- TraceSpans: true for every input, and the arguments read as they did. -/
import Derived.Test.YtnnhgopibbdlkaaRows
import Derived.Test.YtnnhgopibbdlkaaTrU
import Derived.Test.YtnnhgopibbdlkaaTrG
namespace Go.Proofs.Ytnnhgopibbdlkaa
open Go.ChangeShapes Go.WideShapes Go.ChangeAt Go.RowKit

theorem cells2 : Try.prog.cellsOf 2 = 1 := by kernel_rfl
theorem open_nums23 {H : Type} {enc : TypeId × Value → H} {W : World} {r : Reach} {b0 : Nat} {v : Value} {d : DataW H} {p : List MemPlace} (hval : Value.okWide Try.prog W r b0 23 v) (h : DataW.Trod enc Try.prog W 0 (fun _ => true) true 23 v d p) :
    ∃ (A : Option Addr) (l : List Int) (c : Nat), v = .slice A l.length c ∧ Sees (roAll (hw W)) A l.length 1 (ints l) ∧ (∀ x ∈ l, I64 x) ∧ l.length ≤ c ∧ c ≤ maxLen := by
  obtain ⟨A, l, c, h1, h2, h3, h4, h5⟩ := open_flat Try.underlying23 cells2 (by decide) (fun n cs y hy => by
    obtain ⟨m, rfl, _, hw⟩ := DataW.trod_int Try.underlying2 hy
    exact ⟨m, rfl, I64.of_wf hw⟩) encI_len hval h
  exact ⟨A, l, c, h1, roAll_sees h2, h3, h4, h5⟩
theorem traceSpans_lifted (os : Os) (started : os.Started) (H : Type) (enc : TypeId × Value → H) :
    ReturnsInHanded {} Try.checked os 3 .any (Rows.traceSpansSpec.pre6 enc Try.prog Try.f3 Rows.traceSpansRow.domain false) (Rows.traceSpansSpec.post enc Try.prog Try.f3 false true false false) := by
  refine law_lifted (C := Try.checked) (tb := 4) laid0 rfl rfl Try.underlying4 ?_ (by kernel_rfl) own0 started (by kernel_rfl) Try.func3
    (ChangeSpec.witness6 (enc := enc) (C := Try.checked) false ⟨#[], #[.slice none 0 0, .int .i64 0, .slice none 0 0], []⟩ 8 (by kernel_rfl) (by kernel_rfl) (by kernel_rfl) (by kernel_rfl)) ?_
  · intro ds hl
    match ds, hl with
    | [d1, d2, d3], _ => exact ⟨rfl, rfl, rfl⟩
  intro W base args ds ps hval hA
  rw [Try.params3] at hval hA
  obtain ⟨v0, r0, d0, e0, p0, q0, rfl, rfl, rfl, h0, hA⟩ := trodAll_cons hA
  obtain ⟨v1, r1, d1, e1, p1, q1, rfl, rfl, rfl, h1, hA⟩ := trodAll_cons hA
  obtain ⟨v2, r2, d2, e2, p2, q2, rfl, rfl, rfl, h2, hA⟩ := trodAll_cons hA
  obtain ⟨rfl, rfl, rfl⟩ := trodAll_nil hA
  obtain ⟨A0, l0, c0, rfl, hs0, ho0, hc0, hx0⟩ := open_notes (hval 0 22 v0 rfl rfl) h0
  obtain ⟨n1, rfl, hn1⟩ := open_i64 Try.underlying3 (hval 1 3 v1 rfl rfl) h1
  obtain ⟨A2, l2, c2, rfl, hs2, ho2, hc2, hx2⟩ := open_nums23 (hval 2 23 v2 rfl rfl) h2
  exact (TraceSpans_ok _ _ A0 A2 c0 c2 l0 l2 n1 hc2 hs0 hs2).law2 fun v Q h => h.1

theorem traceSpans_holds : Rows.TraceSpansSaid :=
  OpenClaim.holds_of_wide 3 Try.f3 rfl rfl rfl rfl rfl rfl rfl ⟨rfl, rfl, rfl, rfl, rfl⟩ rfl rfl rfl rfl rfl (by kernel_rfl) Try.func3 (by kernel_rfl)
    (of_decide_eq_true (by kernel_rfl)) (by unfold Func.isWrapper; first | (rw [if_pos (by decide +kernel)]; kernel_rfl) | (rw [if_neg (by decide +kernel)]; exact ⟨rfl, rfl⟩))
    (fun os started H enc _ => traceSpans_lifted os started H enc)
end Go.Proofs.Ytnnhgopibbdlkaa
