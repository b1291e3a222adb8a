/- ScriptNumbers: the statement's tied card holds: for every number and every text the law returns true, where the listed package-level variables hold what the program's text lays. -/
import Derived.Test.YtkfnbpbhcnekiaaGreatDoorMf
import Derived.Test.YtkfnbpbhcnekiaaGreatDoorCards
import Derived.Test.YtkfnbpbhcnekiaaGreatDoorTie
set_option linter.unusedSimpArgs false
set_option linter.unusedVariables false
/- ScriptNumbers: the statement's tied card holds: for every number and every text the law returns true, where the listed package-level variables hold what the program's text lays. -/
namespace Go.Proofs.YtkfnbpbhcnekiaaGreatDoor
open Go.ChangeShapes Go.WideShapes Go.ChangeAt Go.RowKit

set_option maxRecDepth 100000 in
theorem scriptNumbers_lifted (os : Os) (started : os.Started) (H : Type) (enc : TypeId × Value → H) :
    ReturnsInHanded {} Tryz.checked os 5 .any (fun w args => (Rows.scriptNumbersSpec.pre enc Tryz.prog Tryz.f5 [] false w args ∧ laidMetH Tryz.prog Rows.scriptNumbersRow.laid w) ∧ sizedMet enc Tryz.prog Tryz.f5 (OpenSpec.ofChange Rows.scriptNumbersSpec) false w args)
      (Rows.scriptNumbersSpec.post enc Tryz.prog Tryz.f5 false true false false) := by
  refine law_laid (C := Tryz.checked) (tb := 4) laid0 rfl rfl Tryz.underlying4 ?_ (by kernel_rfl) own0 started (by kernel_rfl) Tryz.func5
    (ChangeSpec.witness_shaped (enc := enc) (C := Tryz.checked) (os := os) (X := fun w _ => laidMetH Tryz.prog Rows.scriptNumbersRow.laid w) false (World.laidAll Tryz.prog os Rows.scriptNumbersRow.laid) #[.int .i64 0, .string ⟨#[]⟩] 8 (World.laidAll_os _ _ _)
      (World.shaped_of_ZipB (by kernel_rfl) (by kernel_rfl)) (by kernel_rfl) (by kernel_rfl) (by kernel_rfl)
      (by rw [MakeChecks.laidMetH_plain _ _ _ (by kernel_rfl)]; exact laidMet_laidAll _ (by kernel_rfl) (by kernel_rfl))) ?_
  · intro ds hl
    match ds, hl with
    | [d1, d2], _ => exact ⟨rfl, rfl, rfl⟩
  intro W base args ds ps hval hA _ hsh hL
  rw [MakeChecks.laidMetH_plain _ _ _ (by kernel_rfl)] at hL
  rw [Tryz.params5] at hval hA
  rw [chk0] at hval hA hsh hL
  have hG : Glo (hw W) := glo_of hsh fun x hx => Lib.laidMet.reads hL (by
    simp only [laidL, List.mem_cons, List.not_mem_nil, or_false] at hx
    rcases hx with rfl | rfl | rfl | rfl | rfl | rfl <;> simp [Rows.scriptNumbersRow])
  obtain ⟨v0, r0, d0, e_0, p0, q0, rfl, rfl, rfl, h0, hA⟩ := trodAll_cons hA
  obtain ⟨v1, r1, d1, e_1, p1, q1, rfl, rfl, rfl, h1, hA⟩ := trodAll_cons hA
  obtain ⟨rfl, rfl, rfl⟩ := trodAll_nil hA
  obtain ⟨n0, rfl, hn0⟩ := open_i64 Tryz.underlying2 (hval 0 2 v0 rfl rfl) h0
  obtain ⟨s1, rfl⟩ := open_str (hval 1 9 v1 rfl rfl) h1
  exact (Numbers_ok hG n0 hn0 s1).law fun v Q h => h.1

theorem scriptNumbers_holds : Rows.ScriptNumbersSaid :=
  OpenClaim.holds_of_wide 5 Tryz.f5 rfl rfl rfl rfl rfl rfl rfl ⟨rfl, rfl, rfl, rfl, rfl⟩ rfl rfl rfl rfl rfl (by kernel_rfl) Tryz.func5 (by kernel_rfl)
    (of_decide_eq_true (by kernel_rfl)) (by unfold Func.isWrapper; first | (rw [if_pos (by decide +kernel)]; kernel_rfl) | (rw [if_neg (by decide +kernel)]; exact ⟨rfl, rfl⟩))
    (fun os started H enc _ => scriptNumbers_lifted os started H enc)

theorem scriptNumbers_card : Rows.ScriptNumbersCardSaid :=
  Claim7.holds_tied_plain_at .later [] [.data, .data, .data, .data, .sentinel, .sentinel, .data, .data, .data, .pinned] true Rows.scriptNumbersCard.stood.harness true
    scriptNumbers_holds (fun _ h => by cases h) (by kernel_rfl) (fun _ h => by cases h) scriptNumbers_row_tie rfl ⟨rfl, rfl⟩ (by kernel_rfl) rfl
    (fun f fn hf hfn => by
      obtain rfl : f = 5 := Option.some.inj ((show Tryz.prog.funcNamed "noria/norialaw25.ScriptNumbers" = some 5 by kernel_rfl).symm.trans hf) |>.symm
      obtain rfl : fn = Tryz.f5 := (Option.some.inj (Tryz.func5.symm.trans hfn)).symm
      exact ⟨by kernel_rfl, fun j t ht => by
        rw [Tryz.params5] at ht
        have hm : t ∈ [2, 9] := by simpa using Array.mem_of_getElem? ht
        have hall : ([2, 9].all fun u => !Tryz.prog.wantsStandIn u) = true := by kernel_rfl
        exact (show Tryz.prog.wantsStandIn t = false by simpa using List.all_eq_true.1 hall t hm)⟩)
    (by kernel_rfl)
end Go.Proofs.YtkfnbpbhcnekiaaGreatDoor
