/- ScriptReads: the statement's tied card holds: for every text the law returns true, where the listed package-level variables hold what the program's text lays. -/
import Derived.Test.YtkfnbpbhcnekiaaGreatDoorMf
import Derived.Test.YtkfnbpbhcnekiaaGreatDoorCards
import Derived.Test.YtkfnbpbhcnekiaaGreatDoorTie
set_option linter.unusedSimpArgs false
set_option linter.unusedVariables false
/- ScriptReads: the statement's tied card holds: for every text the law returns true, where the listed package-level variables hold what the program's text lays. -/
namespace Go.Proofs.YtkfnbpbhcnekiaaGreatDoor
open Go.ChangeShapes Go.WideShapes Go.ChangeAt Go.RowKit

set_option maxRecDepth 100000 in
theorem scriptReads_lifted (os : Os) (started : os.Started) (H : Type) (enc : TypeId × Value → H) :
    ReturnsInHanded {} Tryz.checked os 4 .any (fun w args => (Rows.scriptReadsSpec.pre enc Tryz.prog Tryz.f4 [] false w args ∧ laidMetH Tryz.prog Rows.scriptReadsRow.laid w) ∧ sizedMet enc Tryz.prog Tryz.f4 (OpenSpec.ofChange Rows.scriptReadsSpec) false w args)
      (Rows.scriptReadsSpec.post enc Tryz.prog Tryz.f4 false true false false) := by
  refine law_laid (C := Tryz.checked) (tb := 4) laid0 rfl rfl Tryz.underlying4 ?_ (by kernel_rfl) own0 started (by kernel_rfl) Tryz.func4
    (ChangeSpec.witness_shaped (enc := enc) (C := Tryz.checked) (os := os) (X := fun w _ => laidMetH Tryz.prog Rows.scriptReadsRow.laid w) false (World.laidAll Tryz.prog os Rows.scriptReadsRow.laid) #[.string ⟨#[]⟩] 8 (World.laidAll_os _ _ _)
      (World.shaped_of_ZipB (by kernel_rfl) (by kernel_rfl)) (by kernel_rfl) (by kernel_rfl) (by kernel_rfl)
      (by rw [MakeChecks.laidMetH_plain _ _ _ (by kernel_rfl)]; exact laidMet_laidAll _ (by kernel_rfl) (by kernel_rfl))) ?_
  · intro ds hl
    match ds, hl with
    | [d1], _ => exact ⟨rfl, rfl, rfl⟩
  intro W base args ds ps hval hA _ hsh hL
  rw [MakeChecks.laidMetH_plain _ _ _ (by kernel_rfl)] at hL
  rw [Tryz.params4] at hval hA
  rw [chk0] at hval hA hsh hL
  have hG : Glo (hw W) := glo_of hsh fun x hx => Lib.laidMet.reads hL (by
    simp only [laidL, List.mem_cons, List.not_mem_nil, or_false] at hx
    rcases hx with rfl | rfl | rfl | rfl | rfl | rfl <;> simp [Rows.scriptReadsRow])
  obtain ⟨v0, r0, d0, e_0, p0, q0, rfl, rfl, rfl, h0, hA⟩ := trodAll_cons hA
  obtain ⟨rfl, rfl, rfl⟩ := trodAll_nil hA
  obtain ⟨s0, rfl⟩ := open_str (hval 0 9 v0 rfl rfl) h0
  exact (Reads_ok hG s0).law fun v Q h => h.1

theorem scriptReads_holds : Rows.ScriptReadsSaid :=
  OpenClaim.holds_of_wide 4 Tryz.f4 rfl rfl rfl rfl rfl rfl rfl ⟨rfl, rfl, rfl, rfl, rfl⟩ rfl rfl rfl rfl rfl (by kernel_rfl) Tryz.func4 (by kernel_rfl)
    (of_decide_eq_true (by kernel_rfl)) (by unfold Func.isWrapper; first | (rw [if_pos (by decide +kernel)]; kernel_rfl) | (rw [if_neg (by decide +kernel)]; exact ⟨rfl, rfl⟩))
    (fun os started H enc _ => scriptReads_lifted os started H enc)

theorem scriptReads_card : Rows.ScriptReadsCardSaid :=
  Claim7.holds_tied_plain_at .later [] [.data, .data, .data, .data, .sentinel, .sentinel, .data, .data, .data, .pinned] true Rows.scriptReadsCard.stood.harness true
    scriptReads_holds (fun _ h => by cases h) (by kernel_rfl) (fun _ h => by cases h) scriptReads_row_tie rfl ⟨rfl, rfl⟩ (by kernel_rfl) rfl
    (fun f fn hf hfn => by
      obtain rfl : f = 4 := Option.some.inj ((show Tryz.prog.funcNamed "noria/norialaw25.ScriptReads" = some 4 by kernel_rfl).symm.trans hf) |>.symm
      obtain rfl : fn = Tryz.f4 := (Option.some.inj (Tryz.func4.symm.trans hfn)).symm
      exact ⟨by kernel_rfl, fun j t ht => by
        rw [Tryz.params4] at ht
        have hm : t ∈ [9] := by simpa using Array.mem_of_getElem? ht
        have hall : ([9].all fun u => !Tryz.prog.wantsStandIn u) = true := by kernel_rfl
        exact (show Tryz.prog.wantsStandIn t = false by simpa using List.all_eq_true.1 hall t hm)⟩)
    (by kernel_rfl)
end Go.Proofs.YtkfnbpbhcnekiaaGreatDoor
