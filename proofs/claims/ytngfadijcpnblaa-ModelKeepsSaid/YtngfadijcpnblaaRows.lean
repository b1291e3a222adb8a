/-
  No cell of these rows narrows 'for every input' (looked for: loops, veiled, ifaces, maps, wideKeys, modest, calm, conditions, laid).
  DERIVED. THE GIVEN ROWS OF THIS SEAT. 4 by the template 'for every input the law returns true; each argument reads behind the call as it read before'; 0 by the template 'total and deterministic' (their statements: YtngfadijcpnblaaTotals.lean).
  GIVEN WITH THE SEED: the statements are not yours to turn. If you find one false, say at which input.
  Laid BY PROGRAM, IN A SANDBOX (cutbox-rows.mjs): the forced cells as the released guide's own fill.sh prints them over the translation 68b8458ba2bc69ac… (all of the seat's roots in one cut). By AI agents, Wed Nov 11 2026. No macro, syntax, notation, axiom, sorry.
-/
import Derived.Test.YtngfadijcpnblaaChecked
import GoSem.Claim
import GoSem.ClaimJoined
import GoSem.ClaimMapViews
import Derived.JoinedTies
import Derived.KernelRfl
namespace Go.Proofs.Ytngfadijcpnblaa
/- THE CELL 'sum', in the pinned program and in every row, IS THE sha256 OF THE DUMP (.gsa) THAT YtngfadijcpnblaaProg.lean LOADS. Nothing in Lean hashes anything: it is a label: what it is worth is what the hold of that sum in a sandbox is worth. -/
noncomputable def Try.pinned : Pinned := { name := "ytngfadijcpnblaa", sum := "68b8458ba2bc69acaa1a6e9c85a316c6d87b8e030f00ebd00251407d2fa74091", checked := Try.checked }
namespace Rows
def none {H : Type} : Left H := { results := [], args := [] }

/-- 'norialaw23.ModelPlays': WHATEVER THE INPUT: true; the input reads as it did. -/
def modelPlaysSpec : ChangeSpec := { name := "modelPlays", fn := fun _ => fun
  | [d1, d2] => { results := [.lit (.bool true)], args := [d1, d2] }
  | _ => none }
def modelPlaysRow : OpenClaim := { program := "ytngfadijcpnblaa", sum := "68b8458ba2bc69acaa1a6e9c85a316c6d87b8e030f00ebd00251407d2fa74091", func := "noria/norialaw23.ModelPlays", spec := "modelPlays", inPlace := ["internal/reflectlite.TypeOf"], unfollowed := true, recurses := true, apart := false }
def ModelPlaysSaid : Prop := modelPlaysRow.holds Try.pinned (OpenSpec.ofChange modelPlaysSpec)

/-- ITS FALSE NEIGHBOUR: 'it returns false'. Refute it at one input. -/
def modelPlaysWrong : ChangeSpec := { name := "modelPlays", fn := fun _ => fun
  | [d1, d2] => { results := [.lit (.bool false)], args := [d1, d2] }
  | _ => none }
def ModelPlaysWrongFalsely : Prop := modelPlaysRow.holds Try.pinned (OpenSpec.ofChange modelPlaysWrong)

/-- 'norialaw23.ModelKeeps': WHATEVER THE INPUT: true; the input reads as it did. -/
def modelKeepsSpec : ChangeSpec := { name := "modelKeeps", fn := fun _ => fun
  | [d] => { results := [.lit (.bool true)], args := [d] }
  | _ => none }
def modelKeepsRow : OpenClaim := { program := "ytngfadijcpnblaa", sum := "68b8458ba2bc69acaa1a6e9c85a316c6d87b8e030f00ebd00251407d2fa74091", func := "noria/norialaw23.ModelKeeps", spec := "modelKeeps", inPlace := ["internal/reflectlite.TypeOf"], unfollowed := true, recurses := true, apart := false }
def ModelKeepsSaid : Prop := modelKeepsRow.holds Try.pinned (OpenSpec.ofChange modelKeepsSpec)

/-- ITS FALSE NEIGHBOUR: 'it returns false'. Refute it at one input. -/
def modelKeepsWrong : ChangeSpec := { name := "modelKeeps", fn := fun _ => fun
  | [d] => { results := [.lit (.bool false)], args := [d] }
  | _ => none }
def ModelKeepsWrongFalsely : Prop := modelKeepsRow.holds Try.pinned (OpenSpec.ofChange modelKeepsWrong)

/-- 'norialaw23.ModelRefuses': WHATEVER THE INPUT: true; the input reads as it did. -/
def modelRefusesSpec : ChangeSpec := { name := "modelRefuses", fn := fun _ => fun
  | [d] => { results := [.lit (.bool true)], args := [d] }
  | _ => none }
def modelRefusesRow : OpenClaim := { program := "ytngfadijcpnblaa", sum := "68b8458ba2bc69acaa1a6e9c85a316c6d87b8e030f00ebd00251407d2fa74091", func := "noria/norialaw23.ModelRefuses", spec := "modelRefuses", inPlace := ["internal/reflectlite.TypeOf"], unfollowed := true, recurses := true, apart := false }
def ModelRefusesSaid : Prop := modelRefusesRow.holds Try.pinned (OpenSpec.ofChange modelRefusesSpec)

/-- ITS FALSE NEIGHBOUR: 'it returns false'. Refute it at one input. -/
def modelRefusesWrong : ChangeSpec := { name := "modelRefuses", fn := fun _ => fun
  | [d] => { results := [.lit (.bool false)], args := [d] }
  | _ => none }
def ModelRefusesWrongFalsely : Prop := modelRefusesRow.holds Try.pinned (OpenSpec.ofChange modelRefusesWrong)

/-- 'norialaw23.ModelWrong': WHATEVER THE INPUT: true; the input reads as it did. -/
def modelWrongSpec : ChangeSpec := { name := "modelWrong", fn := fun _ => fun
  | [d1, d2, d3, d4] => { results := [.lit (.bool true)], args := [d1, d2, d3, d4] }
  | _ => none }
def modelWrongRow : OpenClaim := { program := "ytngfadijcpnblaa", sum := "68b8458ba2bc69acaa1a6e9c85a316c6d87b8e030f00ebd00251407d2fa74091", func := "noria/norialaw23.ModelWrong", spec := "modelWrong", inPlace := ["internal/reflectlite.TypeOf"], unfollowed := true, recurses := true, apart := false }
def ModelWrongSaid : Prop := modelWrongRow.holds Try.pinned (OpenSpec.ofChange modelWrongSpec)

/-- ITS FALSE NEIGHBOUR: 'it returns false'. Refute it at one input. -/
def modelWrongWrong : ChangeSpec := { name := "modelWrong", fn := fun _ => fun
  | [d1, d2, d3, d4] => { results := [.lit (.bool false)], args := [d1, d2, d3, d4] }
  | _ => none }
def ModelWrongWrongFalsely : Prop := modelWrongRow.holds Try.pinned (OpenSpec.ofChange modelWrongWrong)

/- THE SECOND FORM. 'bulk': how many values and letters a reading holds, each counted each time it is reached (what is shared counts as often as it is met; a slice's spare places count too). A statement '..UptoSaid' is the law's where the arguments, and the package variables that the reading takes, are together of bulk at most 1048576: NARROWER than '..Said'. Prove '..Said' where nothing that the law and all that it calls make is longer than what came in: it says more and counts as full. Else prove '..UptoSaid'. A law counts once. -/
mutual
def uptoBulk {H : Type} : DataW H → Nat
  | .lit (.string bytes) => bytes.length + 1
  | .lit _ => 1
  | .nil => 1
  | .ptr d => uptoBulk d + 1
  | .slice elems spare => uptoBulkAll elems + uptoBulkAll spare + 1
  | .agg parts => uptoBulkAll parts + 1
  | .iface _ d => uptoBulk d + 1
  | .map entries => uptoBulkEntries entries + 1
  | .held _ => 1
def uptoBulkAll {H : Type} : List (DataW H) → Nat
  | [] => 0
  | d :: r => uptoBulk d + uptoBulkAll r
def uptoBulkEntries {H : Type} : List (Lit × DataW H) → Nat
  | [] => 0
  | x :: r => uptoBulkEntry x + uptoBulkEntries r
def uptoBulkEntry {H : Type} : Lit × DataW H → Nat
  | (.string bytes, d) => bytes.length + uptoBulk d + 1
  | (_, d) => uptoBulk d + 1
 end
def uptoSmall : (H : Type) → List (DataW H) → Bool := fun _ ds => decide (uptoBulkAll ds ≤ 1048576)
def OpenSpec.upto (s : _root_.Go.ChangeSpec) : _root_.Go.OpenSpec := { _root_.Go.OpenSpec.ofChange s with cond := some uptoSmall }

/-- 'norialaw23.ModelPlays', WHERE WHAT IT READS IS OF BULK AT MOST 1048576: true; the input reads as it did. -/
def modelPlaysUptoRow : OpenClaim := { program := "ytngfadijcpnblaa", sum := "68b8458ba2bc69acaa1a6e9c85a316c6d87b8e030f00ebd00251407d2fa74091", func := "noria/norialaw23.ModelPlays", spec := "modelPlays", inPlace := ["internal/reflectlite.TypeOf"], unfollowed := true, recurses := true, apart := false, narrowed := true }
def ModelPlaysUptoSaid : Prop := modelPlaysUptoRow.holds Try.pinned (OpenSpec.upto modelPlaysSpec)

/-- 'norialaw23.ModelKeeps', WHERE WHAT IT READS IS OF BULK AT MOST 1048576: true; the input reads as it did. -/
def modelKeepsUptoRow : OpenClaim := { program := "ytngfadijcpnblaa", sum := "68b8458ba2bc69acaa1a6e9c85a316c6d87b8e030f00ebd00251407d2fa74091", func := "noria/norialaw23.ModelKeeps", spec := "modelKeeps", inPlace := ["internal/reflectlite.TypeOf"], unfollowed := true, recurses := true, apart := false, narrowed := true }
def ModelKeepsUptoSaid : Prop := modelKeepsUptoRow.holds Try.pinned (OpenSpec.upto modelKeepsSpec)

/-- 'norialaw23.ModelRefuses', WHERE WHAT IT READS IS OF BULK AT MOST 1048576: true; the input reads as it did. -/
def modelRefusesUptoRow : OpenClaim := { program := "ytngfadijcpnblaa", sum := "68b8458ba2bc69acaa1a6e9c85a316c6d87b8e030f00ebd00251407d2fa74091", func := "noria/norialaw23.ModelRefuses", spec := "modelRefuses", inPlace := ["internal/reflectlite.TypeOf"], unfollowed := true, recurses := true, apart := false, narrowed := true }
def ModelRefusesUptoSaid : Prop := modelRefusesUptoRow.holds Try.pinned (OpenSpec.upto modelRefusesSpec)

/-- 'norialaw23.ModelWrong', WHERE WHAT IT READS IS OF BULK AT MOST 1048576: true; the input reads as it did. -/
def modelWrongUptoRow : OpenClaim := { program := "ytngfadijcpnblaa", sum := "68b8458ba2bc69acaa1a6e9c85a316c6d87b8e030f00ebd00251407d2fa74091", func := "noria/norialaw23.ModelWrong", spec := "modelWrong", inPlace := ["internal/reflectlite.TypeOf"], unfollowed := true, recurses := true, apart := false, narrowed := true }
def ModelWrongUptoSaid : Prop := modelWrongUptoRow.holds Try.pinned (OpenSpec.upto modelWrongSpec)

end Rows
end Go.Proofs.Ytngfadijcpnblaa
