/-
  No cell of these rows narrows 'for every input' (looked for: loops, veiled, ifaces, maps, wideKeys, modest, calm, conditions, laid).
  DERIVED. THE GIVEN ROWS OF THIS SEAT. 7 by the template 'for every input the law returns true; each argument reads behind the call as it read before'; 0 by the template 'total and deterministic' (their statements: YtnnhgopibbdlkaaTotals.lean).
  GIVEN WITH THE SEED: the statements are not yours to turn. If you find one false, say at which input.
  Laid BY PROGRAM, IN A SANDBOX (cutbox-rows.mjs): the forced cells as the released guide's own fill.sh prints them over the translation 200cb2e118956a1a… (all of the seat's roots in one cut). By AI agents, Wed Nov 11 2026. No macro, syntax, notation, axiom, sorry.
-/
import Derived.Test.YtnnhgopibbdlkaaChecked
import GoSem.Claim
import GoSem.ClaimJoined
import GoSem.ClaimMapViews
import Derived.JoinedTies
import Derived.KernelRfl
namespace Go.Proofs.Ytnnhgopibbdlkaa
/- THE CELL 'sum', in the pinned program and in every row, IS THE sha256 OF THE DUMP (.gsa) THAT YtnnhgopibbdlkaaProg.lean LOADS. Nothing in Lean hashes anything: it is a label: what it is worth is what the hold of that sum in a sandbox is worth. -/
noncomputable def Try.pinned : Pinned := { name := "ytnnhgopibbdlkaa", sum := "200cb2e118956a1ab8a7208c25a72cc1c581feba178e9b842b30a7b3c4c70173", checked := Try.checked }
namespace Rows
def none {H : Type} : Left H := { results := [], args := [] }

/-- 'norialaw22.TraceSpans': WHATEVER THE INPUT: true; the input reads as it did. -/
def traceSpansSpec : ChangeSpec := { name := "traceSpans", fn := fun _ => fun
  | [d1, d2, d3] => { results := [.lit (.bool true)], args := [d1, d2, d3] }
  | _ => none }
def traceSpansRow : OpenClaim := { program := "ytnnhgopibbdlkaa", sum := "200cb2e118956a1ab8a7208c25a72cc1c581feba178e9b842b30a7b3c4c70173", func := "noria/norialaw22.TraceSpans", spec := "traceSpans", apart := false }
def TraceSpansSaid : Prop := traceSpansRow.holds Try.pinned (OpenSpec.ofChange traceSpansSpec)

/-- ITS FALSE NEIGHBOUR: 'it returns false'. Refute it at one input. -/
def traceSpansWrong : ChangeSpec := { name := "traceSpans", fn := fun _ => fun
  | [d1, d2, d3] => { results := [.lit (.bool false)], args := [d1, d2, d3] }
  | _ => none }
def TraceSpansWrongFalsely : Prop := traceSpansRow.holds Try.pinned (OpenSpec.ofChange traceSpansWrong)

/-- 'norialaw22.TracePicks': WHATEVER THE INPUT: true; the input reads as it did. -/
def tracePicksSpec : ChangeSpec := { name := "tracePicks", fn := fun _ => fun
  | [d1, d2, d3, d4] => { results := [.lit (.bool true)], args := [d1, d2, d3, d4] }
  | _ => none }
def tracePicksRow : OpenClaim := { program := "ytnnhgopibbdlkaa", sum := "200cb2e118956a1ab8a7208c25a72cc1c581feba178e9b842b30a7b3c4c70173", func := "noria/norialaw22.TracePicks", spec := "tracePicks", apart := false }
def TracePicksSaid : Prop := tracePicksRow.holds Try.pinned (OpenSpec.ofChange tracePicksSpec)

/-- ITS FALSE NEIGHBOUR: 'it returns false'. Refute it at one input. -/
def tracePicksWrong : ChangeSpec := { name := "tracePicks", fn := fun _ => fun
  | [d1, d2, d3, d4] => { results := [.lit (.bool false)], args := [d1, d2, d3, d4] }
  | _ => none }
def TracePicksWrongFalsely : Prop := tracePicksRow.holds Try.pinned (OpenSpec.ofChange tracePicksWrong)

/-- 'norialaw22.TraceParts': WHATEVER THE INPUT: true; the input reads as it did. -/
def tracePartsSpec : ChangeSpec := { name := "traceParts", fn := fun _ => fun
  | [d1, d2, d3, d4] => { results := [.lit (.bool true)], args := [d1, d2, d3, d4] }
  | _ => none }
def tracePartsRow : OpenClaim := { program := "ytnnhgopibbdlkaa", sum := "200cb2e118956a1ab8a7208c25a72cc1c581feba178e9b842b30a7b3c4c70173", func := "noria/norialaw22.TraceParts", spec := "traceParts", apart := false }
def TracePartsSaid : Prop := tracePartsRow.holds Try.pinned (OpenSpec.ofChange tracePartsSpec)

/-- ITS FALSE NEIGHBOUR: 'it returns false'. Refute it at one input. -/
def tracePartsWrong : ChangeSpec := { name := "traceParts", fn := fun _ => fun
  | [d1, d2, d3, d4] => { results := [.lit (.bool false)], args := [d1, d2, d3, d4] }
  | _ => none }
def TracePartsWrongFalsely : Prop := tracePartsRow.holds Try.pinned (OpenSpec.ofChange tracePartsWrong)

/-- 'norialaw22.TraceOnce': WHATEVER THE INPUT: true; the input reads as it did. -/
def traceOnceSpec : ChangeSpec := { name := "traceOnce", fn := fun _ => fun
  | [d1, d2, d3] => { results := [.lit (.bool true)], args := [d1, d2, d3] }
  | _ => none }
def traceOnceRow : OpenClaim := { program := "ytnnhgopibbdlkaa", sum := "200cb2e118956a1ab8a7208c25a72cc1c581feba178e9b842b30a7b3c4c70173", func := "noria/norialaw22.TraceOnce", spec := "traceOnce", apart := false }
def TraceOnceSaid : Prop := traceOnceRow.holds Try.pinned (OpenSpec.ofChange traceOnceSpec)

/-- ITS FALSE NEIGHBOUR: 'it returns false'. Refute it at one input. -/
def traceOnceWrong : ChangeSpec := { name := "traceOnce", fn := fun _ => fun
  | [d1, d2, d3] => { results := [.lit (.bool false)], args := [d1, d2, d3] }
  | _ => none }
def TraceOnceWrongFalsely : Prop := traceOnceRow.holds Try.pinned (OpenSpec.ofChange traceOnceWrong)

/-- 'norialaw22.TraceBehind': WHATEVER THE INPUT: true; the input reads as it did. -/
def traceBehindSpec : ChangeSpec := { name := "traceBehind", fn := fun _ => fun
  | [d1, d2, d3, d4] => { results := [.lit (.bool true)], args := [d1, d2, d3, d4] }
  | _ => none }
def traceBehindRow : OpenClaim := { program := "ytnnhgopibbdlkaa", sum := "200cb2e118956a1ab8a7208c25a72cc1c581feba178e9b842b30a7b3c4c70173", func := "noria/norialaw22.TraceBehind", spec := "traceBehind", apart := false }
def TraceBehindSaid : Prop := traceBehindRow.holds Try.pinned (OpenSpec.ofChange traceBehindSpec)

/-- ITS FALSE NEIGHBOUR: 'it returns false'. Refute it at one input. -/
def traceBehindWrong : ChangeSpec := { name := "traceBehind", fn := fun _ => fun
  | [d1, d2, d3, d4] => { results := [.lit (.bool false)], args := [d1, d2, d3, d4] }
  | _ => none }
def TraceBehindWrongFalsely : Prop := traceBehindRow.holds Try.pinned (OpenSpec.ofChange traceBehindWrong)

/-- 'norialaw22.TraceSame': WHATEVER THE INPUT: true; the input reads as it did. -/
def traceSameSpec : ChangeSpec := { name := "traceSame", fn := fun _ => fun
  | [d1, d2] => { results := [.lit (.bool true)], args := [d1, d2] }
  | _ => none }
def traceSameRow : OpenClaim := { program := "ytnnhgopibbdlkaa", sum := "200cb2e118956a1ab8a7208c25a72cc1c581feba178e9b842b30a7b3c4c70173", func := "noria/norialaw22.TraceSame", spec := "traceSame", apart := false }
def TraceSameSaid : Prop := traceSameRow.holds Try.pinned (OpenSpec.ofChange traceSameSpec)

/-- ITS FALSE NEIGHBOUR: 'it returns false'. Refute it at one input. -/
def traceSameWrong : ChangeSpec := { name := "traceSame", fn := fun _ => fun
  | [d1, d2] => { results := [.lit (.bool false)], args := [d1, d2] }
  | _ => none }
def TraceSameWrongFalsely : Prop := traceSameRow.holds Try.pinned (OpenSpec.ofChange traceSameWrong)

/-- 'norialaw22.TraceActors': WHATEVER THE INPUT: true; the input reads as it did. -/
def traceActorsSpec : ChangeSpec := { name := "traceActors", fn := fun _ => fun
  | [d1, d2, d3, d4] => { results := [.lit (.bool true)], args := [d1, d2, d3, d4] }
  | _ => none }
def traceActorsRow : OpenClaim := { program := "ytnnhgopibbdlkaa", sum := "200cb2e118956a1ab8a7208c25a72cc1c581feba178e9b842b30a7b3c4c70173", func := "noria/norialaw22.TraceActors", spec := "traceActors", apart := false }
def TraceActorsSaid : Prop := traceActorsRow.holds Try.pinned (OpenSpec.ofChange traceActorsSpec)

/-- ITS FALSE NEIGHBOUR: 'it returns false'. Refute it at one input. -/
def traceActorsWrong : ChangeSpec := { name := "traceActors", fn := fun _ => fun
  | [d1, d2, d3, d4] => { results := [.lit (.bool false)], args := [d1, d2, d3, d4] }
  | _ => none }
def TraceActorsWrongFalsely : Prop := traceActorsRow.holds Try.pinned (OpenSpec.ofChange traceActorsWrong)

/- THE SECOND FORM. 'bulk': how many values and letters a reading holds, each counted each time it is reached (what is shared counts as often as it is met; a slice's spare places count too). A statement '..UptoSaid' is the law's where the arguments, and the package variables that the reading takes, are together of bulk at most 1048576: NARROWER than '..Said'. Prove '..Said' where nothing that the law and all that it calls make is longer than what came in: it says more and counts as full. Else prove '..UptoSaid'. A law counts once. -/
mutual
def uptoBulk {H : Type} : DataW H → Nat
  | .lit (.string bytes) => bytes.length + 1
  | .lit _ => 1
  | .nil => 1
  | .ptr d => uptoBulk d + 1
  | .slice elems spare => uptoBulkAll elems + uptoBulkAll spare + 1
  | .agg parts => uptoBulkAll parts + 1
  | .iface _ d => uptoBulk d + 1
  | .map entries => uptoBulkEntries entries + 1
  | .held _ => 1
def uptoBulkAll {H : Type} : List (DataW H) → Nat
  | [] => 0
  | d :: r => uptoBulk d + uptoBulkAll r
def uptoBulkEntries {H : Type} : List (Lit × DataW H) → Nat
  | [] => 0
  | x :: r => uptoBulkEntry x + uptoBulkEntries r
def uptoBulkEntry {H : Type} : Lit × DataW H → Nat
  | (.string bytes, d) => bytes.length + uptoBulk d + 1
  | (_, d) => uptoBulk d + 1
 end
def uptoSmall : (H : Type) → List (DataW H) → Bool := fun _ ds => decide (uptoBulkAll ds ≤ 1048576)
def OpenSpec.upto (s : _root_.Go.ChangeSpec) : _root_.Go.OpenSpec := { _root_.Go.OpenSpec.ofChange s with cond := some uptoSmall }

/-- 'norialaw22.TraceSpans', WHERE WHAT IT READS IS OF BULK AT MOST 1048576: true; the input reads as it did. -/
def traceSpansUptoRow : OpenClaim := { program := "ytnnhgopibbdlkaa", sum := "200cb2e118956a1ab8a7208c25a72cc1c581feba178e9b842b30a7b3c4c70173", func := "noria/norialaw22.TraceSpans", spec := "traceSpans", apart := false, narrowed := true }
def TraceSpansUptoSaid : Prop := traceSpansUptoRow.holds Try.pinned (OpenSpec.upto traceSpansSpec)

/-- 'norialaw22.TracePicks', WHERE WHAT IT READS IS OF BULK AT MOST 1048576: true; the input reads as it did. -/
def tracePicksUptoRow : OpenClaim := { program := "ytnnhgopibbdlkaa", sum := "200cb2e118956a1ab8a7208c25a72cc1c581feba178e9b842b30a7b3c4c70173", func := "noria/norialaw22.TracePicks", spec := "tracePicks", apart := false, narrowed := true }
def TracePicksUptoSaid : Prop := tracePicksUptoRow.holds Try.pinned (OpenSpec.upto tracePicksSpec)

/-- 'norialaw22.TraceParts', WHERE WHAT IT READS IS OF BULK AT MOST 1048576: true; the input reads as it did. -/
def tracePartsUptoRow : OpenClaim := { program := "ytnnhgopibbdlkaa", sum := "200cb2e118956a1ab8a7208c25a72cc1c581feba178e9b842b30a7b3c4c70173", func := "noria/norialaw22.TraceParts", spec := "traceParts", apart := false, narrowed := true }
def TracePartsUptoSaid : Prop := tracePartsUptoRow.holds Try.pinned (OpenSpec.upto tracePartsSpec)

/-- 'norialaw22.TraceOnce', WHERE WHAT IT READS IS OF BULK AT MOST 1048576: true; the input reads as it did. -/
def traceOnceUptoRow : OpenClaim := { program := "ytnnhgopibbdlkaa", sum := "200cb2e118956a1ab8a7208c25a72cc1c581feba178e9b842b30a7b3c4c70173", func := "noria/norialaw22.TraceOnce", spec := "traceOnce", apart := false, narrowed := true }
def TraceOnceUptoSaid : Prop := traceOnceUptoRow.holds Try.pinned (OpenSpec.upto traceOnceSpec)

/-- 'norialaw22.TraceBehind', WHERE WHAT IT READS IS OF BULK AT MOST 1048576: true; the input reads as it did. -/
def traceBehindUptoRow : OpenClaim := { program := "ytnnhgopibbdlkaa", sum := "200cb2e118956a1ab8a7208c25a72cc1c581feba178e9b842b30a7b3c4c70173", func := "noria/norialaw22.TraceBehind", spec := "traceBehind", apart := false, narrowed := true }
def TraceBehindUptoSaid : Prop := traceBehindUptoRow.holds Try.pinned (OpenSpec.upto traceBehindSpec)

/-- 'norialaw22.TraceSame', WHERE WHAT IT READS IS OF BULK AT MOST 1048576: true; the input reads as it did. -/
def traceSameUptoRow : OpenClaim := { program := "ytnnhgopibbdlkaa", sum := "200cb2e118956a1ab8a7208c25a72cc1c581feba178e9b842b30a7b3c4c70173", func := "noria/norialaw22.TraceSame", spec := "traceSame", apart := false, narrowed := true }
def TraceSameUptoSaid : Prop := traceSameUptoRow.holds Try.pinned (OpenSpec.upto traceSameSpec)

/-- 'norialaw22.TraceActors', WHERE WHAT IT READS IS OF BULK AT MOST 1048576: true; the input reads as it did. -/
def traceActorsUptoRow : OpenClaim := { program := "ytnnhgopibbdlkaa", sum := "200cb2e118956a1ab8a7208c25a72cc1c581feba178e9b842b30a7b3c4c70173", func := "noria/norialaw22.TraceActors", spec := "traceActors", apart := false, narrowed := true }
def TraceActorsUptoSaid : Prop := traceActorsUptoRow.holds Try.pinned (OpenSpec.upto traceActorsSpec)

end Rows
end Go.Proofs.Ytnnhgopibbdlkaa
