/- AuditNil: the statement's tied card holds: for every number the law returns true, where the listed package-level variables hold what the program's text lays. -/
import Derived.Test.YtccmdlmlbkpjjaaGreatDoorMc
import Derived.Test.YtccmdlmlbkpjjaaGreatDoorChecked
import Derived.OpenShut
import Derived.SizedLaws
import Derived.Laws.Externs
import Derived.KernelRfl
import Derived.Test.YtccmdlmlbkpjjaaGreatDoorCards
import Derived.Test.YtccmdlmlbkpjjaaGreatDoorTie
set_option linter.unusedSimpArgs false
set_option linter.unusedVariables false
/- What body-less functions give, package-level variables, the awakes of norialaw24 and norialaw26 by the evaluator. -/
namespace Go.Proofs.YtccmdlmlbkpjjaaGreatDoor
open Go.RowKit Go.Lib

noncomputable def cmpE : Array Value → Sem Value := Extern.ReflectliteType.method fun t => do Extern.Rtype.noPackHeld "Comparable" t; pure (.bool (← typeInfo t).comparable)
def inI64 : Int → Bool
  | .ofNat n => Nat.ble n 9223372036854775807
  | .negSucc n => Nat.ble n 9223372036854775807
theorem inI64_ok {n : Int} (h : inI64 n = true) : I64n n := by
  unfold inI64 at h
  unfold I64n
  split at h
  · rename_i k
    have hk : k ≤ 9223372036854775807 := by simpa using h
    have : (Int.ofNat k : Int) = (k : Int) := rfl
    omega
  · rename_i k
    have hk : k ≤ 9223372036854775807 := by simpa using h
    have : Int.negSucc k = -(k : Int) - 1 := by omega
    omega
def exE : Nat → List SV → Option SV
  | 91, [.c (.v (.iface 45 _))] => some (.c (.v (.iface 242 (.agg #[.pointer (some ⟨12, 45, none⟩)]))))
  | 257, [.agg [.v (.pointer (some ⟨12, 45, none⟩))]] => some (.c (.v (.bool true)))
  | _, _ => none
def exT : Nat → List SV → Option SV
  | 106, [.c (.v (.int .i64 n)), .c (.v (.int .i64 10))] => match inI64 n with
    | true => some (.c (.v (str (itoa n))))
    | false => none
  | f, vs => exE f vs
def glE : Gl := [(7, bruijn.map fun n => .int .u8 n)]
def glT : Gl := [(0, strs kindsL), (1, strs statesL), (2, strs deedsL), (3, strs signsL), (7, bruijn.map fun n => .int .u8 n)]
theorem ext91 : ∃ fn, Tryz.prog.funcs[91]? = some fn ∧ (fn.name == "runtime.NumGoroutine") = false ∧ fn.body.isNone = true ∧ Extern.findNext fn = none ∧ Extern.find fn = some Extern.ReflectliteType.typeOf :=
  ⟨_, Tryz.func91, by kernel_rfl, by kernel_rfl, by kernel_rfl, by kernel_rfl⟩
theorem ext257 : ∃ fn, Tryz.prog.funcs[257]? = some fn ∧ (fn.name == "runtime.NumGoroutine") = false ∧ fn.body.isNone = true ∧ Extern.findNext fn = none ∧ Extern.find fn = some cmpE :=
  ⟨_, Tryz.func257, by kernel_rfl, by kernel_rfl, by kernel_rfl, by kernel_rfl⟩
theorem typeOf45 (v : Value) (w : World) : (Extern.ReflectliteType.typeOf #[.iface 45 v]).run Tryz.prog w = .ok (.iface 242 (.agg #[.pointer (some ⟨12, 45, none⟩)])) w := by kernel_rfl
theorem comparable45 (w : World) : (cmpE #[.agg #[.pointer (some ⟨12, 45, none⟩)]]).run Tryz.prog w = .ok (.bool true) w := by kernel_rfl
theorem exE_ok {m : PH} : ExOk Tryz.prog exE [roAll m] := by
  intro f vs x h
  unfold exE at h
  split at h
  · cases h
    refine ⟨fun _ => trivial, fun β => .inl fun w => ?_⟩
    obtain ⟨fn, h1, h2, h3, h4, h5⟩ := ext91
    rw [run_callFunc_extern h1 h2 h3 h4 h5]
    have := typeOf45
    simp only [List.map_cons, List.map_nil, SV.den, Ce.den]
    rw [this]
    rfl
  · cases h
    refine ⟨fun _ => trivial, fun β => .inl fun w => ?_⟩
    obtain ⟨fn, h1, h2, h3, h4, h5⟩ := ext257
    rw [run_callFunc_extern h1 h2 h3 h4 h5]
    have := comparable45
    simp only [List.map_cons, List.map_nil, SV.den, Ce.den]
    rw [this]
    rfl
  · cases h
theorem exT_ok {m : PH} (hG : GlN m) : ExOk Tryz.prog exT [roAll m] := by
  intro f vs x h
  unfold exT at h
  split at h
  · rename_i n
    split at h <;> cases h
    rename_i hn
    refine ⟨fun _ => trivial, fun β => .inr ?_⟩
    exact (FormatInt_ok hG n (inI64_ok hn)).mono fun v Q hq => hq.1
  · exact exE_ok f vs x h
theorem mix0 : Tryz.prog.follows .mixedOrders = true := by kernel_rfl
theorem noNg0 : noNg Tryz.prog = true := by kernel_rfl
abbrev kn (m : PH) : Kn := ⟨exT, glT, [roAll m], 58⟩
theorem jn_ok : JnOk Tryz.prog 58 := fun _ => ⟨enters_of Tryz.func58 (by kernel_rfl) rfl, fun bk o c xs sep w h1 h2 h3 h4 h5 => Tryz.strings_Join bk o c xs sep w h1 h2 h3 h4 h5⟩
abbrev knE (m : PH) : Kn := ⟨exE, glE, [roAll m], 58⟩
theorem glE_ok {m : PH} (hG : GlT m) : GlobP glE [roAll m] [roAll m] := GlobP.ro fun e he => by
  simp only [glE, List.mem_cons, List.not_mem_nil, or_false] at he
  rcases he with rfl
  exact hG.tz
theorem gl_ok {m : PH} (hG : GlN m) : GlobP glT [roAll m] [roAll m] := GlobP.ro fun e he => by
  simp only [glT, List.mem_cons, List.not_mem_nil, or_false] at he
  rcases he with rfl | rfl | rfl | rfl | rfl
  · exact hG.kinds
  · exact hG.states
  · exact hG.deeds
  · exact hG.signs
  · exact hG.tz
end Go.Proofs.YtccmdlmlbkpjjaaGreatDoor

/- The awake of norialaw24, and AuditNil. -/
namespace Go.Proofs.YtccmdlmlbkpjjaaGreatDoor
open Go.RowKit Go.Lib
set_option maxRecDepth 100000
theorem awake24_gx (m : PH) : gxTrue Tryz.prog (knE m) 1000000 9 [] = true := by kernel_rfl
theorem awake24_ok {m : PH} (hG : GlT m) : FnOk Tryz.prog 9 [] [roAll m] fun v _ => v = .bool true := gxTrue_ok (exE_ok) jn_ok noNg0 mix0 (awake24_gx m) (by simp) [roAll m] (glE_ok hG)
/-- .. with what awake comes to. -/
def exA (f : Nat) (vs : List SV) : Option SV :=
  match f, vs with
  | 9, [] => some (.c (.v (.bool true)))
  | f, vs => exE f vs
theorem exA_ok {m : PH} (hG : GlT m) : ExOk Tryz.prog exA [roAll m] := by
  intro f vs x h
  unfold exA at h
  split at h
  · cases h
    exact ⟨fun _ => trivial, fun β => .inr (awake24_ok hG)⟩
  · exact exE_ok f vs x h
abbrev knA (m : PH) : Kn := ⟨exA, glE, [roAll m], 58⟩
end Go.Proofs.YtccmdlmlbkpjjaaGreatDoor

/- AuditNil. -/
namespace Go.Proofs.YtccmdlmlbkpjjaaGreatDoor
open Go.RowKit Go.Lib
set_option maxRecDepth 100000
theorem auditNil_gx1 (m : PH) (k : Nat) : gxTrue Tryz.prog (knA m) 1000000 3 [.c (.v (.int .i64 (.negSucc (k + 1))))] = true := by kernel_rfl
theorem auditNil_gx2 (m : PH) : gxTrue Tryz.prog (knA m) 1000000 3 [.c (.v (.int .i64 (.negSucc 0)))] = true := by kernel_rfl
theorem auditNil_gx3 (m : PH) (k : Nat) : gxTrue Tryz.prog (knA m) 1000000 3 [.c (.v (.int .i64 (.ofNat k)))] = true := by kernel_rfl
theorem auditNil_gx (m : PH) (n : Int) : gxTrue Tryz.prog (knA m) 1000000 3 [.c (.v (.int .i64 n))] = true := by
  match n with
  | .ofNat k => exact auditNil_gx3 m k
  | .negSucc 0 => exact auditNil_gx2 m
  | .negSucc (k + 1) => exact auditNil_gx1 m k
theorem auditNil_ok {m : PH} (hG : GlT m) (n : Int) : FnOk Tryz.prog 3 [.int .i64 n] [roAll m] fun v _ => v = .bool true :=
  gxTrue_ok (exA_ok hG) jn_ok noNg0 mix0 (auditNil_gx m n) (by intro v hv; simp only [List.mem_cons, List.not_mem_nil, or_false] at hv; subst hv; trivial) [roAll m] (glE_ok hG)
end Go.Proofs.YtccmdlmlbkpjjaaGreatDoor

/- AuditNil: the statement's tied card holds: for every number the law returns true, where the listed package-level variables hold what the program's text lays. -/
namespace Go.Proofs.YtccmdlmlbkpjjaaGreatDoor
open Go.ChangeShapes Go.WideShapes Go.ChangeAt Go.RowKit

set_option maxRecDepth 100000 in
theorem auditNil_lifted (os : Os) (started : os.Started) (H : Type) (enc : TypeId × Value → H) :
    ReturnsInHanded {} Tryz.checked os 3 .any (fun w args => (Rows.auditNilSpec.pre enc Tryz.prog Tryz.f3 [] false w args ∧ laidMetH Tryz.prog Rows.auditNilRow.laid w) ∧ sizedMet enc Tryz.prog Tryz.f3 (OpenSpec.ofChange Rows.auditNilSpec) false w args)
      (Rows.auditNilSpec.post enc Tryz.prog Tryz.f3 false true false false) := by
  refine law_laid (C := Tryz.checked) (tb := 4) laid0 rfl rfl Tryz.underlying4 ?_ (by kernel_rfl) own0 started (by kernel_rfl) Tryz.func3
    (ChangeSpec.witness_shaped (enc := enc) (C := Tryz.checked) (os := os) (X := fun w _ => laidMetH Tryz.prog Rows.auditNilRow.laid w) false (World.laidAll Tryz.prog os Rows.auditNilRow.laid) #[.int .i64 0] 8 (World.laidAll_os _ _ _)
      (World.shaped_of_ZipB (by kernel_rfl) (by kernel_rfl)) (by kernel_rfl) (by kernel_rfl) (by kernel_rfl)
      (by rw [MakeChecks.laidMetH_plain _ _ _ (by kernel_rfl)]; exact laidMet_laidAll _ (by kernel_rfl) (by kernel_rfl))) ?_
  · intro ds hl
    match ds, hl with
    | [d1], _ => exact ⟨rfl, rfl, rfl⟩
  intro W base args ds ps hval hA _ hsh hL
  rw [MakeChecks.laidMetH_plain _ _ _ (by kernel_rfl)] at hL
  rw [Tryz.params3] at hval hA
  rw [chk0] at hval hA hsh hL
  have hG : GlT (hw W) := glt_of fun x hx => Lib.laidMet.reads hL (by
    simp only [laidT, List.mem_cons, List.cons_append, List.nil_append, List.not_mem_nil, or_false] at hx
    rcases hx with rfl <;> simp [Rows.auditNilRow])
  obtain ⟨v0, r0, d0, e_0, p0, q0, rfl, rfl, rfl, h0, hA⟩ := trodAll_cons hA
  obtain ⟨rfl, rfl, rfl⟩ := trodAll_nil hA
  obtain ⟨n0, rfl, hn0⟩ := open_i64 Tryz.underlying3 (hval 0 3 v0 rfl rfl) h0
  exact (auditNil_ok hG n0).law fun v Q h => h

theorem auditNil_holds : Rows.AuditNilSaid :=
  OpenClaim.holds_of_wide 3 Tryz.f3 rfl rfl rfl rfl rfl rfl rfl ⟨rfl, rfl, rfl, rfl, rfl⟩ rfl rfl rfl rfl rfl (by kernel_rfl) Tryz.func3 (by kernel_rfl)
    (of_decide_eq_true (by kernel_rfl)) (by unfold Func.isWrapper; first | (rw [if_pos (by decide +kernel)]; kernel_rfl) | (rw [if_neg (by decide +kernel)]; exact ⟨rfl, rfl⟩))
    (fun os started H enc _ => auditNil_lifted os started H enc)

theorem auditNil_card : Rows.AuditNilCardSaid :=
  Claim7.holds_tied_plain_at .later [] [.data, .data] true Rows.auditNilCard.stood.harness true
    auditNil_holds (fun _ h => by cases h) (by kernel_rfl) (fun _ h => by cases h) auditNil_row_tie rfl ⟨rfl, rfl⟩ (by kernel_rfl) rfl
    (fun f fn hf hfn => by
      obtain rfl : f = 3 := Option.some.inj ((show Tryz.prog.funcNamed "noria/norialaw24.AuditNil" = some 3 by kernel_rfl).symm.trans hf) |>.symm
      obtain rfl : fn = Tryz.f3 := (Option.some.inj (Tryz.func3.symm.trans hfn)).symm
      exact ⟨by kernel_rfl, fun j t ht => by
        rw [Tryz.params3] at ht
        have hm : t ∈ [3] := by simpa using Array.mem_of_getElem? ht
        have hall : ([3].all fun u => !Tryz.prog.wantsStandIn u) = true := by kernel_rfl
        exact (show Tryz.prog.wantsStandIn t = false by simpa using List.all_eq_true.1 hall t hm)⟩)
    (by kernel_rfl)
end Go.Proofs.YtccmdlmlbkpjjaaGreatDoor
