/- The evaluator's word on a whole call. -/
import Derived.Test.YtngfadijcpnblaaGxn
import Derived.KernelRfl
namespace Go.Proofs.Ytngfadijcpnblaa
open Go.RowKit

/-- What is true. -/
def isTrueSV : SV → Bool
  | .c (.v (.bool b)) => b
  | .kb b => b
  | _ => false
theorem isTrueSV_den {x : SV} (h : isTrueSV x = true) (β : Nat → Nat) : x.den β = .bool true := by
  unfold isTrueSV at h
  split at h
  · subst h; rfl
  · subst h; rfl
  · cases h
def gxFn (P : Program) (exA : Nat → List SV → Option SV) (m : Nat) (f : Nat) (vs : List SV) : Option GR :=
  match P.funcs[f]? with
  | some fn => match fn.body with
    | some c => match Nat.ble vs.length fn.ntmps with
      | true => gx P exA m fn ⟨argG 0 vs, [], [], 0, 0⟩ (.run [.code c])
      | false => none
    | none => none
  | none => none
def gxTrue (P : Program) (exA : Nat → List SV → Option SV) (m : Nat) (f : Nat) (vs : List SV) : Bool :=
  match gxFn P exA m f vs with
  | some r => isTrueSV r.v
  | none => false
/-- No function that the machine runs by itself. -/
def noNg (P : Program) : Bool := P.funcs.toList.all fun fn => !(fn.name == "runtime.NumGoroutine")
theorem noNg_ok {P : Program} (h : noNg P = true) (f : Nat) (fn : Func) (hf : P.funcs[f]? = some fn) : (fn.name == "runtime.NumGoroutine") = false := by
  have := List.all_eq_true.1 h fn (by
    have := List.mem_of_getElem? (l := P.funcs.toList) (i := f) (a := fn) (by simpa using hf)
    exact this)
  simpa using this

theorem gxFn_ok {P : Program} {exA : Nat → List SV → Option SV} (hex : ExOk P exA) (hng : noNg P = true) (hmix : P.follows .mixedOrders = true) {m f : Nat} {vs : List SV} {r : GR} (h : gxFn P exA m f vs = some r) (hl : ∀ v ∈ vs, v.lt 0) (Pre : List SP) :
    FnOk P f (vs.map (SV.den fun _ => 0)) Pre fun v Q => ∃ β, v = r.v.den β ∧ Q = memSP β r.s.mem ++ (gmSP β r.s.gm ++ Pre) := by
  unfold gxFn at h
  split at h <;> try (cases h; done)
  rename_i fn hf
  split at h <;> try (cases h; done)
  rename_i c hb
  split at h <;> try (cases h; done)
  rename_i hle
  have hle' : vs.length ≤ fn.ntmps := by simpa using hle
  refine ⟨callF_run (noNg_ok hng) hf hb, fun F w hs => ?_⟩
  have hb0 : Bd ⟨argG 0 vs, [], [], 0, 0⟩ := ⟨argG_lt vs 0 hl, (fun _ h => (by cases h)), (fun _ h => (by cases h))⟩
  have hrel : RelG ⟨P, f, fn, fn.ntmps, fun v Q => ∃ β, v = r.v.den β ∧ Q = memSP β r.s.mem ++ (gmSP β r.s.gm ++ Pre), F, w.os, w.tape, w.output⟩ (fun _ => 0) ⟨argG 0 vs, [], [], 0, 0⟩ (nameL 0 Pre) { tmps := (vs.map (SV.den fun _ => 0)).toArray ++ Array.replicate (fn.ntmps - (vs.map (SV.den fun _ => 0)).toArray.size) undef, defers := [] } w := by
    refine RelG.mk' rfl (by simp; omega) ?_ rfl rfl rfl ?_
    · intro t x hx
      obtain ⟨_, h2⟩ := look_argG (fun _ => 0) vs 0 t x hx
      rw [Nat.sub_zero] at h2
      have hlt : t < (vs.map (SV.den fun _ => 0)).length := (List.getElem?_eq_some_iff.1 h2).1
      rw [Array.getElem?_append_left (by simpa using hlt)]
      simpa using h2
    · simpa [memSP, gmSP, nameL_snd] using hs
  refine calls_of_ret hf hb (gx_sound hex (noNg_ok hng) hmix m fn _ _ _ h f _ _ _ _ _ _ _ _ _ hf hrel hb0 ?_)
  intro β' _
  exact ⟨β', rfl, by rw [nameL_snd]⟩

theorem gxTrue_ok {P : Program} {exA : Nat → List SV → Option SV} (hex : ExOk P exA) (hng : noNg P = true) (hmix : P.follows .mixedOrders = true) {m f : Nat} {vs : List SV} (h : gxTrue P exA m f vs = true) (hl : ∀ v ∈ vs, v.lt 0) (Pre : List SP) :
    FnOk P f (vs.map (SV.den fun _ => 0)) Pre fun v _ => v = .bool true := by
  unfold gxTrue at h
  split at h
  · rename_i r hr
    exact (gxFn_ok hex hng hmix hr hl Pre).mono fun v Q ⟨β, h1, _⟩ => h1.trans (isTrueSV_den h β)
  · cases h
end Go.Proofs.Ytngfadijcpnblaa
