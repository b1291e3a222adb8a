/- The evaluator: it only adds to memory, or tells how deep it turned it. -/
import Derived.Test.YtngfadijcpnblaaGxj
namespace Go.Proofs.Ytngfadijcpnblaa
open Go.RowKit

/-- What is known of functions: without a body they give a value; with one there is a contract. -/
def ExOk (P : Program) (exA : Nat → List SV → Option SV) : Prop := ∀ f vs x, exA f vs = some x → (∀ n, x.lt n) ∧ ∀ β, ((∀ w, (callFunc f (vs.map (SV.den β)).toArray).run P w = .ok (.value (x.den β)) w) ∨ FnOk P f (vs.map (SV.den β)) [] fun v _ => v = x.den β)

theorem evs_lt {n : Nat} {env : Env} (h : ltE n env) : ∀ {xs : List Operand} {vs : List SV}, evs env xs = some vs → ∀ v ∈ vs, v.lt n
  | [], vs, hv => by simp only [evs, Option.some.injEq] at hv; subst hv; simp
  | x :: r, vs, hv => by
    simp only [evs] at hv
    split at hv <;> try (cases hv; done)
    rename_i s hs
    split at hv <;> cases hv
    rename_i t ht
    intro v hm
    rcases List.mem_cons.1 hm with rfl | hm
    · exact nrm_lt h hs
    · exact evs_lt h ht v hm
theorem ofV_lt (n : Nat) (v : Value) : (ofV v).lt n := by
  cases v <;> first | trivial | exact vs_lt _ _
theorem ofVs_eq : ∀ l : List Value, ofVs l = l.map ofV
  | [] => rfl
  | _ :: r => by simp [ofVs, ofVs_eq r]
theorem ofVs_lt (n : Nat) (l : List Value) : ∀ v ∈ ofVs l, v.lt n := by
  rw [ofVs_eq]
  intro v hv
  obtain ⟨x, _, rfl⟩ := List.mem_map.1 hv
  exact ofV_lt n x
theorem appV_eq {α : Type} : ∀ (z r : List α), appV z r = some (z ++ r)
  | [], r => rfl
  | x :: z, r => by simp [appV, appV_eq z r]
theorem calleeG_lt {P : Program} {n f : Nat} {env : Env} {o : Oper} {us : List SV} (h : ltE n env) (hc : calleeG P env o = some (f, us)) : ∀ v ∈ us, v.lt n := by
  unfold calleeG at hc
  split at hc <;> try (cases hc; done)
  · split at hc <;> try (cases hc; done)
    split at hc <;> try (cases hc; done)
    rename_i vs hvs
    rw [appV_eq] at hc
    simp only at hc
    rw [appV_eq] at hc
    simp only [Option.some.injEq, Prod.mk.injEq] at hc
    obtain ⟨_, rfl⟩ := hc
    intro v hv
    rcases List.mem_append.1 hv with hv | hv
    · exact ofVs_lt n _ v hv
    · rcases List.mem_append.1 hv with hv | hv
      · exact evs_lt h hvs v hv
      · exact ofVs_lt n _ v hv
  · split at hc <;> try (cases hc; done)
    rename_i u hu
    split at hc <;> try (cases hc; done)
    rename_i t rv hrv
    have hrl : rv.lt n := by
      split at hrv <;> cases hrv
      · exact (ev_lt (s := SV.c (.ifl _ _ _)) h hu : _ < n)
      · exact ofV_lt n _
    split at hc <;> try (cases hc; done)
    split at hc <;> try (cases hc; done)
    split at hc <;> try (cases hc; done)
    split at hc <;> try (cases hc; done)
    split at hc <;> try (cases hc; done)
    · split at hc <;> cases hc
      rename_i vs hvs _
      intro v hv
      rcases List.mem_cons.1 hv with rfl | hv
      · exact hrl
      · exact evs_lt h hvs v hv
    · split at hc <;> cases hc
      rename_i vs hvs _
      intro v hv
      rcases List.mem_cons.1 hv with rfl | hv
      · exact hrl
      · exact evs_lt h hvs v hv
theorem retG_lt {P : Program} {n : Nat} {env : Env} {mem : Mem} (h : ltE n env) (hm : ltM n mem) : ∀ {rs : List ResultVar} {vs : List SV}, retG P env mem rs = some vs → ∀ v ∈ vs, v.lt n
  | [], vs, hv => by simp only [retG, Option.some.injEq] at hv; subst hv; simp
  | .tmp t :: r, vs, hv => by
    simp only [retG] at hv
    split at hv <;> try (cases hv; done)
    rename_i s hs
    split at hv <;> cases hv
    rename_i ss hss
    intro v hv
    rcases List.mem_cons.1 hv with rfl | hv
    · exact h _ _ hs
    · exact retG_lt h hm hss v hv
  | .cell x t :: r, vs, hv => by
    simp only [retG] at hv
    split at hv <;> try (cases hv; done)
    split at hv <;> try (cases hv; done)
    rename_i hl
    split at hv <;> try (cases hv; done)
    · split at hv <;> try (cases hv; done)
      rename_i y hy
      split at hv <;> cases hv
      rename_i ss hss
      intro v hv
      rcases List.mem_cons.1 hv with rfl | hv
      · exact (hm _ (lookM_mem hl)).2 _ (getL_mem hy)
      · exact retG_lt h hm hss v hv
    · split at hv <;> try (cases hv; done)
      rename_i ys hy
      split at hv <;> cases hv
      rename_i ss hss
      intro v hv
      rcases List.mem_cons.1 hv with rfl | hv
      · exact fun x hx => (hm _ (lookM_mem hl)).2 _ (cutL_mem hy x hx)
      · exact retG_lt h hm hss v hv
theorem tupG_lt {n : Nat} : ∀ {ss : List SV} {ps : List (Bool × List Ce)}, (∀ v ∈ ss, v.lt n) → tupG ss = some ps → ∀ p ∈ ps, ∀ x ∈ p.2, x.lt n
  | [], ps, _, h => by simp only [tupG, Option.some.injEq] at h; subst h; simp
  | s :: r, ps, hl, h => by
    simp only [tupG] at h
    split at h <;> try (cases h; done)
    rename_i p hp
    split at h <;> cases h
    rename_i qs hq
    intro q hm
    rcases List.mem_cons.1 hm with rfl | hm
    · exact tOf_lt (hl s (by simp)) hp
    · exact tupG_lt (fun v hv => hl v (List.mem_cons_of_mem _ hv)) hq q hm
theorem oneG_lt {n : Nat} {ss : List SV} {v : SV} (hl : ∀ v ∈ ss, v.lt n) (h : oneG ss = some v) : v.lt n := by
  unfold oneG at h
  split at h
  · cases h; exact hl _ (by simp)
  · split at h <;> cases h
    rename_i ps hp
    exact tupG_lt hl hp

theorem argG_lt {n : Nat} : ∀ (vs : List SV) (k : Nat), (∀ v ∈ vs, v.lt n) → ltE n (argG k vs)
  | [], _, _ => fun t x hx => by cases hx
  | v :: r, k, h => fun t x hx => by
    simp only [argG, look_cons] at hx
    split at hx
    · cases hx; exact h v (by simp)
    · exact argG_lt r (k + 1) (fun v hv => h v (List.mem_cons_of_mem _ hv)) t x hx

theorem outV_lt {n : Nat} {o : Out} {x : SV} (h : OutLt n o) (hx : outV o = some x) : x.lt n := by
  unfold outV at hx
  split at hx <;> cases hx
  · exact h
  · exact h
  · trivial
theorem outV_ok {P : Program} {β : Nat → Nat} {s : Sem Next} {w : World} {o : Out} {x : SV} (h : OutOk P β s w o) (hx : outV o = some x) : s.run P w = .ok (.value (x.den β)) w := by
  unfold outV at hx
  split at hx <;> cases hx <;> exact h

theorem lookR_lt {P : Program} {n k : Nat} {all : Array Oper} {env env' : Env} {m0 : Mem} {g0 : GMem} {hold : Bool} {pi : Bool} {i : Nat} (h : ltE k env) (hm : ltM k m0) (hg : ltG k g0) : ∀ {rd : List Nat}, lookR P n all env m0 g0 hold rd = some (pi, env', i) → ltE k env'
  | [], hl => by cases hl
  | j :: r, hl => by
    simp only [lookR] at hl
    split at hl <;> try (cases hl; done)
    rename_i o ho
    split at hl <;> try (cases hl; done)
    split at hl <;> try (cases hl; done)
    · split at hl <;> cases hl
      rename_i hp
      exact h.putO (x := .c (.v undef)) trivial hp
    · split at hl
      · rename_i x hx
        split at hl <;> cases hl
        rename_i hp
        exact h.putO (outV_lt (pureX_lt h (fun _ he => by cases he) (fun _ he => by cases he) o.op) hx) hp
      · split at hl
        · exact lookR_lt h hm hg hl
        · split at hl
          · rename_i x hx
            split at hl <;> cases hl
            rename_i hp
            exact h.putO (outV_lt (pureX_lt h hm hg o.op) hx) hp
          · exact lookR_lt h hm hg hl

theorem Grow.lowered {s s' : GS} (h : Grow { s with low := s.nl } s') : Grow s { s' with low := minN s.low s'.low } :=
  ⟨fun b => (let c := h.bd ⟨b.env, b.mem, b.gm⟩; ⟨c.env, c.mem, c.gm⟩), h.nl, (minN_le _ _).1, fun b hb hn m0 g0 k1 k2 k3 k4 => h.keeps b (Nat.le_trans hb (minN_le _ _).2) hn m0 g0 k1 k2 k3 k4⟩
theorem Grow.call {s t : GS} {env : Env} {env0 : Env} (h : Grow ⟨env0, s.mem, s.gm, s.nl, s.nl⟩ t) (h0 : Bd s → ltE s.nl env0) (he : Bd s → Bd t → ltE t.nl env) : Grow s ⟨env, t.mem, t.gm, t.nl, minN s.low t.low⟩ :=
  ⟨fun b => (let c := h.bd ⟨h0 b, b.mem, b.gm⟩; ⟨he b c, c.mem, c.gm⟩), h.nl, (minN_le _ _).1, fun b hb hn m0 g0 k1 k2 k3 k4 => h.keeps b (Nat.le_trans hb (minN_le _ _).2) hn m0 g0 k1 k2 k3 k4⟩
end Go.Proofs.Ytngfadijcpnblaa
