/- The evaluator: parts of slices and strings; all operations that leave memory as it is. -/
import Derived.Test.YtngfadijcpnblaaGxb
namespace Go.Proofs.Ytngfadijcpnblaa
open Go.RowKit

def BdV : Option Value → Option Nat → Prop
  | none, none => True
  | some (.int _ i), some n => i = (n : Int)
  | _, _ => False
theorem BdV.some {v : Value} {n : Nat} (h : BdV (some v) (some n)) : ∃ k, v = .int k n := by
  cases v <;> simp only [BdV] at h
  subst h
  exact ⟨_, rfl⟩
theorem bound_run {P : Program} {w : World} (k : IntKind) (i j : Nat) (code : BoundsCode) (h : i ≤ j) : (Instr.sliceBound (.int k i) j code).run P w = .ok i w := by
  have : (0 : Int) ≤ i ∧ (i : Int) ≤ j := ⟨by omega, by omega⟩
  simp [Instr.sliceBound, asIntOf, this]
theorem bounds_run {P : Program} {w : World} {isS : Bool} {n c l h m : Nat} {lo hi mx : Option Value} {ln hn mn : Option Nat} (h1 : BdV lo ln) (h2 : BdV hi hn) (h3 : BdV mx mn) (hx : mn.isSome = true → hn.isSome = true)
    (el : ln.getD 0 = l) (eh : hn.getD n = h) (em : mn.getD c = m) (a1 : l ≤ h) (a2 : h ≤ m) (a3 : m ≤ c) : (Instr.sliceBounds isS n c lo hi mx).run P w = .ok (l, h, m) w := by
  cases ln with
  | none =>
    cases lo with
    | some v => simp [BdV] at h1
    | none =>
      simp only [Option.getD_none] at el
      subst el
      cases mn with
      | none =>
        cases mx with
        | some v => simp [BdV] at h3
        | none =>
          simp only [Option.getD_none] at em
          subst em
          cases hn with
          | none =>
            cases hi with
            | some v => simp [BdV] at h2
            | none => simp only [Option.getD_none] at eh; subst eh; simp [Instr.sliceBounds]
          | some q =>
            cases hi with
            | none => simp [BdV] at h2
            | some v =>
              obtain ⟨k, rfl⟩ := h2.some
              simp only [Option.getD_some] at eh
              subst eh
              simp [Instr.sliceBounds, bound_run _ _ _ _ a2]
      | some p =>
        cases mx with
        | none => simp [BdV] at h3
        | some v3 =>
          obtain ⟨k3, rfl⟩ := h3.some
          simp only [Option.getD_some] at em
          subst em
          cases hn with
          | none => simp at hx
          | some q =>
            cases hi with
            | none => simp [BdV] at h2
            | some v =>
              obtain ⟨k, rfl⟩ := h2.some
              simp only [Option.getD_some] at eh
              subst eh
              simp [Instr.sliceBounds, bound_run _ _ _ _ a2, bound_run _ _ _ _ a3]
  | some r =>
    cases lo with
    | none => simp [BdV] at h1
    | some v1 =>
      obtain ⟨k1, rfl⟩ := h1.some
      simp only [Option.getD_some] at el
      subst el
      cases mn with
      | none =>
        cases mx with
        | some v => simp [BdV] at h3
        | none =>
          simp only [Option.getD_none] at em
          subst em
          cases hn with
          | none =>
            cases hi with
            | some v => simp [BdV] at h2
            | none => simp only [Option.getD_none] at eh; subst eh; simp [Instr.sliceBounds, bound_run _ _ _ _ a1]
          | some q =>
            cases hi with
            | none => simp [BdV] at h2
            | some v =>
              obtain ⟨k, rfl⟩ := h2.some
              simp only [Option.getD_some] at eh
              subst eh
              simp [Instr.sliceBounds, bound_run _ _ _ _ a2, bound_run _ _ _ _ a1]
      | some p =>
        cases mx with
        | none => simp [BdV] at h3
        | some v3 =>
          obtain ⟨k3, rfl⟩ := h3.some
          simp only [Option.getD_some] at em
          subst em
          cases hn with
          | none => simp at hx
          | some q =>
            cases hi with
            | none => simp [BdV] at h2
            | some v =>
              obtain ⟨k, rfl⟩ := h2.some
              simp only [Option.getD_some] at eh
              subst eh
              simp [Instr.sliceBounds, bound_run _ _ _ _ a2, bound_run _ _ _ _ a3, bound_run _ _ _ _ a1]

def orN (x : Option Nat) (d : Nat) : Nat :=
  match x with
  | some k => k
  | none => d
theorem orN_eq (x : Option Nat) (d : Nat) : x.getD d = orN x d := by cases x <;> rfl
/-- Are bounds right? -/
def fits (l h m c : Nat) (mx hi : Option Nat) : Bool :=
  match mx, hi with
  | some _, none => false
  | _, _ => match Nat.ble l h with
    | true => match Nat.ble h m with
      | true => Nat.ble m c
      | false => false
    | false => false
theorem fits_ok {l h m c : Nat} {mx hi : Option Nat} (k : fits l h m c mx hi = true) : (mx.isSome = true → hi.isSome = true) ∧ l ≤ h ∧ h ≤ m ∧ m ≤ c := by
  unfold fits at k
  split at k
  · cases k
  · rename_i hne
    split at k <;> try (cases k; done)
    rename_i h1
    split at k <;> try (cases k; done)
    rename_i h2
    refine ⟨fun hs => ?_, by simpa using h1, by simpa using h2, by simpa using k⟩
    cases mx with
    | none => cases hs
    | some p =>
      cases hi with
      | none => exact (hne p rfl rfl).elim
      | some q => rfl

/-- gn: how many elements a block that may grow has, at least. -/
def slcY (P : Program) (t : TypeId) (x : SV) (lo hi mx : Option Nat) (gn : Nat → Option Nat) : Out :=
  match P.underlying t with
  | some .string => match x with
    | .c (.v (.string s)) => match mx with
      | some _ => .no
      | none => match fits (orN lo 0) (orN hi s.size) s.size s.size mx hi with
        | true => .val (.c (.v (.string (s.extract (orN lo 0) (orN hi s.size)))))
        | false => .no
    | _ => .no
  | some (.slice e) => match P.info? e with
    | some ei => match x with
      | .c (.v (.slice none 0 0)) => match fits (orN lo 0) (orN hi 0) (orN mx 0) 0 mx hi with
        | true => .val (.c (.v (.slice none 0 0)))
        | false => .no
      | .c (.locs l0 o n c) => match fits (orN lo 0) (orN hi n) (orN mx c) c mx hi with
        | true => match Nat.beq (orN mx c) (orN lo 0) with
          | true => .val (.c (.locs l0 o (orN hi n - orN lo 0) (orN mx c - orN lo 0)))
          | false => .val (.c (.locs l0 (addN o (orN lo 0 * ei.size)) (orN hi n - orN lo 0) (orN mx c - orN lo 0)))
        | false => .no
      | .c (.gro l0 o n e') => match gn l0 with
        | some N => match mx with
          | some m => match fits (orN lo 0) (orN hi n) m (N - e') mx hi with
            | true => match Nat.beq m (orN lo 0) with
              | true => .val (.c (.locs l0 o (orN hi n - orN lo 0) (m - orN lo 0)))
              | false => .val (.c (.locs l0 (addN o (orN lo 0 * ei.size)) (orN hi n - orN lo 0) (m - orN lo 0)))
            | false => .no
          | none => match fits (orN lo 0) (orN hi n) (N - e') (N - e') mx hi with
            | true => match orN lo 0 with
              | 0 => .val (.c (.gro l0 o (orN hi n) e'))
              | l + 1 => match Nat.blt (l + 1) (N - e') with
                | true => .val (.c (.gro l0 (addN o ((l + 1) * ei.size)) (orN hi n - (l + 1)) (e' + (l + 1))))
                | false => .val (.c (.tl l0 o (l + 1) ei.size e'))
            | false => .no
        | none => .no
      | _ => .no
    | none => .no
  | _ => .no

theorem slcY_ok {P : Program} {β : Nat → Nat} {w : World} {x : SV} {t : TypeId} {lo hi mx : Option Value} {ln hn mn : Option Nat} {gn : Nat → Option Nat} (h1 : BdV lo ln) (h2 : BdV hi hn) (h3 : BdV mx mn) (hg : ∀ l N, gn l = some N → N ≤ β (l + 1)) :
    OutOk P β (do pure (.value (← Instr.sliceAt t (x.den β) lo hi mx))) w (slcY P t x ln hn mn gn) := by
  unfold slcY
  split <;> try exact trivial
  · rename_i hu
    split <;> try exact trivial
    rename_i s
    split <;> try exact trivial
    split <;> try exact trivial
    rename_i hf
    obtain ⟨a0, a1, a2, a3⟩ := fits_ok hf
    cases mx with
    | some v => simp [BdV] at h3
    | none =>
      have hb := bounds_run (P := P) (w := w) (isS := false) (n := s.size) (c := s.size) h1 h2 (mx := none) (mn := none) trivial (by simp) (orN_eq _ _) (orN_eq _ _) rfl a1 a2 (Nat.le_refl _)
      exact vOut (by simp [Instr.sliceAt, Instr.slice, run_underlying hu, SV.den, Ce.den, hb])
  · rename_i e hu
    split <;> try exact trivial
    rename_i ei hi'
    split <;> try exact trivial
    · split <;> try exact trivial
      rename_i hf
      obtain ⟨a0, a1, a2, a3⟩ := fits_ok hf
      have hb := bounds_run (P := P) (w := w) (isS := true) (n := 0) (c := 0) h1 h2 h3 a0 (orN_eq _ _) (orN_eq _ _) (orN_eq _ _) a1 a2 a3
      have z1 : orN ln 0 = 0 := by omega
      have z2 : orN hn 0 = 0 := by omega
      have z3 : orN mn 0 = 0 := by omega
      rw [z1, z2, z3] at hb
      exact vOut (by simp [Instr.sliceAt, Instr.slice, run_underlying hu, SV.den, Ce.den, hb, sizeOf, typeInfo, hi'])
    · rename_i l0 o n c
      split <;> try exact trivial
      rename_i hf
      obtain ⟨a0, a1, a2, a3⟩ := fits_ok hf
      have hb := bounds_run (P := P) (w := w) (isS := true) (n := n) (c := c) h1 h2 h3 a0 (orN_eq _ _) (orN_eq _ _) (orN_eq _ _) a1 a2 a3
      split
      · rename_i hq
        have hq' : orN mn c = orN ln 0 := Nat.eq_of_beq_eq_true hq
        exact vOut (by simp [Instr.sliceAt, Instr.slice, run_underlying hu, SV.den, Ce.den, hb, sizeOf, typeInfo, hi', hq'])
      · rename_i hq
        have hq' : ¬ orN mn c = orN ln 0 := by intro e; rw [e] at hq; simp at hq
        exact vOut (by simp [Instr.sliceAt, Instr.slice, run_underlying hu, SV.den, Ce.den, hb, sizeOf, typeInfo, hi', hq', add_plain', addN_eq])
    · rename_i l0 o n e'
      split <;> try exact trivial
      rename_i N hN
      have hNb := hg l0 N hN
      split
      · rename_i m
        split <;> try exact trivial
        rename_i hf
        obtain ⟨a0, a1, a2, a3⟩ := fits_ok hf
        have hb := bounds_run (P := P) (w := w) (isS := true) (n := n) (c := β (l0 + 1) - e') (m := m) h1 h2 h3 a0 (orN_eq _ _) (orN_eq _ _) rfl a1 a2 (by omega)
        split
        · rename_i hq
          have hq' : m = orN ln 0 := Nat.eq_of_beq_eq_true hq
          exact vOut (by simp [Instr.sliceAt, Instr.slice, run_underlying hu, SV.den, Ce.den, hb, sizeOf, typeInfo, hi', hq'])
        · rename_i hq
          have hq' : ¬ m = orN ln 0 := by intro e; rw [e] at hq; simp at hq
          exact vOut (by simp [Instr.sliceAt, Instr.slice, run_underlying hu, SV.den, Ce.den, hb, sizeOf, typeInfo, hi', hq', add_plain', addN_eq])
      · split <;> try exact trivial
        rename_i hf
        obtain ⟨a0, a1, a2, a3⟩ := fits_ok hf
        have hb := bounds_run (P := P) (w := w) (isS := true) (n := n) (c := β (l0 + 1) - e') (m := β (l0 + 1) - e') h1 h2 h3 (by simp) (orN_eq _ _) (orN_eq _ _) rfl a1 (by omega) (Nat.le_refl _)
        split
        · rename_i hz
          rw [hz] at hb
          refine vOut ?_
          simp only [Instr.sliceAt, Instr.slice, run_underlying hu, SV.den, Ce.den, Sem.run_bind, Result.andThen_ok, hb, sizeOf, typeInfo, run_program, hi', Sem.run_pure]
          by_cases hc : β (l0 + 1) - e' = 0
          · simp [hc]
          · simp [hc, add_plain']
        · rename_i l hz
          rw [hz] at hb a1
          split
          · rename_i hlt
            have hlt' : l + 1 < N - e' := by simpa [Nat.blt_eq] using hlt
            have hc : ¬ β (l0 + 1) - e' = l + 1 := by omega
            refine vOut ?_
            simp only [Instr.sliceAt, Instr.slice, run_underlying hu, SV.den, Ce.den, Sem.run_bind, Result.andThen_ok, hb, sizeOf, typeInfo, run_program, hi', Sem.run_pure]
            simp [hc, add_plain', addN_eq, Nat.sub_sub]
          · rename_i hlt
            have hlt' : ¬ l + 1 < N - e' := by rw [← Bool.not_eq_true, Nat.blt_eq] at hlt; exact hlt
            have hh : orN hn n - (l + 1) = 0 := by omega
            refine vOut ?_
            simp only [Instr.sliceAt, Instr.slice, run_underlying hu, SV.den, Ce.den, Sem.run_bind, Result.andThen_ok, hb, sizeOf, typeInfo, run_program, hi', Sem.run_pure, hh]
            by_cases hc : β (l0 + 1) - e' = l + 1
            · simp [hc]
            · simp [hc, add_plain']

/-! ### All together -/
def bdO (env : Env) : Option Operand → Option (Option Nat)
  | none => some none
  | some x => match nrm (ev env x) with
    | some (.c (.v (.int _ (.ofNat k)))) => some (some k)
    | _ => none
def gmLen (gm : GMem) (l : Nat) : Option Nat :=
  match lookG gm l with
  | some (_, n, _, _) => some n
  | none => none
def pureY (P : Program) (env : Env) (gm : GMem) : Op → Out
  | .load t x => match ev env x with
    | some (.c (.loc l o)) => match lookG gm l with
      | some (_, _, _, cs) => match aggOf P t with
        | .one => match getL cs o with
          | some y => .val (.c y)
          | none => .no
        | .many n => match cutL cs o n with
          | some ys => .cells ys
          | none => .no
        | .no => .no
      | none => .no
    | _ => .no
  | .nilCheck x => match ev env x with
    | some (.c (.ifl t l o)) => .val (.c (.ifl t l o))
    | _ => .no
  | .binOp op t x y _ => match nrm (ev env x) with
    | some (.agg xs) => match nrm (ev env y) with
      | some (.agg ys) => binA P op t xs ys
      | _ => .no
    | some u => match nrm (ev env y) with
      | some v => binY P op t u v
      | none => .no
    | none => .no
  | .unOp .xor _ x => match nrm (ev env x) with
    | some (.c (.v (.int k n))) => intB .xor k (match k.signed with | true => -1 | false => k.max) n
    | _ => .no
  | .makeInterface t x => match P.concrete t with
    | true => match ev env x with
      | some (.c (.loc l o)) => .val (.c (.ifl t l o))
      | _ => .no
    | false => .no
  | .indexAddr t x i => match ev env x with
    | some s => match nrm (ev env i) with
      | some (.c (.v (.int _ iv))) => idxY P t s iv
      | _ => .no
    | none => .no
  | .index t x i => match ev env x with
    | some s => match nrm (ev env i) with
      | some (.c (.v (.int _ iv))) => elmY P t s iv
      | _ => .no
    | none => .no
  | .slice t x lo hi mx => match ev env x with
    | some s => match bdO env lo with
      | some l => match bdO env hi with
        | some h => match bdO env mx with
          | some m => slcY P t s l h m (gmLen gm)
          | none => .no
        | none => .no
      | none => .no
    | none => .no
  | .extract x i => match ev env x with
    | some (.tps vs) => match getL vs i with
      | some (false, [y]) => .val (.c y)
      | some (true, cs) => .cells cs
      | _ => .no
    | _ => .no
  | .typeAssert x _ t ok => match nrm (ev env x) with
    | some s => assertY P s t ok
    | none => .no
  | .call ⟨.builtin b, args, ts⟩ => match b with
    | .len => match args.toList with
      | [x] => match ts.toList with
        | t :: _ => match P.underlying t with
          | some (.slice _) => match ev env x with
            | some (.c (.gro _ _ n _)) => .val (.c (.v (.int .i64 n)))
            | some (.c (.tl _ _ _ _ _)) => .val (.c (.v (.int .i64 0)))
            | _ => .no
          | _ => .no
        | _ => .no
      | _ => .no
    | _ => .no
  | _ => .no
end Go.Proofs.Ytngfadijcpnblaa
