/- Regions whose order is drawn: by a plan: what only looks may be taken first, what acts comes alone. -/
import Derived.Test.YtngfadijcpnblaaSxh
import Derived.OrdersHeld
namespace Go.Proofs.Ytngfadijcpnblaa
open Go.RowKit

/-- How an operation of a region is met: it looks at no memory; it looks at what is held; it acts (and leaves what is held, or comes behind all that look at it). -/
inductive PI where
  | pure (i : Nat)
  | held (i : Nat)
  | ex (i : Nat) (keep : Bool)

section
variable {P : Program} {ops : Array Oper} {Q : Exit → Act → World → Prop} {S T : World → Prop} {late : Nat → Bool}

/-- Whatever order is drawn; those that aren't late leave S. -/
def wpX (P : Program) (ops : Array Oper) (Q : Exit → Act → World → Prop) (S : World → Prop) (late : Nat → Bool) : Nat → Array Bool → Act → World → Prop
  | 0, listed, a, w => Region.ready .any ops listed = [] ∧ Q .normal a w
  | n + 1, listed, a, w => (Region.ready .any ops listed = [] → Q .normal a w) ∧
    ∀ i ∈ Region.ready .any ops listed, wpOp P ops Q i (fun a' w' => (late i = false → S w → S w') ∧ wpX P ops Q S late n (listed.setIfInBounds i true) a' w') a w

theorem wpX_any : ∀ (n : Nat) (listed : Array Bool) (a : Act) (w : World), wpX P ops Q S late n listed a w → wpAny P .any ops Q n listed a w
  | 0, _, _, _, h => h
  | n + 1, _, _, _, h => ⟨h.1, fun i hi => wpOp_mono (fun a' w' h' => wpX_any n _ a' w' h'.2) (h.2 i hi)⟩

/-- An operation that yields may be taken first. -/
theorem wpX_first {i : Nat} {oi : Oper} {v : Value} (hi : ops[i]? = some oi) (hsel : ∀ (j : Nat) (o : Oper) cs b, ops[j]? = some o → o.op ≠ .select cs b)
    (hQ : ∀ c a w, Q (.panic c) (a.put oi.dst v) w → Q (.panic c) a w)
    (hkeep : ∀ j oj, ops[j]? = some oj → (∀ e ∈ oj.after, Region.binds .any e = true → e.on ≠ i) → ∀ w w', T w → (late j = false → S w → S w') → T w') :
    ∀ (n : Nat) (listed : Array Bool) (a : Act) (w : World),
      (∀ j oj, ops[j]? = some oj → j ≠ i → listed.getD j true = false → (∀ e ∈ oj.after, Region.binds .any e = true → e.on ≠ i) → oi.apart ops oj = true) →
      i ∈ Region.ready .any ops listed → YieldsIf P ops T oi v a → T w →
      wpX P ops Q S late n (listed.setIfInBounds i true) (a.put oi.dst v) w → wpX P ops Q S late (n + 1) listed a w := by
  intro n
  induction n with
  | zero =>
    intro listed a w _ hr hy hT H
    refine ⟨fun h => absurd hr (by rw [h]; simp), fun j hj => ?_⟩
    by_cases hji : j = i
    · subst hji
      exact hy.wpOp hi hT ⟨fun _ h => h, H⟩
    · exact absurd (ready_mono (i := i) hj hji) (by rw [H.1]; simp)
  | succ n ih =>
    intro listed a w hfree hr hy hT H
    refine ⟨fun h => absurd hr (by rw [h]; simp), fun j hj => ?_⟩
    by_cases hji : j = i
    · subst hji
      exact hy.wpOp hi hT ⟨fun _ h => h, H⟩
    · have h1 := H.2 j (ready_mono hj hji)
      obtain ⟨hjun, oj, hoj, hall⟩ := mem_ready.1 hj
      have hnot : ∀ e ∈ oj.after, Region.binds .any e = true → e.on ≠ i := fun e he hb heq => by
        have h1 := hall e he hb
        have h0 := (mem_ready.1 hr).1
        rw [heq] at h1
        rcases Nat.lt_or_ge i listed.size with h' | h'
        · simp [h'] at h0 h1; rw [h0] at h1; cases h1
        · simp [Array.getElem?_eq_none h'] at h1
      have h2 := wpOp_putIf hoj (hfree j oj hoj hji hjun hnot) (fun cs b => hsel i oi cs b hi) (fun cs b => hsel j oj cs b hoj) hQ hy h1
      refine wpOp_mono (fun a' w' h3 => ⟨h3.2.1, ih (listed.setIfInBounds j true) a' w' ?_ (ready_mono hr (Ne.symm hji)) h3.1 (hkeep j oj hoj hnot w w' hT h3.2.1) ?_⟩) h2
      · intro k ok hk hki hun hno
        refine hfree k ok hk hki ?_ hno
        by_cases hjk : j = k
        · subst hjk; exact hjun
        · rw [getD_set_ne true hjk] at hun; exact hun
      · rw [Array.setIfInBounds_comm _ _ hji]
        exact h3.2.2

/-- A plan, met. -/
def planRun (P : Program) (ops : Array Oper) (Q : Exit → Act → World → Prop) (S : World → Prop) : List PI → Act → World → Prop
  | [], a, w => Q .normal a w
  | .pure i :: r, a, w => ∃ o v, ops[i]? = some o ∧ YieldsIf P ops (fun _ => True) o v a ∧ planRun P ops Q S r (a.put o.dst v) w
  | .held i :: r, a, w => ∃ o v, ops[i]? = some o ∧ YieldsIf P ops S o v a ∧ S w ∧ planRun P ops Q S r (a.put o.dst v) w
  | .ex i keep :: r, a, w => ∃ o, ops[i]? = some o ∧
      (Region.wanted o (yielded ops a.tmps) = true ∧ o.wp P a w (fun a' w' => (keep = true → S w → S w') ∧ planRun P ops Q S r a' w') Q ∨ Region.wanted o (yielded ops a.tmps) = false ∧ planRun P ops Q S r (a.put o.dst undef) w)

def isLate : List PI → Nat → Bool
  | [], _ => false
  | .ex i false :: r, j => i == j || isLate r j
  | _ :: r, j => isLate r j
/-- All that are late wait for i. -/
def lateWait (ops : Array Oper) (late : Nat → Bool) (i : Nat) : Bool :=
  (List.range ops.size).all fun j => !late j || match ops[j]? with
    | some o => o.after.any fun e => Region.binds .any e && e.on == i
    | none => true
def planOk (ops : Array Oper) (late : Nat → Bool) : Array Bool → List PI → Bool
  | listed, [] => (Region.ready .any ops listed).isEmpty
  | listed, .pure i :: r => (Region.ready .any ops listed).contains i && Region.free .any ops listed i && planOk ops late (listed.setIfInBounds i true) r
  | listed, .held i :: r => (Region.ready .any ops listed).contains i && Region.free .any ops listed i && lateWait ops late i && planOk ops late (listed.setIfInBounds i true) r
  | listed, .ex i keep :: r => (Region.ready .any ops listed == [i]) && (late i == !keep) && planOk ops late (listed.setIfInBounds i true) r

theorem plan_sound (hsel : Region.noSelect ops = true) (hQ : ∀ c a w, ¬ Q (.panic c) a w) : ∀ (plan : List PI) (listed : Array Bool) (a : Act) (w : World), planOk ops late listed plan = true → planRun P ops Q S plan a w → wpX P ops Q S late plan.length listed a w
  | [], listed, a, w, hp, h => by
    simp only [planOk, List.isEmpty_iff] at hp
    exact ⟨hp, h⟩
  | .pure i :: r, listed, a, w, hp, h => by
    simp only [planOk, Bool.and_eq_true] at hp
    obtain ⟨o, v, ho, hy, hr⟩ := h
    refine wpX_first ho (Region.noSelect_spec hsel) (fun c a w hq => absurd hq (hQ c _ w)) (T := fun _ => True) (fun _ _ _ _ _ _ _ _ => trivial) r.length listed a w (Region.free_spec ho hp.1.2) (by simpa using hp.1.1) hy trivial ?_
    exact plan_sound hsel hQ r _ _ w hp.2 hr
  | .held i :: r, listed, a, w, hp, h => by
    simp only [planOk, Bool.and_eq_true] at hp
    obtain ⟨o, v, ho, hy, hS, hr⟩ := h
    refine wpX_first ho (Region.noSelect_spec hsel) (fun c a w hq => absurd hq (hQ c _ w)) (T := S) (fun j oj hj hno w w' hw hk => ?_) r.length listed a w (Region.free_spec ho hp.1.1.2) (by simpa using hp.1.1.1) hy hS ?_
    · refine hk ?_ hw
      have hl := hp.1.2
      simp only [lateWait, List.all_eq_true, List.mem_range] at hl
      have h1 := hl j (Array.getElem?_eq_some_iff.1 hj).1
      simp only [hj, Bool.or_eq_true, Bool.not_eq_true'] at h1
      rcases h1 with h1 | h1
      · exact h1
      · obtain ⟨e, he, hb⟩ := Array.any_eq_true'.1 h1
        simp only [Bool.and_eq_true, beq_iff_eq] at hb
        exact absurd hb.2 (hno e he hb.1)
    · exact plan_sound hsel hQ r _ _ w hp.2 hr
  | .ex i keep :: r, listed, a, w, hp, h => by
    simp only [planOk, Bool.and_eq_true, beq_iff_eq] at hp
    obtain ⟨o, ho, h⟩ := h
    refine ⟨fun h0 => absurd hp.1.1 (by rw [h0]; simp), fun j hj => ?_⟩
    rw [hp.1.1, List.mem_singleton] at hj
    subst hj
    unfold wpOp
    simp only [ho]
    rcases h with ⟨hw, h⟩ | ⟨hw, h⟩
    · rw [if_pos hw]
      left
      refine Oper.wp_mono (fun a' w' h3 => ⟨fun hl hS => h3.1 (by rw [hp.1.2] at hl; simpa using hl) hS, plan_sound hsel hQ r _ a' w' hp.2 h3.2⟩) h
    · rw [if_neg (by rw [hw]; simp)]
      exact ⟨fun _ h => h, plan_sound hsel hQ r _ _ w hp.2 h⟩
end

/-! ### Upon a symbolic state -/
/-- All labels of a state's blocks are known by their numbers: the blocks, as assertions. -/
def pinS (bnd : Bnd) : Mem → Option (List SP)
  | [] => some []
  | (l, t, cs) :: r => match lookB bnd l with
    | some b => match cesV bnd cs with
      | some vs => match pinS bnd r with
        | some Ps => some (blk b (.cells vs.toArray t (0, 0)) :: Ps)
        | none => none
      | none => none
    | none => none
theorem pinS_eq {β : Nat → Nat} {bnd : Bnd} (hb : ∀ l b, lookB bnd l = some b → β l = b) : ∀ {m : Mem} {Ps : List SP}, pinS bnd m = some Ps → memSP β m = Ps
  | [], Ps, h => by simp only [pinS, Option.some.injEq] at h; subst h; rfl
  | (l, t, cs) :: r, Ps, h => by
    simp only [pinS] at h
    cases h1 : lookB bnd l with
    | none => rw [h1] at h; cases h
    | some b =>
      simp only [h1] at h
      cases h2 : cesV bnd cs with
      | none => simp only [h2] at h; cases h
      | some vs =>
        simp only [h2] at h
        cases h3 : pinS bnd r with
        | none => simp only [h3] at h; cases h
        | some Qs =>
          simp only [h3] at h
          cases h
          have ih := pinS_eq hb h3
          simp only [memSP, List.map_cons] at ih ⊢
          rw [ih]
          simp only [cellsOf, hb l b h1, cesV_den hb h2]

/-- What is held: some blocks of the state, and some assertions. -/
structure Held where
  mem : Mem
  bnd : Bnd
  ps : List SP
def heldW (H : Held) (w : World) : Prop := ∀ Ps, pinS H.bnd H.mem = some Ps → SatW (Ps ++ H.ps) w

def PlanC (g : Cx) (ops : Array Oper) (H : Held) (plan : List PI) (k : List Item) : Act → World → Prop := planRun g.P ops (Qn g k) (heldW H) plan
def PlanH (g : Cx) (ops : Array Oper) (H : Held) (plan : List PI) (k : List Item) : Act → World → Prop := fun a w => heldW H w → planRun g.P ops (Qn g k) (heldW H) plan a w
/-- Behind one that acts. -/
def AftC (g : Cx) (ops : Array Oper) (H : Held) (keep : Bool) (plan : List PI) (k : List Item) : Act → World → Prop := fun a w => (keep = true → heldW H w) ∧ planRun g.P ops (Qn g k) (heldW H) plan a w
/-- One that looks. -/
def HoC (g : Cx) (S : World → Prop) (o : Oper) (N : Act → World → Prop) : Act → World → Prop := fun a w => ∃ v, (∀ w', S w' → (execOp a.eval o).run g.P w' = .ok (.value v) w') ∧ N (a.put o.dst v) w

/-- A plan, what is held holding or not. -/
def planHead (g : Cx) (ops : Array Oper) (H : Held) (hold : Bool) (plan : List PI) (k : List Item) : Act → World → Prop :=
  match hold with
  | true => PlanH g ops H plan k
  | false => PlanC g ops H plan k

/-- An operation that looks, upon a state; mem: the blocks at which it may look. -/
def lookStep (g : Cx) (env : Env) (mem : Mem) (bnd : Bnd) (o : Oper) (st C D R : Env → Prop) : Prop :=
  match dstOk g.n o.dst with
  | false => st env
  | true => match pureOp g.P env mem bnd o.op with
    | .val x => putC o.dst x env C
    | .cells cs => putC o.dst (.agg cs) env C
    | .ar k n => Ar k n fun m => putC o.dst (.c (.v (.int k m))) env D
    | .no => match o.op with
      | .pick c x y => match ev env c with
        | some (.kb true) => match ev env x with
          | some u => putC o.dst u env C
          | none => st env
        | some (.kb false) => match ev env y with
          | some v => putC o.dst v env C
          | none => st env
        | some (.c (.v (.bool b))) => BrM b (assumeC env c true R) (assumeC env c false R)
        | _ => st env
      | _ => st env

/-- So many steps of a plan. hold: what is held holds. -/
def sxP : Nat → (g : Cx) → (ops : Array Oper) → (H : Held) → (hold : Bool) → Env → Mem → Bnd → Res → List PI → List Item → Prop
  | 0, g, ops, H, hold, env, mem, bnd, L, plan, k => Nx g env mem bnd L (planHead g ops H hold plan k)
  | n + 1, g, ops, H, hold, env, mem, bnd, L, plan, k => match plan with
    | [] => Nx g env mem bnd L (RunC g k)
    | .pure i :: r => match getL ops.toList i with
      | some o => match guardS ops.toList env o with
        | .yes => lookStep g env [] bnd o (fun env => Nx g env mem bnd L (HoC g (fun _ => True) o (planHead g ops H hold r k))) (fun env => sxP n g ops H hold env mem bnd L r k) (fun env => Nx g env mem bnd L (planHead g ops H hold r k)) (fun env => Nx g env mem bnd L (planHead g ops H hold (.pure i :: r) k))
        | .no => match dstOk g.n o.dst with
          | true => putC o.dst (.c (.v undef)) env fun env => sxP n g ops H hold env mem bnd L r k
          | false => False
        | .br d b => BrM b (Nx g ((d, .kb true) :: env) mem bnd L (planHead g ops H hold (.pure i :: r) k)) (Nx g ((d, .kb false) :: env) mem bnd L (planHead g ops H hold (.pure i :: r) k))
        | .st => Nx g env mem bnd L (planHead g ops H hold (.pure i :: r) k)
      | none => False
    | .held i :: r => match hold with
      | false => False
      | true => match getL ops.toList i with
        | some o => match guardS ops.toList env o with
          | .yes => lookStep g env H.mem bnd o (fun env => Nx g env mem bnd L (HoC g (heldW H) o (planHead g ops H true r k))) (fun env => sxP n g ops H true env mem bnd L r k) (fun env => Nx g env mem bnd L (planHead g ops H true r k)) (fun env => Nx g env mem bnd L (planHead g ops H true (.held i :: r) k))
          | .no => match dstOk g.n o.dst with
            | true => putC o.dst (.c (.v undef)) env fun env => sxP n g ops H true env mem bnd L r k
            | false => False
          | .br d b => BrM b (Nx g ((d, .kb true) :: env) mem bnd L (planHead g ops H true (.held i :: r) k)) (Nx g ((d, .kb false) :: env) mem bnd L (planHead g ops H true (.held i :: r) k))
          | .st => Nx g env mem bnd L (planHead g ops H true (.held i :: r) k)
        | none => False
    | .ex i keep :: r => match getL ops.toList i with
      | some o => match guardS ops.toList env o with
        | .yes => opStep g env mem bnd L o (fun env mem bnd L => Nx g env mem bnd L (OneC g o (AftC g ops H keep r k) (Qn g k))) (fun env mem bnd L => Nx g env mem bnd L (AftC g ops H keep r k)) (fun env => Nx g env mem bnd L (AftC g ops H keep r k)) (fun env bnd => Nx g env mem bnd L (OneC g o (AftC g ops H keep r k) (Qn g k)))
        | .no => match dstOk g.n o.dst with
          | true => putC o.dst (.c (.v undef)) env fun env => sxP n g ops H hold env mem bnd L r k
          | false => False
        | .br d b => BrM b (Nx g ((d, .kb true) :: env) mem bnd L (planHead g ops H hold (.ex i keep :: r) k)) (Nx g ((d, .kb false) :: env) mem bnd L (planHead g ops H hold (.ex i keep :: r) k))
        | .st => Nx g env mem bnd L (planHead g ops H hold (.ex i keep :: r) k)
      | none => False
end Go.Proofs.Ytngfadijcpnblaa
