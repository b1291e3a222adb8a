/- The evaluator: plans with several orders; states that are alike up to the labels' names. -/
import Derived.Test.YtngfadijcpnblaaGxi
namespace Go.Proofs.Ytngfadijcpnblaa
open Go.RowKit

/-! ### Plans with several orders -/
inductive PT where
  | nil
  | pure (i : Nat) (r : PT)
  | held (i : Nat) (r : PT)
  /-- One that acts, the plan behind it, and what else may come first. -/
  | alt (i : Nat) (keep : Bool) (r o : PT)

section
variable {P : Program} {ops : Array Oper} {Q : Exit → Act → World → Prop} {S T : World → Prop} {late : Nat → Bool}
def planRunT (P : Program) (ops : Array Oper) (Q : Exit → Act → World → Prop) (S : World → Prop) : PT → Bool → Act → World → Prop
  | .nil, false, a, w => Q .normal a w
  | .nil, true, _, _ => True
  | .pure i r, _, a, w => ∃ o v, ops[i]? = some o ∧ YieldsIf P ops (fun _ => True) o v a ∧ planRunT P ops Q S r false (a.put o.dst v) w
  | .held i r, _, a, w => ∃ o v, ops[i]? = some o ∧ YieldsIf P ops S o v a ∧ S w ∧ planRunT P ops Q S r false (a.put o.dst v) w
  | .alt i keep r q, _, a, w => (∃ o, ops[i]? = some o ∧ Region.wanted o (yielded ops a.tmps) = true ∧ o.wp P a w (fun a' w' => (keep = true → S w → S w') ∧ planRunT P ops Q S r false a' w') Q) ∧ planRunT P ops Q S q true a w
def isLateT : PT → Nat → Bool
  | .nil, _ => false
  | .pure _ r, j => isLateT r j
  | .held _ r, j => isLateT r j
  | .alt i keep r q, j => (match keep with | true => false | false => Nat.beq i j) || isLateT r j || isLateT q j
def idsT : PT → List Nat
  | .alt i _ _ q => i :: idsT q
  | _ => []
def planOkT (ops : Array Oper) (late : Nat → Bool) : PT → Bool → Nat → Array Bool → Bool
  | .nil, false, n, listed => Nat.beq n 0 && (Region.ready .any ops listed).isEmpty
  | .nil, true, _, _ => true
  | .pure i r, false, n + 1, listed => (Region.ready .any ops listed).contains i && Region.free .any ops listed i && planOkT ops late r false n (listed.setIfInBounds i true)
  | .held i r, false, n + 1, listed => (Region.ready .any ops listed).contains i && Region.free .any ops listed i && lateWait ops late i && planOkT ops late r false n (listed.setIfInBounds i true)
  | .alt i keep r q, b, n + 1, listed => (b || Region.ready .any ops listed == idsT (.alt i keep r q)) && (late i == !keep) && planOkT ops late r false n (listed.setIfInBounds i true) && planOkT ops late q true (n + 1) listed
  | _, _, _, _ => false

theorem plan_soundT (hsel : Region.noSelect ops = true) (hQ : ∀ c a w, ¬ Q (.panic c) a w) : ∀ (p : PT),
    (∀ (n : Nat) (listed : Array Bool) (a : Act) (w : World), planOkT ops late p false n listed = true → planRunT P ops Q S p false a w → wpX P ops Q S late n listed a w) ∧
    (∀ (n : Nat) (listed : Array Bool) (a : Act) (w : World), planOkT ops late p true (n + 1) listed = true → planRunT P ops Q S p true a w → ∀ i ∈ idsT p, wpOp P ops Q i (fun a' w' => (late i = false → S w → S w') ∧ wpX P ops Q S late n (listed.setIfInBounds i true) a' w') a w)
  | .nil => ⟨fun n listed a w hp h => by
      simp only [planOkT, Bool.and_eq_true, List.isEmpty_iff, Nat.beq_eq] at hp
      obtain ⟨rfl, hp⟩ := hp
      exact ⟨hp, h⟩, fun n listed a w _ _ i hi => by cases hi⟩
  | .pure i r => ⟨fun n listed a w hp h => by
      cases n with
      | zero => cases hp
      | succ n =>
        simp only [planOkT, Bool.and_eq_true] at hp
        obtain ⟨o, v, ho, hy, hr⟩ := h
        refine wpX_first ho (Region.noSelect_spec hsel) (fun c a w hq => absurd hq (hQ c _ w)) (T := fun _ => True) (fun _ _ _ _ _ _ _ _ => trivial) n listed a w (Region.free_spec ho hp.1.2) (by simpa using hp.1.1) hy trivial ?_
        exact (plan_soundT hsel hQ r).1 n _ _ w hp.2 hr, fun n listed a w _ _ i hi => by cases hi⟩
  | .held i r => ⟨fun n listed a w hp h => by
      cases n with
      | zero => cases hp
      | succ n =>
        simp only [planOkT, Bool.and_eq_true] at hp
        obtain ⟨o, v, ho, hy, hS, hr⟩ := h
        refine wpX_first ho (Region.noSelect_spec hsel) (fun c a w hq => absurd hq (hQ c _ w)) (T := S) (fun j oj hj hno w w' hw hk => ?_) n listed a w (Region.free_spec ho hp.1.1.2) (by simpa using hp.1.1.1) hy hS ?_
        · refine hk ?_ hw
          have hl := hp.1.2
          simp only [lateWait, List.all_eq_true, List.mem_range] at hl
          have h1 := hl j (Array.getElem?_eq_some_iff.1 hj).1
          simp only [hj, Bool.or_eq_true, Bool.not_eq_true'] at h1
          rcases h1 with h1 | h1
          · exact h1
          · obtain ⟨e, he, hb⟩ := Array.any_eq_true'.1 h1
            simp only [Bool.and_eq_true, beq_iff_eq] at hb
            exact absurd hb.2 (hno e he hb.1)
        · exact (plan_soundT hsel hQ r).1 n _ _ w hp.2 hr, fun n listed a w _ _ i hi => by cases hi⟩
  | .alt i keep r q => by
    have key : ∀ (b : Bool) (n : Nat) (listed : Array Bool) (a : Act) (w : World), planOkT ops late (.alt i keep r q) b (n + 1) listed = true → planRunT P ops Q S (.alt i keep r q) b a w →
        ∀ j ∈ idsT (.alt i keep r q), wpOp P ops Q j (fun a' w' => (late j = false → S w → S w') ∧ wpX P ops Q S late n (listed.setIfInBounds j true) a' w') a w := by
      intro b n listed a w hp h j hj
      simp only [planOkT, Bool.and_eq_true, beq_iff_eq] at hp
      simp only [planRunT] at h
      obtain ⟨⟨o, ho, hw, h1⟩, h2⟩ := h
      rcases List.mem_cons.1 hj with rfl | hj
      · unfold wpOp
        simp only [ho]
        rw [if_pos hw]
        left
        refine Oper.wp_mono (fun a' w' h3 => ⟨fun hl hS => h3.1 (by rw [hp.1.1.2] at hl; simpa using hl) hS, (plan_soundT hsel hQ r).1 n _ a' w' hp.1.2 h3.2⟩) h1
      · exact (plan_soundT hsel hQ q).2 n listed a w hp.2 h2 j hj
    refine ⟨fun n listed a w hp h => ?_, fun n listed a w hp h => key true n listed a w hp h⟩
    cases n with
    | zero => simp [planOkT] at hp
    | succ n =>
      have hk := key false n listed a w hp h
      simp only [planOkT, Bool.and_eq_true, beq_iff_eq, Bool.false_or] at hp
      rw [← hp.1.1.1] at hk
      exact ⟨fun h0 => (by rw [hp.1.1.1] at h0; cases h0), hk⟩
end

/-! ### States alike -/
def beqB (x y : Bool) : Bool := match x, y with
  | true, true => true
  | false, false => true
  | _, _ => false
theorem beqB_ok {x y : Bool} (h : beqB x y = true) : x = y := by cases x <;> cases y <;> simp_all [beqB]
def beqV0 : Value → Value → Bool
  | .int k n, .int k' n' => decide (k = k') && decide (n = n')
  | .bool b, .bool b' => beqB b b'
  | .pointer none, .pointer none => true
  | .slice none n c, .slice none n' c' => Nat.beq n n' && Nat.beq c c'
  | .nilIface, .nilIface => true
  | .nilFunc, .nilFunc => true
  | .string s, .string s' => decide (s = s')
  | .tuple ⟨[]⟩, .tuple ⟨[]⟩ => true
  | _, _ => false
theorem beqV0_ok {x y : Value} (h : beqV0 x y = true) : x = y := by
  unfold beqV0 at h
  split at h <;> first
    | rfl
    | (cases h; done)
    | (simp only [Bool.and_eq_true, decide_eq_true_eq, Nat.beq_eq] at h; obtain ⟨rfl, rfl⟩ := h; rfl)
    | (have := beqB_ok h; subst this; rfl)
    | (simp only [decide_eq_true_eq] at h; subst h; rfl)
def beqV (x y : Value) : Bool := match x, y with
  | .iface t v, .iface t' v' => Nat.beq t t' && beqV0 v v'
  | x, y => beqV0 x y
theorem beqV_ok {x y : Value} (h : beqV x y = true) : x = y := by
  unfold beqV at h
  split at h
  · simp only [Bool.and_eq_true, Nat.beq_eq] at h
    obtain ⟨rfl, h⟩ := h
    rw [beqV0_ok h]
  · exact beqV0_ok h
section
variable (ρ : Nat → Nat)
def sameCe : Ce → Ce → Bool
  | .v x, .v y => beqV x y
  | .loc l o, .loc l' o' => Nat.beq (ρ l) l' && Nat.beq o o'
  | .locs l o n c, .locs l' o' n' c' => Nat.beq (ρ l) l' && Nat.beq o o' && Nat.beq n n' && Nat.beq c c'
  | .ifl t l o, .ifl t' l' o' => Nat.beq t t' && Nat.beq (ρ l) l' && Nat.beq o o'
  | .gro l o n e, .gro l' o' n' e' => Nat.beq (ρ l) l' && Nat.beq (ρ (l + 1)) (l' + 1) && Nat.beq o o' && Nat.beq n n' && Nat.beq e e'
  | .tl l o k z e, .tl l' o' k' z' e' => Nat.beq (ρ l) l' && Nat.beq (ρ (l + 1)) (l' + 1) && Nat.beq o o' && Nat.beq k k' && Nat.beq z z' && Nat.beq e e'
  | _, _ => false
theorem sameCe_ok {x y : Ce} (h : sameCe ρ x y = true) (β : Nat → Nat) : x.den (fun l => β (ρ l)) = y.den β := by
  unfold sameCe at h
  split at h <;> try (cases h; done)
  · rw [beqV_ok h]; rfl
  · simp only [Bool.and_eq_true, Nat.beq_eq] at h
    obtain ⟨h, rfl⟩ := h
    simp [Ce.den, h]
  · simp only [Bool.and_eq_true, Nat.beq_eq] at h
    obtain ⟨⟨⟨h, rfl⟩, rfl⟩, rfl⟩ := h
    simp [Ce.den, h]
  · simp only [Bool.and_eq_true, Nat.beq_eq] at h
    obtain ⟨⟨rfl, h⟩, rfl⟩ := h
    simp [Ce.den, h]
  · simp only [Bool.and_eq_true, Nat.beq_eq] at h
    obtain ⟨⟨⟨⟨h, h'⟩, rfl⟩, rfl⟩, rfl⟩ := h
    simp [Ce.den, h, h']
  · simp only [Bool.and_eq_true, Nat.beq_eq] at h
    obtain ⟨⟨⟨⟨⟨h, h'⟩, rfl⟩, rfl⟩, rfl⟩, rfl⟩ := h
    simp [Ce.den, h, h']
def sameCes : List Ce → List Ce → Bool
  | [], [] => true
  | x :: r, y :: s => sameCe ρ x y && sameCes r s
  | _, _ => false
theorem sameCes_ok (β : Nat → Nat) : ∀ {xs ys : List Ce}, sameCes ρ xs ys = true → xs.map (Ce.den fun l => β (ρ l)) = ys.map (Ce.den β)
  | [], [], _ => rfl
  | x :: r, y :: s, h => by
    simp only [sameCes, Bool.and_eq_true] at h
    simp only [List.map_cons]
    rw [sameCe_ok ρ h.1 β, sameCes_ok β h.2]
  | [], _ :: _, h => by cases h
  | _ :: _, [], h => by cases h
def sameTs : List (Bool × List Ce) → List (Bool × List Ce) → Bool
  | [], [] => true
  | (b, x) :: r, (c, y) :: s => beqB b c && sameCes ρ x y && sameTs r s
  | _, _ => false
theorem sameTp_ok (β : Nat → Nat) {b : Bool} {x y : List Ce} (h : sameCes ρ x y = true) : tpDen (fun l => β (ρ l)) (b, x) = tpDen β (b, y) := by
  have hm := sameCes_ok ρ β h
  cases b with
  | true => simp only [tpDen, hm]
  | false =>
    rcases x with _ | ⟨x, _ | ⟨x2, xs⟩⟩ <;> rcases y with _ | ⟨y, _ | ⟨y2, ys⟩⟩ <;> first
      | rfl
      | (simp at hm; done)
      | (simp only [List.map_cons, List.map_nil, List.cons.injEq, and_true] at hm; exact hm)
theorem sameTs_ok (β : Nat → Nat) : ∀ {xs ys : List (Bool × List Ce)}, sameTs ρ xs ys = true → xs.map (tpDen fun l => β (ρ l)) = ys.map (tpDen β)
  | [], [], _ => rfl
  | (b, x) :: r, (c, y) :: s, h => by
    simp only [sameTs, Bool.and_eq_true] at h
    obtain rfl := beqB_ok h.1.1
    simp only [List.map_cons]
    rw [sameTp_ok ρ β h.1.2, sameTs_ok β h.2]
  | [], _ :: _, h => by cases h
  | _ :: _, [], h => by cases h
def sameSV : SV → SV → Bool
  | .c x, .c y => sameCe ρ x y
  | .agg x, .agg y => sameCes ρ x y
  | .tup [], .tup [] => true
  | .kb b, .kb c => beqB b c
  | .tps x, .tps y => sameTs ρ x y
  | _, _ => false
theorem sameSV_ok {x y : SV} (h : sameSV ρ x y = true) (β : Nat → Nat) : x.den (fun l => β (ρ l)) = y.den β := by
  unfold sameSV at h
  split at h <;> try (cases h; done)
  · exact sameCe_ok ρ h β
  · simp only [SV.den]; rw [sameCes_ok ρ β h]
  · rfl
  · rw [beqB_ok h]; rfl
  · simp only [SV.den]; rw [sameTs_ok ρ β h]
def sameE : Env → Env → Bool
  | [], _ => true
  | (t, x) :: r, e => match look e t with
    | some y => sameSV ρ x y && sameE r e
    | none => false
theorem sameE_ok (β : Nat → Nat) {e : Env} : ∀ {r : Env}, sameE ρ r e = true → ∀ t x, look r t = some x → ∃ y, look e t = some y ∧ x.den (fun l => β (ρ l)) = y.den β
  | [], _, t, x, h => by cases h
  | (u, v) :: r, h, t, x, hx => by
    simp only [sameE] at h
    split at h <;> try (cases h; done)
    rename_i y hy
    simp only [Bool.and_eq_true] at h
    simp only [look_cons] at hx
    split at hx
    · rename_i e1
      subst e1
      cases hx
      exact ⟨y, hy, sameSV_ok ρ h.1 β⟩
    · exact sameE_ok β h.2 t x hx
def takeM : Mem → Nat → Option ((Nat × List Ce) × Mem)
  | [], _ => none
  | (l, x) :: r, k => match Nat.beq l k with
    | true => some (x, r)
    | false => match takeM r k with
      | some (y, r') => some (y, (l, x) :: r')
      | none => none
theorem takeM_perm {k : Nat} : ∀ {m m' : Mem} {x : Nat × List Ce}, takeM m k = some (x, m') → m.Perm ((k, x) :: m')
  | [], _, _, h => by cases h
  | (l, x) :: r, m', y, h => by
    simp only [takeM] at h
    split at h
    · rename_i e
      cases h
      rw [Nat.beq_eq] at e
      subst e
      exact .refl _
    · split at h <;> cases h
      rename_i y r' hr
      exact ((takeM_perm hr).cons (l, x)).trans (.swap _ _ _)
def sameM : Mem → Mem → Bool
  | [], _ => true
  | (l, t, cs) :: r, m => match takeM m (ρ l) with
    | some ((t', cs'), m') => Nat.beq t t' && sameCes ρ cs cs' && sameM r m'
    | none => false
theorem sameM_ok (β : Nat → Nat) {w : World} {X : List SP} : ∀ {r m : Mem} {Y : List SP}, sameM ρ r m = true → SatW (memSP β m ++ (Y ++ X)) w → SatW (Y ++ (memSP (fun l => β (ρ l)) r ++ X)) w
  | [], m, Y, _, h => by
    have := h.app_right
    simpa [memSP] using this
  | (l, t, cs) :: r, m, Y, h, hs => by
    simp only [sameM] at h
    split at h <;> try (cases h; done)
    rename_i t' cs' m' hm
    simp only [Bool.and_eq_true, Nat.beq_eq] at h
    obtain ⟨⟨rfl, h1⟩, h2⟩ := h
    have e : cellsOf β cs' = cellsOf (fun l => β (ρ l)) cs := by
      unfold cellsOf
      rw [sameCes_ok ρ β h1]
    have hp : (memSP β m).Perm (memSP β ((ρ l, t, cs') :: m')) := (takeM_perm hm).map _
    have h3 : SatW (blk (β (ρ l)) (.cells (cellsOf (fun l => β (ρ l)) cs) t (0, 0)) :: (memSP β m' ++ (Y ++ X))) w := by
      have := hs.perm (hp.append_right (Y ++ X))
      simpa [memSP, e] using this
    have h4 : SatW (memSP β m' ++ ((Y ++ [blk (β (ρ l)) (.cells (cellsOf (fun l => β (ρ l)) cs) t (0, 0))]) ++ X)) w := by
      refine h3.perm ?_
      rw [List.append_assoc]
      simpa using (List.perm_middle (a := blk (β (ρ l)) (.cells (cellsOf (fun l => β (ρ l)) cs) t (0, 0))) (l₁ := memSP β m' ++ Y) (l₂ := X)).symm
    have h5 := sameM_ok β h2 h4
    simpa [memSP] using h5
def takeG : GMem → Nat → Option ((Nat × Nat × Nat × List Ce) × GMem)
  | [], _ => none
  | (l, x) :: r, k => match Nat.beq l k with
    | true => some (x, r)
    | false => match takeG r k with
      | some (y, r') => some (y, (l, x) :: r')
      | none => none
theorem takeG_perm {k : Nat} : ∀ {m m' : GMem} {x : Nat × Nat × Nat × List Ce}, takeG m k = some (x, m') → m.Perm ((k, x) :: m')
  | [], _, _, h => by cases h
  | (l, x) :: r, m', y, h => by
    simp only [takeG] at h
    split at h
    · rename_i e
      cases h
      rw [Nat.beq_eq] at e
      subst e
      exact .refl _
    · split at h <;> cases h
      rename_i y r' hr
      exact ((takeG_perm hr).cons (l, x)).trans (.swap _ _ _)
def sameG : GMem → GMem → Bool
  | [], _ => true
  | (l, e, n, sz, cs) :: r, m => match takeG m (ρ l) with
    | some ((e', n', sz', cs'), m') => Nat.beq (ρ (l + 1)) (ρ l + 1) && Nat.beq e e' && Nat.beq n n' && Nat.beq sz sz' && sameCes ρ cs cs' && sameG r m'
    | none => false
theorem sameG_ok (β : Nat → Nat) {w : World} {X : List SP} : ∀ {r m : GMem} {Y : List SP}, sameG ρ r m = true → SatW (gmSP β m ++ (Y ++ X)) w → SatW (Y ++ (gmSP (fun l => β (ρ l)) r ++ X)) w
  | [], m, Y, _, h => by
    have := h.app_right
    simpa [gmSP] using this
  | (l, e, n, sz, cs) :: r, m, Y, h, hs => by
    simp only [sameG] at h
    split at h <;> try (cases h; done)
    rename_i e' n' sz' cs' m' hm
    simp only [Bool.and_eq_true, Nat.beq_eq] at h
    obtain ⟨⟨⟨⟨⟨h0, rfl⟩, rfl⟩, rfl⟩, h1⟩, h2⟩ := h
    have ee : grSP (fun l => β (ρ l)) (l, e, n, sz, cs) = grSP β (ρ l, e, n, sz, cs') := by
      simp only [grSP, h0]
      rw [sameCes_ok ρ β h1]
    have hp : (gmSP β m).Perm (gmSP β ((ρ l, e, n, sz, cs') :: m')) := (takeG_perm hm).map _
    have h3 : SatW (grSP (fun l => β (ρ l)) (l, e, n, sz, cs) :: (gmSP β m' ++ (Y ++ X))) w := by
      have := hs.perm (hp.append_right (Y ++ X))
      rw [ee]
      simpa [gmSP] using this
    have h4 : SatW (gmSP β m' ++ ((Y ++ [grSP (fun l => β (ρ l)) (l, e, n, sz, cs)]) ++ X)) w := by
      refine h3.perm ?_
      rw [List.append_assoc]
      simpa using (List.perm_middle (a := grSP (fun l => β (ρ l)) (l, e, n, sz, cs)) (l₁ := gmSP β m' ++ Y) (l₂ := X)).symm
    have h5 := sameG_ok β h2 h4
    simpa [gmSP] using h5
end
/-- Which labels an operation bore: the operation, from, to. -/
abbrev Marks := List (Nat × Nat × Nat)
def markAt : Marks → Nat → Nat
  | [], _ => 0
  | (i, a, _) :: r, k => match Nat.beq i k with
    | true => a
    | false => markAt r k
def renM : Marks → Marks → Nat → Nat
  | [], _, l => l
  | (i, a, b) :: r, m2, l => match Nat.ble a l with
    | true => match Nat.blt l b with
      | true => markAt m2 i + (l - a)
      | false => renM r m2 l
    | false => renM r m2 l
/-- A label's other name: those below n keep theirs. -/
def ren (n : Nat) (m1 m2 : Marks) (l : Nat) : Nat :=
  match Nat.blt l n with
  | true => l
  | false => renM m1 m2 l
def sameS (ρ : Nat → Nat) (r q : GS) : Bool := sameE ρ r.env q.env && sameM ρ r.mem q.mem && sameG ρ r.gm q.gm
theorem sameS_ok {g : Cx} {β : Nat → Nat} {r q : GS} {L : Res} {a : Act} {w : World} {n : Nat} {m1 m2 : Marks} (h : sameS (ren n m1 m2) r q = true) (hr : RelG g β q L a w) :
    RelG g (fun l => β (ren n m1 m2 l)) r L a w ∧ agree n β (fun l => β (ren n m1 m2 l)) := by
  simp only [sameS, Bool.and_eq_true] at h
  refine ⟨RelG.mk' hr.defers hr.size (fun t x hx => ?_) hr.os hr.tape hr.output ?_, fun l hl => ?_⟩
  · obtain ⟨y, hy, e⟩ := sameE_ok _ β h.1.1 t x hx
    rw [e]
    exact hr.env t y hy
  · have h1 := hr.sat'
    have h2 := sameM_ok _ β (Y := gmSP β q.gm) h.1.2 h1
    exact sameG_ok _ β (Y := memSP _ r.mem) h.2 h2
  · have : Nat.blt l n = true := by simpa [Nat.blt_eq] using hl
    simp only [ren, this]
end Go.Proofs.Ytngfadijcpnblaa
