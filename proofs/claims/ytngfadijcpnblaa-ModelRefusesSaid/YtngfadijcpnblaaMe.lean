/- The program's model: handles. -/
import Derived.Test.YtngfadijcpnblaaMd
set_option linter.unusedSimpArgs false
set_option linter.unusedVariables false
/- Regions whose order is drawn, with several that act ready at once: a plan is a tree, each order of it is met. -/
namespace Go.Proofs.Ytngfadijcpnblaa
open Go.RowKit

inductive PF where
  | nil
  | pure (i : Nat) (r : PF)
  | held (i : Nat) (r : PF)
  /-- One that acts, the plan behind it, and what else may come first. -/
  | alt (i : Nat) (keep : Bool) (r o : PF)

section
variable {P : Program} {ops : Array Oper} {Q : Exit → Act → World → Prop} {S T : World → Prop} {late : Nat → Bool}
def planRunF (P : Program) (ops : Array Oper) (Q : Exit → Act → World → Prop) (S : World → Prop) : PF → Bool → Act → World → Prop
  | .nil, false, a, w => Q .normal a w
  | .nil, true, _, _ => True
  | .pure i r, _, a, w => ∃ o v, ops[i]? = some o ∧ YieldsIf P ops (fun _ => True) o v a ∧ planRunF P ops Q S r false (a.put o.dst v) w
  | .held i r, _, a, w => ∃ o v, ops[i]? = some o ∧ YieldsIf P ops S o v a ∧ S w ∧ planRunF P ops Q S r false (a.put o.dst v) w
  | .alt i keep r q, _, a, w => (∃ o, ops[i]? = some o ∧
      (Region.wanted o (yielded ops a.tmps) = true ∧ o.wp P a w (fun a' w' => (keep = true → S w → S w') ∧ planRunF P ops Q S r false a' w') Q ∨ Region.wanted o (yielded ops a.tmps) = false ∧ planRunF P ops Q S r false (a.put o.dst undef) w)) ∧ planRunF P ops Q S q true a w
def isLateF : PF → Nat → Bool
  | .nil, _ => false
  | .pure _ r, j => isLateF r j
  | .held _ r, j => isLateF r j
  | .alt i keep r q, j => (match keep with | true => false | false => Nat.beq i j) || isLateF r j || isLateF q j
def idsF : PF → List Nat
  | .alt i _ _ q => i :: idsF q
  | _ => []
def planOkF (ops : Array Oper) (late : Nat → Bool) : PF → Bool → Nat → Array Bool → Bool
  | .nil, false, n, listed => Nat.beq n 0 && (Region.ready .any ops listed).isEmpty
  | .nil, true, _, _ => true
  | .pure i r, false, n + 1, listed => (Region.ready .any ops listed).contains i && Region.free .any ops listed i && planOkF ops late r false n (listed.setIfInBounds i true)
  | .held i r, false, n + 1, listed => (Region.ready .any ops listed).contains i && Region.free .any ops listed i && lateWait ops late i && planOkF ops late r false n (listed.setIfInBounds i true)
  | .alt i keep r q, b, n + 1, listed => (b || Region.ready .any ops listed == idsF (.alt i keep r q)) && (late i == !keep) && planOkF ops late r false n (listed.setIfInBounds i true) && planOkF ops late q true (n + 1) listed
  | _, _, _, _ => false

theorem plan_soundF (hsel : Region.noSelect ops = true) (hQ : ∀ c a w, ¬ Q (.panic c) a w) : ∀ (p : PF),
    (∀ (n : Nat) (listed : Array Bool) (a : Act) (w : World), planOkF ops late p false n listed = true → planRunF P ops Q S p false a w → wpX P ops Q S late n listed a w) ∧
    (∀ (n : Nat) (listed : Array Bool) (a : Act) (w : World), planOkF ops late p true (n + 1) listed = true → planRunF P ops Q S p true a w → ∀ i ∈ idsF p, wpOp P ops Q i (fun a' w' => (late i = false → S w → S w') ∧ wpX P ops Q S late n (listed.setIfInBounds i true) a' w') a w)
  | .nil => ⟨fun n listed a w hp h => by
      simp only [planOkF, Bool.and_eq_true, List.isEmpty_iff, Nat.beq_eq] at hp
      obtain ⟨rfl, hp⟩ := hp
      exact ⟨hp, h⟩, fun n listed a w _ _ i hi => by cases hi⟩
  | .pure i r => ⟨fun n listed a w hp h => by
      cases n with
      | zero => cases hp
      | succ n =>
        simp only [planOkF, Bool.and_eq_true] at hp
        obtain ⟨o, v, ho, hy, hr⟩ := h
        refine wpX_first ho (Region.noSelect_spec hsel) (fun c a w hq => absurd hq (hQ c _ w)) (T := fun _ => True) (fun _ _ _ _ _ _ _ _ => trivial) n listed a w (Region.free_spec ho hp.1.2) (by simpa using hp.1.1) hy trivial ?_
        exact (plan_soundF hsel hQ r).1 n _ _ w hp.2 hr, fun n listed a w _ _ i hi => by cases hi⟩
  | .held i r => ⟨fun n listed a w hp h => by
      cases n with
      | zero => cases hp
      | succ n =>
        simp only [planOkF, Bool.and_eq_true] at hp
        obtain ⟨o, v, ho, hy, hS, hr⟩ := h
        refine wpX_first ho (Region.noSelect_spec hsel) (fun c a w hq => absurd hq (hQ c _ w)) (T := S) (fun j oj hj hno w w' hw hk => ?_) n listed a w (Region.free_spec ho hp.1.1.2) (by simpa using hp.1.1.1) hy hS ?_
        · refine hk ?_ hw
          have hl := hp.1.2
          simp only [lateWait, List.all_eq_true, List.mem_range] at hl
          have h1 := hl j (Array.getElem?_eq_some_iff.1 hj).1
          simp only [hj, Bool.or_eq_true, Bool.not_eq_true'] at h1
          rcases h1 with h1 | h1
          · exact h1
          · obtain ⟨e, he, hb⟩ := Array.any_eq_true'.1 h1
            simp only [Bool.and_eq_true, beq_iff_eq] at hb
            exact absurd hb.2 (hno e he hb.1)
        · exact (plan_soundF hsel hQ r).1 n _ _ w hp.2 hr, fun n listed a w _ _ i hi => by cases hi⟩
  | .alt i keep r q => by
    have key : ∀ (b : Bool) (n : Nat) (listed : Array Bool) (a : Act) (w : World), planOkF ops late (.alt i keep r q) b (n + 1) listed = true → planRunF P ops Q S (.alt i keep r q) b a w →
        ∀ j ∈ idsF (.alt i keep r q), wpOp P ops Q j (fun a' w' => (late j = false → S w → S w') ∧ wpX P ops Q S late n (listed.setIfInBounds j true) a' w') a w := by
      intro b n listed a w hp h j hj
      simp only [planOkF, Bool.and_eq_true, beq_iff_eq] at hp
      simp only [planRunF] at h
      obtain ⟨⟨o, ho, h1⟩, h2⟩ := h
      rcases List.mem_cons.1 hj with rfl | hj
      · unfold wpOp
        simp only [ho]
        rcases h1 with ⟨hw, h1⟩ | ⟨hw, h1⟩
        · rw [if_pos hw]
          left
          refine Oper.wp_mono (fun a' w' h3 => ⟨fun hl hS => h3.1 (by rw [hp.1.1.2] at hl; simpa using hl) hS, (plan_soundF hsel hQ r).1 n _ a' w' hp.1.2 h3.2⟩) h1
        · rw [if_neg (by rw [hw]; simp)]
          exact ⟨fun _ h => h, (plan_soundF hsel hQ r).1 n _ _ w hp.1.2 h1⟩
      · exact (plan_soundF hsel hQ q).2 n listed a w hp.2 h2 j hj
    refine ⟨fun n listed a w hp h => ?_, fun n listed a w hp h => key true n listed a w hp h⟩
    cases n with
    | zero => simp [planOkF] at hp
    | succ n =>
      have hk := key false n listed a w hp h
      simp only [planOkF, Bool.and_eq_true, beq_iff_eq, Bool.false_or] at hp
      rw [← hp.1.1.1] at hk
      exact ⟨fun h0 => (by rw [hp.1.1.1] at h0; cases h0), hk⟩
/-- A row of steps ahead of a tree. -/
def PF.pre : List PI → PF → PF
  | [], p => p
  | .pure i :: r, p => .pure i (PF.pre r p)
  | .held i :: r, p => .held i (PF.pre r p)
  | .ex i keep :: r, p => .alt i keep (PF.pre r p) .nil
theorem not_letsN {N : Act → World → Prop} : ¬ LetsOut (endN N) := fun h => by
  obtain ⟨_, _, h⟩ := h
  exact h
theorem wp_endN {N K : Act → World → Prop} {o : Oper} {a : Act} {w : World} (h : o.wp P a w K (endN N)) : o.wp P a w K Q := by
  unfold Oper.wp at *
  generalize (execOp a.eval o).run P w = r at *
  cases r with
  | ok n w' =>
    cases n <;> simp only [Oper.upon] at h ⊢ <;>
      first
        | exact h
        | exact Calls.mono h (fun e w'' he => by cases e <;> first | exact he | exact he.elim | exact absurd he not_letsN)
  | halt x w' => cases x <;> simp only [Oper.upon] at h ⊢ <;> first | exact h | exact h.elim
theorem runF_pre {N : Act → World → Prop} {p : PF} (hN : ∀ a w, N a w → planRunF P ops Q S p false a w) : ∀ (seg : List PI) (a : Act) (w : World), planRun P ops (endN N) S seg a w → planRunF P ops Q S (PF.pre seg p) false a w
  | [], a, w, h => hN a w h
  | .pure i :: r, a, w, ⟨o, v, ho, hy, h⟩ => ⟨o, v, ho, hy, runF_pre hN r _ w h⟩
  | .held i :: r, a, w, ⟨o, v, ho, hy, hs, h⟩ => ⟨o, v, ho, hy, hs, runF_pre hN r _ w h⟩
  | .ex i keep :: r, a, w, ⟨o, ho, h⟩ => by
    refine ⟨⟨o, ho, ?_⟩, trivial⟩
    rcases h with ⟨hw, h⟩ | ⟨hw, h⟩
    · refine .inl ⟨hw, ?_⟩
      have h2 := Oper.wp_mono (fun a' w' h3 => (⟨h3.1, runF_pre hN r a' w' h3.2⟩ : (keep = true → S w → S w') ∧ planRunF P ops Q S (PF.pre r p) false a' w')) h
      exact wp_endN h2
    · exact .inr ⟨hw, runF_pre hN r _ w h⟩
end

/-- What is to be met of a tree, upon a state. -/
def endF (g : Cx) (ops : Array Oper) (H : Held) (b : Bool) (p : PF) (k : List Item) : Act → World → Prop := fun a w => planRunF g.P ops (Qn g k) (heldW H) p b a w
section
variable {g : Cx} {β : Nat → Nat} {env : Env} {mem : Mem} {bnd : Bnd} {L : Res} {ops : Array Oper} {H : Held} {k : List Item} {b : Bool}
/-- The beginning of such a region. -/
theorem Nx.drawnF {i : Nat} (ns : List Nat) (seg : List PI) (p : PF) {Ps Qs : List SP} {L' : Res} (hm : g.P.follows .mixedOrders = true) (hsel : Region.noSelect ops = true) (hok : planOkF ops (isLateF (PF.pre seg p)) (PF.pre seg p) false ops.size (Array.replicate ops.size false) = true)
    (hP : pinS bnd mem = some Ps) (hB : subB bnd bnd) (hp : pick ns L = some (Qs, L'))
    (h : Nx g env mem bnd L (planHead g ops ⟨mem, bnd, Qs⟩ true seg (endF g ops ⟨mem, bnd, Qs⟩ false p k))) : Nx g env mem bnd L (RunC g (.code (.region i ops true) :: k)) := by
  intro β a w hr
  have hr' : Rel g β env mem bnd L a { w with drawn := w.drawn + 1 } := hr.world rfl rfl rfl rfl
  refine Ret.code (wp_region_any hm (wpX_any _ _ _ _ (S := heldW ⟨mem, bnd, Qs⟩) (late := isLateF (PF.pre seg p)) ?_))
  refine (plan_soundF hsel (fun c a w h => h) (PF.pre seg p)).1 _ _ _ _ hok ?_
  exact runF_pre (fun a w h => h) seg a _ (h β a _ hr' (hr'.heldN (H := ⟨mem, bnd, Qs⟩) hP hB (subM.refl _) hp))
/-- Each that may come first. -/
theorem Nx.forkF {i : Nat} {keep : Bool} {seg : List PI} {r q : PF} (h1 : Nx g env mem bnd L (planHead g ops H false (.ex i keep :: seg) (endF g ops H false r k))) (h2 : Nx g env mem bnd L (endF g ops H true q k)) : Nx g env mem bnd L (endF g ops H b (.alt i keep (PF.pre seg r) q) k) := by
  intro β a w hr
  have h3 := runF_pre (Q := Qn g k) (p := r) (fun a w h => h) _ a w (h1 β a w hr)
  exact ⟨h3.1, h2 β a w hr⟩
theorem Nx.forkN : Nx g env mem bnd L (endF g ops H true .nil k) := fun _ _ _ _ => trivial
theorem Nx.forkE (h : Nx g env mem bnd L (RunC g k)) : Nx g env mem bnd L (endF g ops H false .nil k) := fun β a w hr => h β a w hr
theorem atFork {p : PF} (h : Nx g env mem bnd L (endF g ops H b p k)) : Nx g env mem bnd L (endF g ops H b p k) := h
end
end Go.Proofs.Ytngfadijcpnblaa

/- The program's model: leaves, returns, stops. -/
namespace Go.Proofs.Ytngfadijcpnblaa
open Go.RowKit
set_option maxRecDepth 20000
set_option maxHeartbeats 4000000
def Nt.v (n : Nt) : Value := .agg #[.int .i64 n.who, .int .i64 n.ring, .int .i64 n.deed, .int .i64 n.lo, .int .i64 n.seq, .int .i64 n.x.key, .int .i64 n.x.val, .int .i64 n.code]
theorem RdH.set_sp {x y : RdH} {p : Nat} {v : Value} (hp : p < 9) (hb : y.b = x.b) (hc : y.cells = x.cells.set p v) (ha : y.r.ahead = x.r.ahead) (hA : y.aA = x.aA) : SetAt x.sp x.b p v y.sp := by
  have h := star_set (L := [blk x.b (.cells x.cells.toArray 93 (0, 0)), rdS x.aA x.r.ahead.length 1 (x.r.ahead.flatMap inC)]) (k := 0) rfl (blk_set (b := x.b) (t := 93) (ys := x.cells) (y := v) (p := p) hp)
  have e : y.sp = star ([blk x.b (.cells x.cells.toArray 93 (0, 0)), rdS x.aA x.r.ahead.length 1 (x.r.ahead.flatMap inC)].set 0 (blk x.b (.cells (x.cells.set p v).toArray 93 (0, 0)))) := by
    unfold RdH.sp
    rw [hb, hc, ha, hA]; rfl
  rw [e]; exact h
theorem WrH.set_sp {x y : WrH} {p : Nat} {v : Value} (hp : p < 6) (hb : y.b = x.b) (hc : y.cells = x.cells.set p v) (ha : y.calls = x.calls) (hA : y.cA = x.cA) (hcc : y.cc = x.cc) : SetAt x.sp x.b p v y.sp := by
  have h := star_set (L := [blk x.b (.cells x.cells.toArray 104 (0, 0)), ownT 36 x.cA x.calls.length x.cc 1 (x.calls.flatMap CallH.enc), star (x.calls.map CallH.sp)]) (k := 0) rfl (blk_set (b := x.b) (t := 104) (ys := x.cells) (y := v) (p := p) hp)
  have e : y.sp = star ([blk x.b (.cells x.cells.toArray 104 (0, 0)), ownT 36 x.cA x.calls.length x.cc 1 (x.calls.flatMap CallH.enc), star (x.calls.map CallH.sp)].set 0 (blk x.b (.cells (x.cells.set p v).toArray 104 (0, 0)))) := by
    unfold WrH.sp
    rw [hb, hc, ha, hA, hcc]; rfl
  rw [e]; exact h
section
variable {M : MdH}
theorem MdH.setR_p {k : Nat} {x y : RdH} {f : RdP → RdP} (hk : M.readers[k]? = some x) (h : y.r = f x.r) : (M.setR k y).p = M.p.setR k f := by
  have := map_set_modify (f := RdH.r) (u := f) hk h
  simp only [MdH.setR, MdH.p, MdP.setR, this]
theorem MdH.setW_p {k : Nat} {x y : WrH} {f : WrP → WrP} (hk : M.writers[k]? = some x) (h : y.p = f x.p) : (M.setW k y).p = M.p.setW k f := by
  have := map_set_modify (f := WrH.p) (u := f) hk h
  simp only [MdH.setW, MdH.p, MdP.setW, this]
theorem MdH.setR_sp {k : Nat} {x y : RdH} {p : Nat} {v : Value} (hk : M.readers[k]? = some x) (hp : p < 9) (hb : y.b = x.b) (hc : y.cells = x.cells.set p v) (ha : y.r.ahead = x.r.ahead) (hA : y.aA = x.aA) : SetAt M.sp x.b p v (M.setR k y).sp :=
  setR_set hk hb (RdH.set_sp hp hb hc ha hA)
theorem MdH.setW_sp {k : Nat} {x y : WrH} {p : Nat} {v : Value} (hk : M.writers[k]? = some x) (hp : p < 6) (hb : y.b = x.b) (hc : y.cells = x.cells.set p v) (ha : y.calls = x.calls) (hA : y.cA = x.cA) (hcc : y.cc = x.cc) : SetAt M.sp x.b p v (M.setW k y).sp :=
  setW_set hk hb (WrH.set_sp hp hb hc ha hA hcc)
end
attribute [local irreducible] Nx Ar BrM
theorem leaves_ok (M : MdH) {k : Nat} {x : RdH} (hx : M.readers[k]? = some x) (n : Nt) : FnOk Try.prog 48 [ptr M.b, ptr x.b, n.v] [M.sp] (MdQ M.b (M.p.leaves k x.r n)) := by
  have hr := MdH.rat (M := M) (List.mem_of_getElem? hx)
  have r7 := hr.sub 7 rfl
  have r3 := hr.sub 3 rfl
  unfold MdP.leaves
  unfold Nt.v
  cases h1 : x.r.held with
  | false =>
    rw [if_pos (.inl rfl)]
    refine FnOk.start Try.func48 rfl rfl rfl rfl fun F os tape output => ?_
    refine go 200 ?_
    conv => whnf
    refine Nx.bind (l := 5) (fun _ => ?_) rfl
    repeat' (first
      | ((with_reducible refine atBr ?_); refine BrM.t ((by rw [h1]; rfl)) ?_; conv => whnf)
      | ((with_reducible refine atBr ?_); (first | refine BrM.t rfl ?_ | refine BrM.f rfl ?_ | refine BrM.dec (fun _ => ?_) (fun _ => ?_) | refine BrM.mk (fun _ => ?_) (fun _ => ?_)) <;> conv => whnf)
      | ((with_reducible refine atAr ?_); refine Ar.i64 (by omega) (by omega) ?_; conv => whnf)
      | ((with_reducible refine (atDrawnN 1) ?_); refine Nx.drawn0 [0] [.pure 0, .pure 1, .pure 2, .held 3, .pure 4, .pure 5, .pure 6, .held 7, .pure 8, .pure 9, .pure 10, .held 11, .pure 12, .pure 13] rfl (by kernel_rfl) rfl (by kernel_rfl) rfl (by repeat (first | exact subB.nil _ | refine subB.cons rfl ?_)) rfl ?_)
      | ((with_reducible refine atHoLoad ?_); first | (refine Nx.hoLoad1 rfl rfl rfl rfl List.mem_cons_self (SeesAt.sub (by assumption) _ rfl) rfl ?_) | (refine Nx.hoLoad1 rfl rfl rfl rfl List.mem_cons_self (by assumption) rfl ?_) | (refine Nx.hoLoad rfl rfl rfl rfl List.mem_cons_self (by assumption) rfl rfl ?_) | (refine Nx.hoLoad1 rfl rfl rfl rfl (List.mem_cons_of_mem _ List.mem_cons_self) (SeesAt.sub (by assumption) _ rfl) rfl ?_) | (refine Nx.hoLoad1 rfl rfl rfl rfl (List.mem_cons_of_mem _ List.mem_cons_self) (by assumption) rfl ?_) | (refine Nx.hoLoad rfl rfl rfl rfl (List.mem_cons_of_mem _ List.mem_cons_self) (by assumption) rfl rfl ?_) | (refine Nx.hoLoad1 rfl rfl rfl rfl (List.mem_cons_of_mem _ (List.mem_cons_of_mem _ List.mem_cons_self)) (SeesAt.sub (by assumption) _ rfl) rfl ?_) | (refine Nx.hoLoad1 rfl rfl rfl rfl (List.mem_cons_of_mem _ (List.mem_cons_of_mem _ List.mem_cons_self)) (by assumption) rfl ?_) | (refine Nx.hoLoad rfl rfl rfl rfl (List.mem_cons_of_mem _ (List.mem_cons_of_mem _ List.mem_cons_self)) (by assumption) rfl rfl ?_) | (refine Nx.hoLoad1 rfl rfl rfl rfl (List.mem_cons_of_mem _ (List.mem_cons_of_mem _ (List.mem_cons_of_mem _ List.mem_cons_self))) (SeesAt.sub (by assumption) _ rfl) rfl ?_) | (refine Nx.hoLoad1 rfl rfl rfl rfl (List.mem_cons_of_mem _ (List.mem_cons_of_mem _ (List.mem_cons_of_mem _ List.mem_cons_self))) (by assumption) rfl ?_) | (refine Nx.hoLoad rfl rfl rfl rfl (List.mem_cons_of_mem _ (List.mem_cons_of_mem _ (List.mem_cons_of_mem _ List.mem_cons_self))) (by assumption) rfl rfl ?_))
      | ((with_reducible refine (atCall 37) ?_); refine Nx.call [] [9] rfl rfl rfl rfl rfl ((wrong_ok _ _ 1)) rfl fun v Q hQ => ?_; obtain ⟨b,rfl,rfl⟩ := hQ)
      | ((with_reducible refine atRet ?_); refine Nx.ret [0,9] Try.func48 rfl rfl ?_; (exact MdQ.yes rfl (by decide)))
      | ((with_reducible refine atOps ?_); refine go 200 ?_; conv => whnf)
      | ((with_reducible refine atPlan ?_); refine Nx.runP (n := 200) rfl (by repeat (first | exact subB.nil _ | refine subB.cons rfl ?_)) ?_; conv => whnf)
      | ((with_reducible refine atAftL ?_); refine Nx.late ?_)
      | ((fail_if_success (with_reducible refine atRet ?_)); (fail_if_success (with_reducible refine atLoop ?_)); (fail_if_success (with_reducible refine atIn ?_)); (fail_if_success (with_reducible refine atDrawn ?_)); (fail_if_success (with_reducible refine atEnd ?_)); (with_reducible refine atRun ?_); refine go 200 ?_; conv => whnf))
  | true =>
  by_cases h2 : n.seq = x.r.cursor
  · rw [if_neg (by simp [h2])]
    refine FnOk.start Try.func48 rfl rfl rfl rfl fun F os tape output => ?_
    refine go 200 ?_
    conv => whnf
    refine Nx.bind (l := 5) (fun _ => ?_) rfl
    repeat' (first
      | ((with_reducible refine atBr ?_); refine BrM.f ((by rw [h1]; rfl)) ?_; conv => whnf)
      | ((with_reducible refine atBr ?_); refine BrM.not (by omega) ?_; conv => whnf)
      | ((with_reducible refine atBr ?_); (first | refine BrM.t rfl ?_ | refine BrM.f rfl ?_ | refine BrM.dec (fun _ => ?_) (fun _ => ?_) | refine BrM.mk (fun _ => ?_) (fun _ => ?_)) <;> conv => whnf)
      | ((with_reducible refine atAr ?_); refine Ar.i64 (by omega) (by omega) ?_; conv => whnf)
      | ((with_reducible refine (atDrawnN 1) ?_); refine Nx.drawn0 [0] [.pure 0, .pure 1, .pure 2, .held 3, .pure 4, .pure 5, .pure 6, .held 7, .pure 8, .pure 9, .pure 10, .held 11, .pure 12, .pure 13] rfl (by kernel_rfl) rfl (by kernel_rfl) rfl (by repeat (first | exact subB.nil _ | refine subB.cons rfl ?_)) rfl ?_)
      | ((with_reducible refine atHoLoad ?_); first | (refine Nx.hoLoad1 rfl rfl rfl rfl List.mem_cons_self (SeesAt.sub (by assumption) _ rfl) rfl ?_) | (refine Nx.hoLoad1 rfl rfl rfl rfl List.mem_cons_self (by assumption) rfl ?_) | (refine Nx.hoLoad rfl rfl rfl rfl List.mem_cons_self (by assumption) rfl rfl ?_) | (refine Nx.hoLoad1 rfl rfl rfl rfl (List.mem_cons_of_mem _ List.mem_cons_self) (SeesAt.sub (by assumption) _ rfl) rfl ?_) | (refine Nx.hoLoad1 rfl rfl rfl rfl (List.mem_cons_of_mem _ List.mem_cons_self) (by assumption) rfl ?_) | (refine Nx.hoLoad rfl rfl rfl rfl (List.mem_cons_of_mem _ List.mem_cons_self) (by assumption) rfl rfl ?_) | (refine Nx.hoLoad1 rfl rfl rfl rfl (List.mem_cons_of_mem _ (List.mem_cons_of_mem _ List.mem_cons_self)) (SeesAt.sub (by assumption) _ rfl) rfl ?_) | (refine Nx.hoLoad1 rfl rfl rfl rfl (List.mem_cons_of_mem _ (List.mem_cons_of_mem _ List.mem_cons_self)) (by assumption) rfl ?_) | (refine Nx.hoLoad rfl rfl rfl rfl (List.mem_cons_of_mem _ (List.mem_cons_of_mem _ List.mem_cons_self)) (by assumption) rfl rfl ?_) | (refine Nx.hoLoad1 rfl rfl rfl rfl (List.mem_cons_of_mem _ (List.mem_cons_of_mem _ (List.mem_cons_of_mem _ List.mem_cons_self))) (SeesAt.sub (by assumption) _ rfl) rfl ?_) | (refine Nx.hoLoad1 rfl rfl rfl rfl (List.mem_cons_of_mem _ (List.mem_cons_of_mem _ (List.mem_cons_of_mem _ List.mem_cons_self))) (by assumption) rfl ?_) | (refine Nx.hoLoad rfl rfl rfl rfl (List.mem_cons_of_mem _ (List.mem_cons_of_mem _ (List.mem_cons_of_mem _ List.mem_cons_self))) (by assumption) rfl rfl ?_))
      | ((with_reducible refine atOps ?_); refine go 200 ?_; conv => whnf)
      | ((with_reducible refine atPlan ?_); refine Nx.runP (n := 200) rfl (by repeat (first | exact subB.nil _ | refine subB.cons rfl ?_)) ?_; conv => whnf)
      | ((with_reducible refine atAftL ?_); refine Nx.late ?_)
      | ((fail_if_success (with_reducible refine atRet ?_)); (fail_if_success (with_reducible refine atLoop ?_)); (fail_if_success (with_reducible refine atIn ?_)); (fail_if_success (with_reducible refine atDrawn ?_)); (fail_if_success (with_reducible refine atEnd ?_)); (with_reducible refine atRun ?_); refine go 200 ?_; conv => whnf))
    obtain ⟨y, hy⟩ : ∃ y : RdH, y = { x with r := { x.r with held := false } } := ⟨_, rfl⟩
    refine Nx.storeW 0 (M.setR k y).sp rfl rfl rfl rfl rfl rfl rfl rfl rfl (MdH.setR_sp hx (by decide) (by rw [hy]) (by rw [hy]; rfl) (by rw [hy]) (by rw [hy])) ?_
    have ep : (M.setR k y).p = M.p.setR k fun r => { r with held := false } := MdH.setR_p hx (by rw [hy])
    repeat' (first
      | ((with_reducible refine atBr ?_); (first | refine BrM.t rfl ?_ | refine BrM.f rfl ?_ | refine BrM.dec (fun _ => ?_) (fun _ => ?_) | refine BrM.mk (fun _ => ?_) (fun _ => ?_)) <;> conv => whnf)
      | ((with_reducible refine atAr ?_); refine Ar.i64 (by omega) (by omega) ?_; conv => whnf)
      | ((with_reducible refine atRet ?_); refine Nx.ret [0] Try.func48 rfl rfl ?_; (exact MdQ.no (M := M.setR k y) rfl ep))
      | ((with_reducible refine atOps ?_); refine go 200 ?_; conv => whnf)
      | ((with_reducible refine atPlan ?_); refine Nx.runP (n := 200) rfl (by repeat (first | exact subB.nil _ | refine subB.cons rfl ?_)) ?_; conv => whnf)
      | ((with_reducible refine atAftL ?_); refine Nx.late ?_)
      | ((fail_if_success (with_reducible refine atRet ?_)); (fail_if_success (with_reducible refine atLoop ?_)); (fail_if_success (with_reducible refine atIn ?_)); (fail_if_success (with_reducible refine atDrawn ?_)); (fail_if_success (with_reducible refine atEnd ?_)); (with_reducible refine atRun ?_); refine go 200 ?_; conv => whnf))
  · rw [if_pos (.inr h2)]
    refine FnOk.start Try.func48 rfl rfl rfl rfl fun F os tape output => ?_
    refine go 200 ?_
    conv => whnf
    refine Nx.bind (l := 5) (fun _ => ?_) rfl
    repeat' (first
      | ((with_reducible refine atBr ?_); refine BrM.f ((by rw [h1]; rfl)) ?_; conv => whnf)
      | ((with_reducible refine atBr ?_); refine BrM.yes (by omega) ?_; conv => whnf)
      | ((with_reducible refine atBr ?_); (first | refine BrM.t rfl ?_ | refine BrM.f rfl ?_ | refine BrM.dec (fun _ => ?_) (fun _ => ?_) | refine BrM.mk (fun _ => ?_) (fun _ => ?_)) <;> conv => whnf)
      | ((with_reducible refine atAr ?_); refine Ar.i64 (by omega) (by omega) ?_; conv => whnf)
      | ((with_reducible refine (atDrawnN 1) ?_); refine Nx.drawn0 [0] [.pure 0, .pure 1, .pure 2, .held 3, .pure 4, .pure 5, .pure 6, .held 7, .pure 8, .pure 9, .pure 10, .held 11, .pure 12, .pure 13] rfl (by kernel_rfl) rfl (by kernel_rfl) rfl (by repeat (first | exact subB.nil _ | refine subB.cons rfl ?_)) rfl ?_)
      | ((with_reducible refine atHoLoad ?_); first | (refine Nx.hoLoad1 rfl rfl rfl rfl List.mem_cons_self (SeesAt.sub (by assumption) _ rfl) rfl ?_) | (refine Nx.hoLoad1 rfl rfl rfl rfl List.mem_cons_self (by assumption) rfl ?_) | (refine Nx.hoLoad rfl rfl rfl rfl List.mem_cons_self (by assumption) rfl rfl ?_) | (refine Nx.hoLoad1 rfl rfl rfl rfl (List.mem_cons_of_mem _ List.mem_cons_self) (SeesAt.sub (by assumption) _ rfl) rfl ?_) | (refine Nx.hoLoad1 rfl rfl rfl rfl (List.mem_cons_of_mem _ List.mem_cons_self) (by assumption) rfl ?_) | (refine Nx.hoLoad rfl rfl rfl rfl (List.mem_cons_of_mem _ List.mem_cons_self) (by assumption) rfl rfl ?_) | (refine Nx.hoLoad1 rfl rfl rfl rfl (List.mem_cons_of_mem _ (List.mem_cons_of_mem _ List.mem_cons_self)) (SeesAt.sub (by assumption) _ rfl) rfl ?_) | (refine Nx.hoLoad1 rfl rfl rfl rfl (List.mem_cons_of_mem _ (List.mem_cons_of_mem _ List.mem_cons_self)) (by assumption) rfl ?_) | (refine Nx.hoLoad rfl rfl rfl rfl (List.mem_cons_of_mem _ (List.mem_cons_of_mem _ List.mem_cons_self)) (by assumption) rfl rfl ?_) | (refine Nx.hoLoad1 rfl rfl rfl rfl (List.mem_cons_of_mem _ (List.mem_cons_of_mem _ (List.mem_cons_of_mem _ List.mem_cons_self))) (SeesAt.sub (by assumption) _ rfl) rfl ?_) | (refine Nx.hoLoad1 rfl rfl rfl rfl (List.mem_cons_of_mem _ (List.mem_cons_of_mem _ (List.mem_cons_of_mem _ List.mem_cons_self))) (by assumption) rfl ?_) | (refine Nx.hoLoad rfl rfl rfl rfl (List.mem_cons_of_mem _ (List.mem_cons_of_mem _ (List.mem_cons_of_mem _ List.mem_cons_self))) (by assumption) rfl rfl ?_))
      | ((with_reducible refine (atCall 37) ?_); refine Nx.call [] [9] rfl rfl rfl rfl rfl ((wrong_ok _ _ 1)) rfl fun v Q hQ => ?_; obtain ⟨b,rfl,rfl⟩ := hQ)
      | ((with_reducible refine atRet ?_); refine Nx.ret [0,9] Try.func48 rfl rfl ?_; (exact MdQ.yes rfl (by decide)))
      | ((with_reducible refine atOps ?_); refine go 200 ?_; conv => whnf)
      | ((with_reducible refine atPlan ?_); refine Nx.runP (n := 200) rfl (by repeat (first | exact subB.nil _ | refine subB.cons rfl ?_)) ?_; conv => whnf)
      | ((with_reducible refine atAftL ?_); refine Nx.late ?_)
      | ((fail_if_success (with_reducible refine atRet ?_)); (fail_if_success (with_reducible refine atLoop ?_)); (fail_if_success (with_reducible refine atIn ?_)); (fail_if_success (with_reducible refine atDrawn ?_)); (fail_if_success (with_reducible refine atEnd ?_)); (with_reducible refine atRun ?_); refine go 200 ?_; conv => whnf))
theorem returns_ok (M : MdH) (hm : MdW M.p) {k : Nat} {x : RdH} (hx : M.readers[k]? = some x) (n : Nt) : FnOk Try.prog 47 [ptr M.b, ptr x.b, n.v] [M.sp] (MdQ M.b (M.p.returns k x.r n)) := by
  have hr := MdH.rat (M := M) (List.mem_of_getElem? hx)
  have hb := hm.rb x.r (List.mem_map_of_mem (List.mem_of_getElem? hx))
  have r2 := hr.sub 2 rfl
  have r3 := hr.sub 3 rfl
  have r4 := hr.sub 4 rfl
  have r5 := hr.sub 5 rfl
  unfold MdP.returns
  unfold Nt.v
  by_cases h1 : 0 ≤ x.r.pool
  · rw [if_pos h1]
    refine FnOk.start Try.func47 rfl rfl rfl rfl fun F os tape output => ?_
    refine go 200 ?_
    conv => whnf
    refine Nx.bind (l := 5) (fun _ => ?_) rfl
    repeat' (first
      | ((with_reducible refine atBr ?_); refine BrM.yes (by omega) ?_; conv => whnf)
      | ((with_reducible refine atBr ?_); (first | refine BrM.t rfl ?_ | refine BrM.f rfl ?_ | refine BrM.dec (fun _ => ?_) (fun _ => ?_) | refine BrM.mk (fun _ => ?_) (fun _ => ?_)) <;> conv => whnf)
      | ((with_reducible refine atAr ?_); refine Ar.i64 (by omega) (by omega) ?_; conv => whnf)
      | ((with_reducible refine atLoad ?_); refine Nx.load1 0 rfl rfl rfl rfl (r5) rfl ?_)
      | ((with_reducible refine (atCall 37) ?_); refine Nx.call [] [9] rfl rfl rfl rfl rfl ((wrong_ok _ _ 1)) rfl fun v Q hQ => ?_; obtain ⟨b,rfl,rfl⟩ := hQ)
      | ((with_reducible refine atRet ?_); refine Nx.ret [0,9] Try.func47 rfl rfl ?_; (exact MdQ.yes rfl (by decide)))
      | ((with_reducible refine atOps ?_); refine go 200 ?_; conv => whnf)
      | ((with_reducible refine atPlan ?_); refine Nx.runP (n := 200) rfl (by repeat (first | exact subB.nil _ | refine subB.cons rfl ?_)) ?_; conv => whnf)
      | ((with_reducible refine atAftL ?_); refine Nx.late ?_)
      | ((fail_if_success (with_reducible refine atRet ?_)); (fail_if_success (with_reducible refine atLoop ?_)); (fail_if_success (with_reducible refine atIn ?_)); (fail_if_success (with_reducible refine atDrawn ?_)); (fail_if_success (with_reducible refine atEnd ?_)); (with_reducible refine atRun ?_); refine go 200 ?_; conv => whnf))
  rw [if_neg h1]
  by_cases h2 : n.code = 0
  · rw [if_neg (by omega)]
    by_cases h3 : n.lo ≠ x.r.began ∨ n.seq ≠ x.r.next - 1 ∨ n.seq < n.lo ∨ x.r.cursor ≠ n.seq
    · rw [if_pos ⟨h2, h3⟩]
      by_cases h4 : n.lo = x.r.began
      · by_cases h5 : n.seq = x.r.next - 1
        · by_cases h6 : n.seq < n.lo
          · refine FnOk.start Try.func47 rfl rfl rfl rfl fun F os tape output => ?_
            refine go 200 ?_
            conv => whnf
            refine Nx.bind (l := 5) (fun _ => ?_) rfl
            repeat' (first
              | ((with_reducible refine atBr ?_); refine BrM.yes (by omega) ?_; conv => whnf)
              | ((with_reducible refine atBr ?_); refine BrM.not (by omega) ?_; conv => whnf)
              | ((with_reducible refine atBr ?_); (first | refine BrM.t rfl ?_ | refine BrM.f rfl ?_ | refine BrM.dec (fun _ => ?_) (fun _ => ?_) | refine BrM.mk (fun _ => ?_) (fun _ => ?_)) <;> conv => whnf)
              | ((with_reducible refine atAr ?_); refine Ar.i64 (by omega) (by omega) ?_; conv => whnf)
              | ((with_reducible refine atLoad ?_); refine Nx.load1 0 rfl rfl rfl rfl (r5) rfl ?_)
              | ((with_reducible refine (atDrawnN 3) ?_); refine Nx.drawn0 [0] [.pure 0, .held 1, .pure 2, .pure 3, .pure 4, .pure 5, .pure 6, .held 7, .pure 8, .pure 9, .pure 10, .held 11, .pure 12, .pure 13, .pure 14] rfl (by kernel_rfl) rfl (by kernel_rfl) rfl (by repeat (first | exact subB.nil _ | refine subB.cons rfl ?_)) rfl ?_)
              | ((with_reducible refine (atDrawnN 5) ?_); refine Nx.drawn0 [0] [.pure 0, .held 1, .pure 2, .pure 3, .pure 4, .held 5, .pure 6, .pure 7, .pure 8, .held 9, .pure 10, .pure 11, .pure 12, .held 13, .pure 14, .pure 15, .pure 16, .held 17, .pure 18, .pure 19, .pure 20, .pure 21, .pure 22, .held 23, .pure 24, .held 25, .pure 26, .pure 27, .pure 28, .pure 29, .pure 30, .pure 31, .held 32, .pure 33, .held 34, .pure 35, .pure 36, .pure 37, .pure 38] rfl (by kernel_rfl) rfl (by kernel_rfl) rfl (by repeat (first | exact subB.nil _ | refine subB.cons rfl ?_)) rfl ?_)
              | ((with_reducible refine atHoLoad ?_); first | (refine Nx.hoLoad1 rfl rfl rfl rfl List.mem_cons_self (SeesAt.sub (by assumption) _ rfl) rfl ?_) | (refine Nx.hoLoad1 rfl rfl rfl rfl List.mem_cons_self (by assumption) rfl ?_) | (refine Nx.hoLoad rfl rfl rfl rfl List.mem_cons_self (by assumption) rfl rfl ?_) | (refine Nx.hoLoad1 rfl rfl rfl rfl (List.mem_cons_of_mem _ List.mem_cons_self) (SeesAt.sub (by assumption) _ rfl) rfl ?_) | (refine Nx.hoLoad1 rfl rfl rfl rfl (List.mem_cons_of_mem _ List.mem_cons_self) (by assumption) rfl ?_) | (refine Nx.hoLoad rfl rfl rfl rfl (List.mem_cons_of_mem _ List.mem_cons_self) (by assumption) rfl rfl ?_) | (refine Nx.hoLoad1 rfl rfl rfl rfl (List.mem_cons_of_mem _ (List.mem_cons_of_mem _ List.mem_cons_self)) (SeesAt.sub (by assumption) _ rfl) rfl ?_) | (refine Nx.hoLoad1 rfl rfl rfl rfl (List.mem_cons_of_mem _ (List.mem_cons_of_mem _ List.mem_cons_self)) (by assumption) rfl ?_) | (refine Nx.hoLoad rfl rfl rfl rfl (List.mem_cons_of_mem _ (List.mem_cons_of_mem _ List.mem_cons_self)) (by assumption) rfl rfl ?_) | (refine Nx.hoLoad1 rfl rfl rfl rfl (List.mem_cons_of_mem _ (List.mem_cons_of_mem _ (List.mem_cons_of_mem _ List.mem_cons_self))) (SeesAt.sub (by assumption) _ rfl) rfl ?_) | (refine Nx.hoLoad1 rfl rfl rfl rfl (List.mem_cons_of_mem _ (List.mem_cons_of_mem _ (List.mem_cons_of_mem _ List.mem_cons_self))) (by assumption) rfl ?_) | (refine Nx.hoLoad rfl rfl rfl rfl (List.mem_cons_of_mem _ (List.mem_cons_of_mem _ (List.mem_cons_of_mem _ List.mem_cons_self))) (by assumption) rfl rfl ?_))
              | ((with_reducible refine (atCall 37) ?_); refine Nx.call [] [9] rfl rfl rfl rfl rfl ((wrong_ok _ _ 1)) rfl fun v Q hQ => ?_; obtain ⟨b,rfl,rfl⟩ := hQ)
              | ((with_reducible refine atRet ?_); refine Nx.ret [0,9] Try.func47 rfl rfl ?_; (exact MdQ.yes rfl (by decide)))
              | ((with_reducible refine atOps ?_); refine go 200 ?_; conv => whnf)
              | ((with_reducible refine atPlan ?_); refine Nx.runP (n := 200) rfl (by repeat (first | exact subB.nil _ | refine subB.cons rfl ?_)) ?_; conv => whnf)
              | ((with_reducible refine atAftL ?_); refine Nx.late ?_)
              | ((fail_if_success (with_reducible refine atRet ?_)); (fail_if_success (with_reducible refine atLoop ?_)); (fail_if_success (with_reducible refine atIn ?_)); (fail_if_success (with_reducible refine atDrawn ?_)); (fail_if_success (with_reducible refine atEnd ?_)); (with_reducible refine atRun ?_); refine go 200 ?_; conv => whnf))
          · refine FnOk.start Try.func47 rfl rfl rfl rfl fun F os tape output => ?_
            refine go 200 ?_
            conv => whnf
            refine Nx.bind (l := 5) (fun _ => ?_) rfl
            repeat' (first
              | ((with_reducible refine atBr ?_); refine BrM.yes (by omega) ?_; conv => whnf)
              | ((with_reducible refine atBr ?_); refine BrM.not (by omega) ?_; conv => whnf)
              | ((with_reducible refine atBr ?_); (first | refine BrM.t rfl ?_ | refine BrM.f rfl ?_ | refine BrM.dec (fun _ => ?_) (fun _ => ?_) | refine BrM.mk (fun _ => ?_) (fun _ => ?_)) <;> conv => whnf)
              | ((with_reducible refine atAr ?_); refine Ar.i64 (by omega) (by omega) ?_; conv => whnf)
              | ((with_reducible refine atLoad ?_); refine Nx.load1 0 rfl rfl rfl rfl (r5) rfl ?_)
              | ((with_reducible refine (atDrawnN 3) ?_); refine Nx.drawn0 [0] [.pure 0, .held 1, .pure 2, .pure 3, .pure 4, .pure 5, .pure 6, .held 7, .pure 8, .pure 9, .pure 10, .held 11, .pure 12, .pure 13, .pure 14] rfl (by kernel_rfl) rfl (by kernel_rfl) rfl (by repeat (first | exact subB.nil _ | refine subB.cons rfl ?_)) rfl ?_)
              | ((with_reducible refine (atDrawnN 5) ?_); refine Nx.drawn0 [0] [.pure 0, .held 1, .pure 2, .pure 3, .pure 4, .held 5, .pure 6, .pure 7, .pure 8, .held 9, .pure 10, .pure 11, .pure 12, .held 13, .pure 14, .pure 15, .pure 16, .held 17, .pure 18, .pure 19, .pure 20, .pure 21, .pure 22, .held 23, .pure 24, .held 25, .pure 26, .pure 27, .pure 28, .pure 29, .pure 30, .pure 31, .held 32, .pure 33, .held 34, .pure 35, .pure 36, .pure 37, .pure 38] rfl (by kernel_rfl) rfl (by kernel_rfl) rfl (by repeat (first | exact subB.nil _ | refine subB.cons rfl ?_)) rfl ?_)
              | ((with_reducible refine atHoLoad ?_); first | (refine Nx.hoLoad1 rfl rfl rfl rfl List.mem_cons_self (SeesAt.sub (by assumption) _ rfl) rfl ?_) | (refine Nx.hoLoad1 rfl rfl rfl rfl List.mem_cons_self (by assumption) rfl ?_) | (refine Nx.hoLoad rfl rfl rfl rfl List.mem_cons_self (by assumption) rfl rfl ?_) | (refine Nx.hoLoad1 rfl rfl rfl rfl (List.mem_cons_of_mem _ List.mem_cons_self) (SeesAt.sub (by assumption) _ rfl) rfl ?_) | (refine Nx.hoLoad1 rfl rfl rfl rfl (List.mem_cons_of_mem _ List.mem_cons_self) (by assumption) rfl ?_) | (refine Nx.hoLoad rfl rfl rfl rfl (List.mem_cons_of_mem _ List.mem_cons_self) (by assumption) rfl rfl ?_) | (refine Nx.hoLoad1 rfl rfl rfl rfl (List.mem_cons_of_mem _ (List.mem_cons_of_mem _ List.mem_cons_self)) (SeesAt.sub (by assumption) _ rfl) rfl ?_) | (refine Nx.hoLoad1 rfl rfl rfl rfl (List.mem_cons_of_mem _ (List.mem_cons_of_mem _ List.mem_cons_self)) (by assumption) rfl ?_) | (refine Nx.hoLoad rfl rfl rfl rfl (List.mem_cons_of_mem _ (List.mem_cons_of_mem _ List.mem_cons_self)) (by assumption) rfl rfl ?_) | (refine Nx.hoLoad1 rfl rfl rfl rfl (List.mem_cons_of_mem _ (List.mem_cons_of_mem _ (List.mem_cons_of_mem _ List.mem_cons_self))) (SeesAt.sub (by assumption) _ rfl) rfl ?_) | (refine Nx.hoLoad1 rfl rfl rfl rfl (List.mem_cons_of_mem _ (List.mem_cons_of_mem _ (List.mem_cons_of_mem _ List.mem_cons_self))) (by assumption) rfl ?_) | (refine Nx.hoLoad rfl rfl rfl rfl (List.mem_cons_of_mem _ (List.mem_cons_of_mem _ (List.mem_cons_of_mem _ List.mem_cons_self))) (by assumption) rfl rfl ?_))
              | ((with_reducible refine (atCall 37) ?_); refine Nx.call [] [9] rfl rfl rfl rfl rfl ((wrong_ok _ _ 1)) rfl fun v Q hQ => ?_; obtain ⟨b,rfl,rfl⟩ := hQ)
              | ((with_reducible refine atRet ?_); refine Nx.ret [0,9] Try.func47 rfl rfl ?_; (exact MdQ.yes rfl (by decide)))
              | ((with_reducible refine atOps ?_); refine go 200 ?_; conv => whnf)
              | ((with_reducible refine atPlan ?_); refine Nx.runP (n := 200) rfl (by repeat (first | exact subB.nil _ | refine subB.cons rfl ?_)) ?_; conv => whnf)
              | ((with_reducible refine atAftL ?_); refine Nx.late ?_)
              | ((fail_if_success (with_reducible refine atRet ?_)); (fail_if_success (with_reducible refine atLoop ?_)); (fail_if_success (with_reducible refine atIn ?_)); (fail_if_success (with_reducible refine atDrawn ?_)); (fail_if_success (with_reducible refine atEnd ?_)); (with_reducible refine atRun ?_); refine go 200 ?_; conv => whnf))
        · refine FnOk.start Try.func47 rfl rfl rfl rfl fun F os tape output => ?_
          refine go 200 ?_
          conv => whnf
          refine Nx.bind (l := 5) (fun _ => ?_) rfl
          repeat' (first
            | ((with_reducible refine atBr ?_); refine BrM.yes (by omega) ?_; conv => whnf)
            | ((with_reducible refine atBr ?_); refine BrM.not (by omega) ?_; conv => whnf)
            | ((with_reducible refine atBr ?_); (first | refine BrM.t rfl ?_ | refine BrM.f rfl ?_ | refine BrM.dec (fun _ => ?_) (fun _ => ?_) | refine BrM.mk (fun _ => ?_) (fun _ => ?_)) <;> conv => whnf)
            | ((with_reducible refine atAr ?_); refine Ar.i64 (by omega) (by omega) ?_; conv => whnf)
            | ((with_reducible refine atLoad ?_); refine Nx.load1 0 rfl rfl rfl rfl (r5) rfl ?_)
            | ((with_reducible refine (atDrawnN 3) ?_); refine Nx.drawn0 [0] [.pure 0, .held 1, .pure 2, .pure 3, .pure 4, .pure 5, .pure 6, .held 7, .pure 8, .pure 9, .pure 10, .held 11, .pure 12, .pure 13, .pure 14] rfl (by kernel_rfl) rfl (by kernel_rfl) rfl (by repeat (first | exact subB.nil _ | refine subB.cons rfl ?_)) rfl ?_)
            | ((with_reducible refine (atDrawnN 5) ?_); refine Nx.drawn0 [0] [.pure 0, .held 1, .pure 2, .pure 3, .pure 4, .held 5, .pure 6, .pure 7, .pure 8, .held 9, .pure 10, .pure 11, .pure 12, .held 13, .pure 14, .pure 15, .pure 16, .held 17, .pure 18, .pure 19, .pure 20, .pure 21, .pure 22, .held 23, .pure 24, .held 25, .pure 26, .pure 27, .pure 28, .pure 29, .pure 30, .pure 31, .held 32, .pure 33, .held 34, .pure 35, .pure 36, .pure 37, .pure 38] rfl (by kernel_rfl) rfl (by kernel_rfl) rfl (by repeat (first | exact subB.nil _ | refine subB.cons rfl ?_)) rfl ?_)
            | ((with_reducible refine atHoLoad ?_); first | (refine Nx.hoLoad1 rfl rfl rfl rfl List.mem_cons_self (SeesAt.sub (by assumption) _ rfl) rfl ?_) | (refine Nx.hoLoad1 rfl rfl rfl rfl List.mem_cons_self (by assumption) rfl ?_) | (refine Nx.hoLoad rfl rfl rfl rfl List.mem_cons_self (by assumption) rfl rfl ?_) | (refine Nx.hoLoad1 rfl rfl rfl rfl (List.mem_cons_of_mem _ List.mem_cons_self) (SeesAt.sub (by assumption) _ rfl) rfl ?_) | (refine Nx.hoLoad1 rfl rfl rfl rfl (List.mem_cons_of_mem _ List.mem_cons_self) (by assumption) rfl ?_) | (refine Nx.hoLoad rfl rfl rfl rfl (List.mem_cons_of_mem _ List.mem_cons_self) (by assumption) rfl rfl ?_) | (refine Nx.hoLoad1 rfl rfl rfl rfl (List.mem_cons_of_mem _ (List.mem_cons_of_mem _ List.mem_cons_self)) (SeesAt.sub (by assumption) _ rfl) rfl ?_) | (refine Nx.hoLoad1 rfl rfl rfl rfl (List.mem_cons_of_mem _ (List.mem_cons_of_mem _ List.mem_cons_self)) (by assumption) rfl ?_) | (refine Nx.hoLoad rfl rfl rfl rfl (List.mem_cons_of_mem _ (List.mem_cons_of_mem _ List.mem_cons_self)) (by assumption) rfl rfl ?_) | (refine Nx.hoLoad1 rfl rfl rfl rfl (List.mem_cons_of_mem _ (List.mem_cons_of_mem _ (List.mem_cons_of_mem _ List.mem_cons_self))) (SeesAt.sub (by assumption) _ rfl) rfl ?_) | (refine Nx.hoLoad1 rfl rfl rfl rfl (List.mem_cons_of_mem _ (List.mem_cons_of_mem _ (List.mem_cons_of_mem _ List.mem_cons_self))) (by assumption) rfl ?_) | (refine Nx.hoLoad rfl rfl rfl rfl (List.mem_cons_of_mem _ (List.mem_cons_of_mem _ (List.mem_cons_of_mem _ List.mem_cons_self))) (by assumption) rfl rfl ?_))
            | ((with_reducible refine (atCall 37) ?_); refine Nx.call [] [9] rfl rfl rfl rfl rfl ((wrong_ok _ _ 1)) rfl fun v Q hQ => ?_; obtain ⟨b,rfl,rfl⟩ := hQ)
            | ((with_reducible refine atRet ?_); refine Nx.ret [0,9] Try.func47 rfl rfl ?_; (exact MdQ.yes rfl (by decide)))
            | ((with_reducible refine atOps ?_); refine go 200 ?_; conv => whnf)
            | ((with_reducible refine atPlan ?_); refine Nx.runP (n := 200) rfl (by repeat (first | exact subB.nil _ | refine subB.cons rfl ?_)) ?_; conv => whnf)
            | ((with_reducible refine atAftL ?_); refine Nx.late ?_)
            | ((fail_if_success (with_reducible refine atRet ?_)); (fail_if_success (with_reducible refine atLoop ?_)); (fail_if_success (with_reducible refine atIn ?_)); (fail_if_success (with_reducible refine atDrawn ?_)); (fail_if_success (with_reducible refine atEnd ?_)); (with_reducible refine atRun ?_); refine go 200 ?_; conv => whnf))
      · refine FnOk.start Try.func47 rfl rfl rfl rfl fun F os tape output => ?_
        refine go 200 ?_
        conv => whnf
        refine Nx.bind (l := 5) (fun _ => ?_) rfl
        repeat' (first
          | ((with_reducible refine atBr ?_); refine BrM.yes (by omega) ?_; conv => whnf)
          | ((with_reducible refine atBr ?_); refine BrM.not (by omega) ?_; conv => whnf)
          | ((with_reducible refine atBr ?_); (first | refine BrM.t rfl ?_ | refine BrM.f rfl ?_ | refine BrM.dec (fun _ => ?_) (fun _ => ?_) | refine BrM.mk (fun _ => ?_) (fun _ => ?_)) <;> conv => whnf)
          | ((with_reducible refine atAr ?_); refine Ar.i64 (by omega) (by omega) ?_; conv => whnf)
          | ((with_reducible refine atLoad ?_); refine Nx.load1 0 rfl rfl rfl rfl (r5) rfl ?_)
          | ((with_reducible refine (atDrawnN 3) ?_); refine Nx.drawn0 [0] [.pure 0, .held 1, .pure 2, .pure 3, .pure 4, .pure 5, .pure 6, .held 7, .pure 8, .pure 9, .pure 10, .held 11, .pure 12, .pure 13, .pure 14] rfl (by kernel_rfl) rfl (by kernel_rfl) rfl (by repeat (first | exact subB.nil _ | refine subB.cons rfl ?_)) rfl ?_)
          | ((with_reducible refine (atDrawnN 5) ?_); refine Nx.drawn0 [0] [.pure 0, .held 1, .pure 2, .pure 3, .pure 4, .held 5, .pure 6, .pure 7, .pure 8, .held 9, .pure 10, .pure 11, .pure 12, .held 13, .pure 14, .pure 15, .pure 16, .held 17, .pure 18, .pure 19, .pure 20, .pure 21, .pure 22, .held 23, .pure 24, .held 25, .pure 26, .pure 27, .pure 28, .pure 29, .pure 30, .pure 31, .held 32, .pure 33, .held 34, .pure 35, .pure 36, .pure 37, .pure 38] rfl (by kernel_rfl) rfl (by kernel_rfl) rfl (by repeat (first | exact subB.nil _ | refine subB.cons rfl ?_)) rfl ?_)
          | ((with_reducible refine atHoLoad ?_); first | (refine Nx.hoLoad1 rfl rfl rfl rfl List.mem_cons_self (SeesAt.sub (by assumption) _ rfl) rfl ?_) | (refine Nx.hoLoad1 rfl rfl rfl rfl List.mem_cons_self (by assumption) rfl ?_) | (refine Nx.hoLoad rfl rfl rfl rfl List.mem_cons_self (by assumption) rfl rfl ?_) | (refine Nx.hoLoad1 rfl rfl rfl rfl (List.mem_cons_of_mem _ List.mem_cons_self) (SeesAt.sub (by assumption) _ rfl) rfl ?_) | (refine Nx.hoLoad1 rfl rfl rfl rfl (List.mem_cons_of_mem _ List.mem_cons_self) (by assumption) rfl ?_) | (refine Nx.hoLoad rfl rfl rfl rfl (List.mem_cons_of_mem _ List.mem_cons_self) (by assumption) rfl rfl ?_) | (refine Nx.hoLoad1 rfl rfl rfl rfl (List.mem_cons_of_mem _ (List.mem_cons_of_mem _ List.mem_cons_self)) (SeesAt.sub (by assumption) _ rfl) rfl ?_) | (refine Nx.hoLoad1 rfl rfl rfl rfl (List.mem_cons_of_mem _ (List.mem_cons_of_mem _ List.mem_cons_self)) (by assumption) rfl ?_) | (refine Nx.hoLoad rfl rfl rfl rfl (List.mem_cons_of_mem _ (List.mem_cons_of_mem _ List.mem_cons_self)) (by assumption) rfl rfl ?_) | (refine Nx.hoLoad1 rfl rfl rfl rfl (List.mem_cons_of_mem _ (List.mem_cons_of_mem _ (List.mem_cons_of_mem _ List.mem_cons_self))) (SeesAt.sub (by assumption) _ rfl) rfl ?_) | (refine Nx.hoLoad1 rfl rfl rfl rfl (List.mem_cons_of_mem _ (List.mem_cons_of_mem _ (List.mem_cons_of_mem _ List.mem_cons_self))) (by assumption) rfl ?_) | (refine Nx.hoLoad rfl rfl rfl rfl (List.mem_cons_of_mem _ (List.mem_cons_of_mem _ (List.mem_cons_of_mem _ List.mem_cons_self))) (by assumption) rfl rfl ?_))
          | ((with_reducible refine (atCall 37) ?_); refine Nx.call [] [9] rfl rfl rfl rfl rfl ((wrong_ok _ _ 1)) rfl fun v Q hQ => ?_; obtain ⟨b,rfl,rfl⟩ := hQ)
          | ((with_reducible refine atRet ?_); refine Nx.ret [0,9] Try.func47 rfl rfl ?_; (exact MdQ.yes rfl (by decide)))
          | ((with_reducible refine atOps ?_); refine go 200 ?_; conv => whnf)
          | ((with_reducible refine atPlan ?_); refine Nx.runP (n := 200) rfl (by repeat (first | exact subB.nil _ | refine subB.cons rfl ?_)) ?_; conv => whnf)
          | ((with_reducible refine atAftL ?_); refine Nx.late ?_)
          | ((fail_if_success (with_reducible refine atRet ?_)); (fail_if_success (with_reducible refine atLoop ?_)); (fail_if_success (with_reducible refine atIn ?_)); (fail_if_success (with_reducible refine atDrawn ?_)); (fail_if_success (with_reducible refine atEnd ?_)); (with_reducible refine atRun ?_); refine go 200 ?_; conv => whnf))
    · rw [if_neg (by omega)]
      obtain ⟨y, hy⟩ : ∃ y : RdH, y = { x with r := { x.r with began := x.r.next } } := ⟨_, rfl⟩
      have ep : (M.setR k y).p = M.p.setR k fun r => { r with began := r.next } := MdH.setR_p hx (by rw [hy])
      refine FnOk.start Try.func47 rfl rfl rfl rfl fun F os tape output => ?_
      refine go 200 ?_
      conv => whnf
      refine Nx.bind (l := 5) (fun _ => ?_) rfl
      repeat' (first
        | ((with_reducible refine atBr ?_); refine BrM.yes (by omega) ?_; conv => whnf)
        | ((with_reducible refine atBr ?_); refine BrM.not (by omega) ?_; conv => whnf)
        | ((with_reducible refine atBr ?_); (first | refine BrM.t rfl ?_ | refine BrM.f rfl ?_ | refine BrM.dec (fun _ => ?_) (fun _ => ?_) | refine BrM.mk (fun _ => ?_) (fun _ => ?_)) <;> conv => whnf)
        | ((with_reducible refine atAr ?_); refine Ar.i64 (by omega) (by omega) ?_; conv => whnf)
        | ((with_reducible refine atLoad ?_); refine Nx.load1 0 rfl rfl rfl rfl (r5) rfl ?_)
        | ((with_reducible refine (atDrawnN 3) ?_); refine Nx.drawn0 [0] [.pure 0, .held 1, .pure 2, .pure 3, .pure 4, .pure 5, .pure 6, .held 7, .pure 8, .pure 9, .pure 10, .held 11, .pure 12, .pure 13, .pure 14] rfl (by kernel_rfl) rfl (by kernel_rfl) rfl (by repeat (first | exact subB.nil _ | refine subB.cons rfl ?_)) rfl ?_)
        | ((with_reducible refine (atDrawnN 5) ?_); refine Nx.drawn0 [0] [.pure 0, .held 1, .pure 2, .pure 3, .pure 4, .held 5, .pure 6, .pure 7, .pure 8, .held 9, .pure 10, .pure 11, .pure 12, .held 13, .pure 14, .pure 15, .pure 16, .held 17, .pure 18, .pure 19, .pure 20, .pure 21, .pure 22, .held 23, .pure 24, .held 25, .pure 26, .pure 27, .pure 28, .pure 29, .pure 30, .pure 31, .held 32, .pure 33, .held 34, .pure 35, .pure 36, .pure 37, .pure 38] rfl (by kernel_rfl) rfl (by kernel_rfl) rfl (by repeat (first | exact subB.nil _ | refine subB.cons rfl ?_)) rfl ?_)
        | ((with_reducible refine atHoLoad ?_); first | (refine Nx.hoLoad1 rfl rfl rfl rfl List.mem_cons_self (SeesAt.sub (by assumption) _ rfl) rfl ?_) | (refine Nx.hoLoad1 rfl rfl rfl rfl List.mem_cons_self (by assumption) rfl ?_) | (refine Nx.hoLoad rfl rfl rfl rfl List.mem_cons_self (by assumption) rfl rfl ?_) | (refine Nx.hoLoad1 rfl rfl rfl rfl (List.mem_cons_of_mem _ List.mem_cons_self) (SeesAt.sub (by assumption) _ rfl) rfl ?_) | (refine Nx.hoLoad1 rfl rfl rfl rfl (List.mem_cons_of_mem _ List.mem_cons_self) (by assumption) rfl ?_) | (refine Nx.hoLoad rfl rfl rfl rfl (List.mem_cons_of_mem _ List.mem_cons_self) (by assumption) rfl rfl ?_) | (refine Nx.hoLoad1 rfl rfl rfl rfl (List.mem_cons_of_mem _ (List.mem_cons_of_mem _ List.mem_cons_self)) (SeesAt.sub (by assumption) _ rfl) rfl ?_) | (refine Nx.hoLoad1 rfl rfl rfl rfl (List.mem_cons_of_mem _ (List.mem_cons_of_mem _ List.mem_cons_self)) (by assumption) rfl ?_) | (refine Nx.hoLoad rfl rfl rfl rfl (List.mem_cons_of_mem _ (List.mem_cons_of_mem _ List.mem_cons_self)) (by assumption) rfl rfl ?_) | (refine Nx.hoLoad1 rfl rfl rfl rfl (List.mem_cons_of_mem _ (List.mem_cons_of_mem _ (List.mem_cons_of_mem _ List.mem_cons_self))) (SeesAt.sub (by assumption) _ rfl) rfl ?_) | (refine Nx.hoLoad1 rfl rfl rfl rfl (List.mem_cons_of_mem _ (List.mem_cons_of_mem _ (List.mem_cons_of_mem _ List.mem_cons_self))) (by assumption) rfl ?_) | (refine Nx.hoLoad rfl rfl rfl rfl (List.mem_cons_of_mem _ (List.mem_cons_of_mem _ (List.mem_cons_of_mem _ List.mem_cons_self))) (by assumption) rfl rfl ?_))
        | ((with_reducible refine atLoad ?_); refine Nx.load1 0 rfl rfl rfl rfl (r2) rfl ?_)
        | ((with_reducible refine atOps ?_); refine go 200 ?_; conv => whnf)
        | ((with_reducible refine atPlan ?_); refine Nx.runP (n := 200) rfl (by repeat (first | exact subB.nil _ | refine subB.cons rfl ?_)) ?_; conv => whnf)
        | ((with_reducible refine atAftL ?_); refine Nx.late ?_)
        | ((fail_if_success (with_reducible refine atRet ?_)); (fail_if_success (with_reducible refine atLoop ?_)); (fail_if_success (with_reducible refine atIn ?_)); (fail_if_success (with_reducible refine atDrawn ?_)); (fail_if_success (with_reducible refine atEnd ?_)); (with_reducible refine atRun ?_); refine go 200 ?_; conv => whnf))
      refine Nx.storeW 0 (M.setR k y).sp rfl rfl rfl rfl rfl rfl rfl rfl rfl (MdH.setR_sp hx (by decide) (by rw [hy]) (by rw [hy]; rfl) (by rw [hy]) (by rw [hy])) ?_
      repeat' (first
        | ((with_reducible refine atBr ?_); (first | refine BrM.t rfl ?_ | refine BrM.f rfl ?_ | refine BrM.dec (fun _ => ?_) (fun _ => ?_) | refine BrM.mk (fun _ => ?_) (fun _ => ?_)) <;> conv => whnf)
        | ((with_reducible refine atAr ?_); refine Ar.i64 (by omega) (by omega) ?_; conv => whnf)
        | ((with_reducible refine atRet ?_); refine Nx.ret [0] Try.func47 rfl rfl ?_; (exact MdQ.no (M := M.setR k y) rfl ep))
        | ((with_reducible refine atOps ?_); refine go 200 ?_; conv => whnf)
        | ((with_reducible refine atPlan ?_); refine Nx.runP (n := 200) rfl (by repeat (first | exact subB.nil _ | refine subB.cons rfl ?_)) ?_; conv => whnf)
        | ((with_reducible refine atAftL ?_); refine Nx.late ?_)
        | ((fail_if_success (with_reducible refine atRet ?_)); (fail_if_success (with_reducible refine atLoop ?_)); (fail_if_success (with_reducible refine atIn ?_)); (fail_if_success (with_reducible refine atDrawn ?_)); (fail_if_success (with_reducible refine atEnd ?_)); (with_reducible refine atRun ?_); refine go 200 ?_; conv => whnf))
  · by_cases h3 : x.r.next = x.r.began
    · rw [if_neg (by omega), if_neg (by omega)]
      obtain ⟨y, hy⟩ : ∃ y : RdH, y = { x with r := { x.r with began := x.r.next } } := ⟨_, rfl⟩
      have ep : (M.setR k y).p = M.p.setR k fun r => { r with began := r.next } := MdH.setR_p hx (by rw [hy])
      refine FnOk.start Try.func47 rfl rfl rfl rfl fun F os tape output => ?_
      refine go 200 ?_
      conv => whnf
      refine Nx.bind (l := 5) (fun _ => ?_) rfl
      repeat' (first
        | ((with_reducible refine atBr ?_); refine BrM.yes (by omega) ?_; conv => whnf)
        | ((with_reducible refine atBr ?_); refine BrM.not (by omega) ?_; conv => whnf)
        | ((with_reducible refine atBr ?_); (first | refine BrM.t rfl ?_ | refine BrM.f rfl ?_ | refine BrM.dec (fun _ => ?_) (fun _ => ?_) | refine BrM.mk (fun _ => ?_) (fun _ => ?_)) <;> conv => whnf)
        | ((with_reducible refine atAr ?_); refine Ar.i64 (by omega) (by omega) ?_; conv => whnf)
        | ((with_reducible refine atLoad ?_); refine Nx.load1 0 rfl rfl rfl rfl (r5) rfl ?_)
        | ((with_reducible refine (atDrawnN 3) ?_); refine Nx.drawn0 [0] [.pure 0, .held 1, .pure 2, .pure 3, .pure 4, .pure 5, .pure 6, .held 7, .pure 8, .pure 9, .pure 10, .held 11, .pure 12, .pure 13, .pure 14] rfl (by kernel_rfl) rfl (by kernel_rfl) rfl (by repeat (first | exact subB.nil _ | refine subB.cons rfl ?_)) rfl ?_)
        | ((with_reducible refine (atDrawnN 5) ?_); refine Nx.drawn0 [0] [.pure 0, .held 1, .pure 2, .pure 3, .pure 4, .held 5, .pure 6, .pure 7, .pure 8, .held 9, .pure 10, .pure 11, .pure 12, .held 13, .pure 14, .pure 15, .pure 16, .held 17, .pure 18, .pure 19, .pure 20, .pure 21, .pure 22, .held 23, .pure 24, .held 25, .pure 26, .pure 27, .pure 28, .pure 29, .pure 30, .pure 31, .held 32, .pure 33, .held 34, .pure 35, .pure 36, .pure 37, .pure 38] rfl (by kernel_rfl) rfl (by kernel_rfl) rfl (by repeat (first | exact subB.nil _ | refine subB.cons rfl ?_)) rfl ?_)
        | ((with_reducible refine atHoLoad ?_); first | (refine Nx.hoLoad1 rfl rfl rfl rfl List.mem_cons_self (SeesAt.sub (by assumption) _ rfl) rfl ?_) | (refine Nx.hoLoad1 rfl rfl rfl rfl List.mem_cons_self (by assumption) rfl ?_) | (refine Nx.hoLoad rfl rfl rfl rfl List.mem_cons_self (by assumption) rfl rfl ?_) | (refine Nx.hoLoad1 rfl rfl rfl rfl (List.mem_cons_of_mem _ List.mem_cons_self) (SeesAt.sub (by assumption) _ rfl) rfl ?_) | (refine Nx.hoLoad1 rfl rfl rfl rfl (List.mem_cons_of_mem _ List.mem_cons_self) (by assumption) rfl ?_) | (refine Nx.hoLoad rfl rfl rfl rfl (List.mem_cons_of_mem _ List.mem_cons_self) (by assumption) rfl rfl ?_) | (refine Nx.hoLoad1 rfl rfl rfl rfl (List.mem_cons_of_mem _ (List.mem_cons_of_mem _ List.mem_cons_self)) (SeesAt.sub (by assumption) _ rfl) rfl ?_) | (refine Nx.hoLoad1 rfl rfl rfl rfl (List.mem_cons_of_mem _ (List.mem_cons_of_mem _ List.mem_cons_self)) (by assumption) rfl ?_) | (refine Nx.hoLoad rfl rfl rfl rfl (List.mem_cons_of_mem _ (List.mem_cons_of_mem _ List.mem_cons_self)) (by assumption) rfl rfl ?_) | (refine Nx.hoLoad1 rfl rfl rfl rfl (List.mem_cons_of_mem _ (List.mem_cons_of_mem _ (List.mem_cons_of_mem _ List.mem_cons_self))) (SeesAt.sub (by assumption) _ rfl) rfl ?_) | (refine Nx.hoLoad1 rfl rfl rfl rfl (List.mem_cons_of_mem _ (List.mem_cons_of_mem _ (List.mem_cons_of_mem _ List.mem_cons_self))) (by assumption) rfl ?_) | (refine Nx.hoLoad rfl rfl rfl rfl (List.mem_cons_of_mem _ (List.mem_cons_of_mem _ (List.mem_cons_of_mem _ List.mem_cons_self))) (by assumption) rfl rfl ?_))
        | ((with_reducible refine atLoad ?_); refine Nx.load1 0 rfl rfl rfl rfl (r2) rfl ?_)
        | ((with_reducible refine atOps ?_); refine go 200 ?_; conv => whnf)
        | ((with_reducible refine atPlan ?_); refine Nx.runP (n := 200) rfl (by repeat (first | exact subB.nil _ | refine subB.cons rfl ?_)) ?_; conv => whnf)
        | ((with_reducible refine atAftL ?_); refine Nx.late ?_)
        | ((fail_if_success (with_reducible refine atRet ?_)); (fail_if_success (with_reducible refine atLoop ?_)); (fail_if_success (with_reducible refine atIn ?_)); (fail_if_success (with_reducible refine atDrawn ?_)); (fail_if_success (with_reducible refine atEnd ?_)); (with_reducible refine atRun ?_); refine go 200 ?_; conv => whnf))
      refine Nx.storeW 0 (M.setR k y).sp rfl rfl rfl rfl rfl rfl rfl rfl rfl (MdH.setR_sp hx (by decide) (by rw [hy]) (by rw [hy]; rfl) (by rw [hy]) (by rw [hy])) ?_
      repeat' (first
        | ((with_reducible refine atBr ?_); (first | refine BrM.t rfl ?_ | refine BrM.f rfl ?_ | refine BrM.dec (fun _ => ?_) (fun _ => ?_) | refine BrM.mk (fun _ => ?_) (fun _ => ?_)) <;> conv => whnf)
        | ((with_reducible refine atAr ?_); refine Ar.i64 (by omega) (by omega) ?_; conv => whnf)
        | ((with_reducible refine atRet ?_); refine Nx.ret [0] Try.func47 rfl rfl ?_; (exact MdQ.no (M := M.setR k y) rfl ep))
        | ((with_reducible refine atOps ?_); refine go 200 ?_; conv => whnf)
        | ((with_reducible refine atPlan ?_); refine Nx.runP (n := 200) rfl (by repeat (first | exact subB.nil _ | refine subB.cons rfl ?_)) ?_; conv => whnf)
        | ((with_reducible refine atAftL ?_); refine Nx.late ?_)
        | ((fail_if_success (with_reducible refine atRet ?_)); (fail_if_success (with_reducible refine atLoop ?_)); (fail_if_success (with_reducible refine atIn ?_)); (fail_if_success (with_reducible refine atDrawn ?_)); (fail_if_success (with_reducible refine atEnd ?_)); (with_reducible refine atRun ?_); refine go 200 ?_; conv => whnf))
    · rw [if_pos ⟨h2, h3⟩]
      refine FnOk.start Try.func47 rfl rfl rfl rfl fun F os tape output => ?_
      refine go 200 ?_
      conv => whnf
      refine Nx.bind (l := 5) (fun _ => ?_) rfl
      repeat' (first
        | ((with_reducible refine atBr ?_); refine BrM.yes (by omega) ?_; conv => whnf)
        | ((with_reducible refine atBr ?_); refine BrM.not (by omega) ?_; conv => whnf)
        | ((with_reducible refine atBr ?_); (first | refine BrM.t rfl ?_ | refine BrM.f rfl ?_ | refine BrM.dec (fun _ => ?_) (fun _ => ?_) | refine BrM.mk (fun _ => ?_) (fun _ => ?_)) <;> conv => whnf)
        | ((with_reducible refine atAr ?_); refine Ar.i64 (by omega) (by omega) ?_; conv => whnf)
        | ((with_reducible refine atLoad ?_); refine Nx.load1 0 rfl rfl rfl rfl (r5) rfl ?_)
        | ((with_reducible refine (atDrawnN 3) ?_); refine Nx.drawn0 [0] [.pure 0, .held 1, .pure 2, .pure 3, .pure 4, .pure 5, .pure 6, .held 7, .pure 8, .pure 9, .pure 10, .held 11, .pure 12, .pure 13, .pure 14] rfl (by kernel_rfl) rfl (by kernel_rfl) rfl (by repeat (first | exact subB.nil _ | refine subB.cons rfl ?_)) rfl ?_)
        | ((with_reducible refine atHoLoad ?_); first | (refine Nx.hoLoad1 rfl rfl rfl rfl List.mem_cons_self (SeesAt.sub (by assumption) _ rfl) rfl ?_) | (refine Nx.hoLoad1 rfl rfl rfl rfl List.mem_cons_self (by assumption) rfl ?_) | (refine Nx.hoLoad rfl rfl rfl rfl List.mem_cons_self (by assumption) rfl rfl ?_) | (refine Nx.hoLoad1 rfl rfl rfl rfl (List.mem_cons_of_mem _ List.mem_cons_self) (SeesAt.sub (by assumption) _ rfl) rfl ?_) | (refine Nx.hoLoad1 rfl rfl rfl rfl (List.mem_cons_of_mem _ List.mem_cons_self) (by assumption) rfl ?_) | (refine Nx.hoLoad rfl rfl rfl rfl (List.mem_cons_of_mem _ List.mem_cons_self) (by assumption) rfl rfl ?_) | (refine Nx.hoLoad1 rfl rfl rfl rfl (List.mem_cons_of_mem _ (List.mem_cons_of_mem _ List.mem_cons_self)) (SeesAt.sub (by assumption) _ rfl) rfl ?_) | (refine Nx.hoLoad1 rfl rfl rfl rfl (List.mem_cons_of_mem _ (List.mem_cons_of_mem _ List.mem_cons_self)) (by assumption) rfl ?_) | (refine Nx.hoLoad rfl rfl rfl rfl (List.mem_cons_of_mem _ (List.mem_cons_of_mem _ List.mem_cons_self)) (by assumption) rfl rfl ?_) | (refine Nx.hoLoad1 rfl rfl rfl rfl (List.mem_cons_of_mem _ (List.mem_cons_of_mem _ (List.mem_cons_of_mem _ List.mem_cons_self))) (SeesAt.sub (by assumption) _ rfl) rfl ?_) | (refine Nx.hoLoad1 rfl rfl rfl rfl (List.mem_cons_of_mem _ (List.mem_cons_of_mem _ (List.mem_cons_of_mem _ List.mem_cons_self))) (by assumption) rfl ?_) | (refine Nx.hoLoad rfl rfl rfl rfl (List.mem_cons_of_mem _ (List.mem_cons_of_mem _ (List.mem_cons_of_mem _ List.mem_cons_self))) (by assumption) rfl rfl ?_))
        | ((with_reducible refine (atCall 37) ?_); refine Nx.call [] [9] rfl rfl rfl rfl rfl ((wrong_ok _ _ 18)) rfl fun v Q hQ => ?_; obtain ⟨b,rfl,rfl⟩ := hQ)
        | ((with_reducible refine atRet ?_); refine Nx.ret [0,9] Try.func47 rfl rfl ?_; (exact MdQ.yes rfl (by decide)))
        | ((with_reducible refine atOps ?_); refine go 200 ?_; conv => whnf)
        | ((with_reducible refine atPlan ?_); refine Nx.runP (n := 200) rfl (by repeat (first | exact subB.nil _ | refine subB.cons rfl ?_)) ?_; conv => whnf)
        | ((with_reducible refine atAftL ?_); refine Nx.late ?_)
        | ((fail_if_success (with_reducible refine atRet ?_)); (fail_if_success (with_reducible refine atLoop ?_)); (fail_if_success (with_reducible refine atIn ?_)); (fail_if_success (with_reducible refine atDrawn ?_)); (fail_if_success (with_reducible refine atEnd ?_)); (with_reducible refine atRun ?_); refine go 200 ?_; conv => whnf))
structure StX where
  rs : List RdH
  j : Nat
def overS (who : Int) (r : RdP) : RdP := if r.who = who then { r with over := true } else r
theorem stops_ok (M : MdH) (hm : MdW M.p) (who : Int) : FnOk Try.prog 49 [ptr M.b, .int .i64 who] [M.sp] (fun _ Q => ∃ M' : MdH, M'.b = M.b ∧ M'.p = M.p.stops who ∧ Q = [M'.sp]) := by
  have hM := M.seeM
  have m2 := hM.sub 2 rfl
  have hn := (hm.rn).1
  refine FnOk.start Try.func49 rfl rfl rfl rfl fun F os tape output => ?_
  refine go 200 ?_
  conv => whnf
  repeat' (first
    | ((with_reducible refine atBr ?_); (first | refine BrM.t rfl ?_ | refine BrM.f rfl ?_ | refine BrM.dec (fun _ => ?_) (fun _ => ?_) | refine BrM.mk (fun _ => ?_) (fun _ => ?_)) <;> conv => whnf)
    | ((with_reducible refine atAr ?_); refine Ar.i64 (by omega) (by omega) ?_; conv => whnf)
    | ((with_reducible refine atLoad ?_); refine Nx.load1 0 rfl rfl rfl rfl (m2) rfl ?_)
    | ((with_reducible refine atOps ?_); refine go 200 ?_; conv => whnf)
    | ((with_reducible refine atPlan ?_); refine Nx.runP (n := 200) rfl (by repeat (first | exact subB.nil _ | refine subB.cons rfl ?_)) ?_; conv => whnf)
    | ((with_reducible refine atAftL ?_); refine Nx.late ?_)
    | ((fail_if_success (with_reducible refine atRet ?_)); (fail_if_success (with_reducible refine atLoop ?_)); (fail_if_success (with_reducible refine atIn ?_)); (fail_if_success (with_reducible refine atDrawn ?_)); (fail_if_success (with_reducible refine atEnd ?_)); (with_reducible refine atRun ?_); refine go 200 ?_; conv => whnf))
  refine Nx.loop (X := StX) (fun x => x.j ≤ M.readers.length ∧ x.rs.length = M.readers.length ∧ ∀ q, (h1 : q < x.rs.length) → (h2 : q < M.readers.length) → x.rs[q].r = if q < x.j then overS who M.readers[q].r else M.readers[q].r) (fun x => M.readers.length - x.j)
    (fun x => [(0, .c (.v (ptr M.b))), (1, iv who), (9, sl M.rA M.readers.length M.rc), (10, iv M.readers.length), (11, iv x.j)]) (fun _ => []) [] (fun x => [(0, ({ M with readers := x.rs } : MdH).sp)]) ⟨M.readers, 0⟩ ⟨Nat.zero_le _, rfl, fun q h1 h2 => by simp⟩ ?_ ?_ ?_ ?_ ?_
  · repeat (first | exact subE.nil _ | refine subE.cons rfl rfl ?_ | refine subE.cons' rfl (fun _ => rfl) ?_)
  · repeat (first | exact subM.nil _ | refine subM.cons rfl rfl rfl ?_)
  · repeat (first | exact subB.nil _ | refine subB.cons rfl ?_)
  · repeat (first | exact subR.nil _ | refine subR.cons rfl rfl ?_)
  intro ⟨rs, j⟩ ⟨hj, hlen, hrs⟩ ih
  dsimp only at hj hlen hrs ih ⊢
  obtain ⟨X, hX⟩ : ∃ X : MdH, X = { M with readers := rs } := ⟨_, rfl⟩
  rw [← hX]
  have eXr : X.readers = rs := by rw [hX]
  by_cases hlt : j < M.readers.length
  · have hjl : j < rs.length := by omega
    obtain ⟨x, hx⟩ : ∃ x, x = rs[j] := ⟨_, rfl⟩
    have hxk : X.readers[j]? = some x := by rw [eXr, hx]; exact List.getElem?_eq_getElem hjl
    have hr := MdH.rat (M := X) (List.mem_of_getElem? hxk)
    have r0 := hr.sub 0 rfl
    have hR : Sees X.sp M.rA M.readers.length 1 (rs.flatMap RdH.pt) := by
      have := X.seeR
      rw [eXr, hlen] at this
      rw [hX] at this ⊢
      exact this
    have hxr : x.r = M.readers[j].r := by
      have := hrs j hjl hlt
      rw [if_neg (by omega)] at this
      rw [hx]; exact this
    have epj : rs[j].pt = x.pt := by rw [hx]
    have next : ∀ y : RdH, y.r = overS who x.r → ∀ q, (h1 : q < (rs.set j y).length) → (h2 : q < M.readers.length) → (rs.set j y)[q].r = if q < j + 1 then overS who M.readers[q].r else M.readers[q].r := by
      intro y hy q h1 h2
      rw [List.getElem_set]
      by_cases e : j = q
      · subst e
        rw [if_pos rfl, if_pos (by omega), hy, hxr]
      · rw [if_neg e, hrs q (by simpa using h1) h2]
        by_cases e2 : q < j
        · rw [if_pos e2, if_pos (by omega)]
        · rw [if_neg e2, if_neg (by omega)]
    by_cases hw : x.r.who = who
    · obtain ⟨y, hy⟩ : ∃ y : RdH, y = { x with r := { x.r with over := true } } := ⟨_, rfl⟩
      repeat' (first
        | ((with_reducible refine atBr ?_); refine BrM.yes (by omega) ?_; conv => whnf)
        | ((with_reducible refine atBr ?_); (first | refine BrM.t rfl ?_ | refine BrM.f rfl ?_ | refine BrM.dec (fun _ => ?_) (fun _ => ?_) | refine BrM.mk (fun _ => ?_) (fun _ => ?_)) <;> conv => whnf)
        | ((with_reducible refine atAr ?_); refine Ar.i64 (by omega) (by omega) ?_; conv => whnf)
        | ((with_reducible refine atIdx ?_); refine Nx.idx 0 (j := j) rfl rfl rfl Try.underlying75 rfl rfl rfl RdH.pt_len hR hlen.symm (by omega) (by omega) fun _ _ _ => ?_)
        | ((with_reducible refine atOps ?_); refine go 200 ?_; conv => whnf)
        | ((with_reducible refine atPlan ?_); refine Nx.runP (n := 200) rfl (by repeat (first | exact subB.nil _ | refine subB.cons rfl ?_)) ?_; conv => whnf)
        | ((with_reducible refine atAftL ?_); refine Nx.late ?_)
        | ((fail_if_success (with_reducible refine atRet ?_)); (fail_if_success (with_reducible refine atLoop ?_)); (fail_if_success (with_reducible refine atIn ?_)); (fail_if_success (with_reducible refine atDrawn ?_)); (fail_if_success (with_reducible refine atEnd ?_)); (with_reducible refine atRun ?_); refine go 200 ?_; conv => whnf))
      rename_i b p hpt
      rw [epj] at hpt
      repeat' (first
        | ((with_reducible refine atBr ?_); refine BrM.yes (by omega) ?_; conv => whnf)
        | ((with_reducible refine atBr ?_); (first | refine BrM.t rfl ?_ | refine BrM.f rfl ?_ | refine BrM.dec (fun _ => ?_) (fun _ => ?_) | refine BrM.mk (fun _ => ?_) (fun _ => ?_)) <;> conv => whnf)
        | ((with_reducible refine atAr ?_); refine Ar.i64 (by omega) (by omega) ?_; conv => whnf)
        | ((with_reducible refine atLoad ?_); refine Nx.load1 0 rfl rfl rfl rfl (hpt) rfl ?_)
        | ((with_reducible refine atLoad ?_); refine Nx.load1 0 rfl rfl rfl rfl (r0) rfl ?_)
        | ((with_reducible refine atOps ?_); refine go 200 ?_; conv => whnf)
        | ((with_reducible refine atPlan ?_); refine Nx.runP (n := 200) rfl (by repeat (first | exact subB.nil _ | refine subB.cons rfl ?_)) ?_; conv => whnf)
        | ((with_reducible refine atAftL ?_); refine Nx.late ?_)
        | ((fail_if_success (with_reducible refine atRet ?_)); (fail_if_success (with_reducible refine atLoop ?_)); (fail_if_success (with_reducible refine atIn ?_)); (fail_if_success (with_reducible refine atDrawn ?_)); (fail_if_success (with_reducible refine atEnd ?_)); (with_reducible refine atRun ?_); refine go 200 ?_; conv => whnf))
      refine Nx.storeW 0 (X.setR j y).sp rfl rfl rfl rfl rfl rfl rfl rfl rfl (MdH.setR_sp hxk (by decide) (by rw [hy]) (by rw [hy]; rfl) (by rw [hy]) (by rw [hy])) ?_
      repeat' (first
        | ((with_reducible refine atBr ?_); refine BrM.yes (by omega) ?_; conv => whnf)
        | ((with_reducible refine atBr ?_); (first | refine BrM.t rfl ?_ | refine BrM.f rfl ?_ | refine BrM.dec (fun _ => ?_) (fun _ => ?_) | refine BrM.mk (fun _ => ?_) (fun _ => ?_)) <;> conv => whnf)
        | ((with_reducible refine atAr ?_); refine Ar.i64 (by omega) (by omega) ?_; conv => whnf)
        | ((with_reducible refine atOps ?_); refine go 200 ?_; conv => whnf)
        | ((with_reducible refine atPlan ?_); refine Nx.runP (n := 200) rfl (by repeat (first | exact subB.nil _ | refine subB.cons rfl ?_)) ?_; conv => whnf)
        | ((with_reducible refine atAftL ?_); refine Nx.late ?_)
        | ((fail_if_success (with_reducible refine atRet ?_)); (fail_if_success (with_reducible refine atLoop ?_)); (fail_if_success (with_reducible refine atIn ?_)); (fail_if_success (with_reducible refine atDrawn ?_)); (fail_if_success (with_reducible refine atEnd ?_)); (with_reducible refine atRun ?_); refine go 200 ?_; conv => whnf))
      refine (ih ⟨rs.set j y, j + 1⟩ ⟨by dsimp only; omega, by simpa using hlen, next y (by rw [hy]; unfold overS; rw [if_pos hw])⟩ (by dsimp only; omega)).weak ?_ ?_ ?_ ?_
      · repeat (first | exact subE.nil _ | refine subE.cons rfl rfl ?_ | refine subE.cons' rfl (fun _ => rfl) ?_)
      · repeat (first | exact subM.nil _ | refine subM.cons rfl rfl rfl ?_)
      · repeat (first | exact subB.nil _ | refine subB.cons rfl ?_)
      · have e : (X.setR j y).sp = ({ M with readers := rs.set j y } : MdH).sp := by
          unfold MdH.setR
          rw [hX]
        rw [e]
        repeat (first | exact subR.nil _ | refine subR.cons rfl rfl ?_)
    · repeat' (first
        | ((with_reducible refine atBr ?_); refine BrM.yes (by omega) ?_; conv => whnf)
        | ((with_reducible refine atBr ?_); (first | refine BrM.t rfl ?_ | refine BrM.f rfl ?_ | refine BrM.dec (fun _ => ?_) (fun _ => ?_) | refine BrM.mk (fun _ => ?_) (fun _ => ?_)) <;> conv => whnf)
        | ((with_reducible refine atAr ?_); refine Ar.i64 (by omega) (by omega) ?_; conv => whnf)
        | ((with_reducible refine atIdx ?_); refine Nx.idx 0 (j := j) rfl rfl rfl Try.underlying75 rfl rfl rfl RdH.pt_len hR hlen.symm (by omega) (by omega) fun _ _ _ => ?_)
        | ((with_reducible refine atOps ?_); refine go 200 ?_; conv => whnf)
        | ((with_reducible refine atPlan ?_); refine Nx.runP (n := 200) rfl (by repeat (first | exact subB.nil _ | refine subB.cons rfl ?_)) ?_; conv => whnf)
        | ((with_reducible refine atAftL ?_); refine Nx.late ?_)
        | ((fail_if_success (with_reducible refine atRet ?_)); (fail_if_success (with_reducible refine atLoop ?_)); (fail_if_success (with_reducible refine atIn ?_)); (fail_if_success (with_reducible refine atDrawn ?_)); (fail_if_success (with_reducible refine atEnd ?_)); (with_reducible refine atRun ?_); refine go 200 ?_; conv => whnf))
      rename_i b p hpt
      rw [epj] at hpt
      repeat' (first
        | ((with_reducible refine atBr ?_); refine BrM.not (hw) ?_; conv => whnf)
        | ((with_reducible refine atBr ?_); (first | refine BrM.t rfl ?_ | refine BrM.f rfl ?_ | refine BrM.dec (fun _ => ?_) (fun _ => ?_) | refine BrM.mk (fun _ => ?_) (fun _ => ?_)) <;> conv => whnf)
        | ((with_reducible refine atAr ?_); refine Ar.i64 (by omega) (by omega) ?_; conv => whnf)
        | ((with_reducible refine atLoad ?_); refine Nx.load1 0 rfl rfl rfl rfl (hpt) rfl ?_)
        | ((with_reducible refine atLoad ?_); refine Nx.load1 0 rfl rfl rfl rfl (r0) rfl ?_)
        | ((with_reducible refine atOps ?_); refine go 200 ?_; conv => whnf)
        | ((with_reducible refine atPlan ?_); refine Nx.runP (n := 200) rfl (by repeat (first | exact subB.nil _ | refine subB.cons rfl ?_)) ?_; conv => whnf)
        | ((with_reducible refine atAftL ?_); refine Nx.late ?_)
        | ((fail_if_success (with_reducible refine atRet ?_)); (fail_if_success (with_reducible refine atLoop ?_)); (fail_if_success (with_reducible refine atIn ?_)); (fail_if_success (with_reducible refine atDrawn ?_)); (fail_if_success (with_reducible refine atEnd ?_)); (with_reducible refine atRun ?_); refine go 200 ?_; conv => whnf))
      have e : rs.set j x = rs := by rw [hx]; exact List.set_getElem_self hjl
      refine (ih ⟨rs, j + 1⟩ ⟨by dsimp only; omega, hlen, fun q h1 h2 => ?_⟩ (by dsimp only; omega)).weak ?_ ?_ ?_ ?_
      · have := next x (by unfold overS; rw [if_neg hw]) q (by rw [e]; exact h1) h2
        simpa only [e] using this
      · repeat (first | exact subE.nil _ | refine subE.cons rfl rfl ?_ | refine subE.cons' rfl (fun _ => rfl) ?_)
      · repeat (first | exact subM.nil _ | refine subM.cons rfl rfl rfl ?_)
      · repeat (first | exact subB.nil _ | refine subB.cons rfl ?_)
      · rw [hX]
        repeat (first | exact subR.nil _ | refine subR.cons rfl rfl ?_)
  · have ep : X.p = M.p.stops who := by
      have e : rs.map RdH.r = (M.readers.map RdH.r).map (overS who) := by
        refine List.ext_getElem (by simpa using hlen) fun q h1 h2 => ?_
        rw [List.getElem_map, List.getElem_map, List.getElem_map, hrs q (by simpa using h1) (by simpa using h2), if_pos (by simp at h2; omega)]
      rw [hX]
      show MdP.mk _ _ (rs.map RdH.r) _ = _
      rw [e]; rfl
    have eb : X.b = M.b := by rw [hX]
    repeat' (first
      | ((with_reducible refine atBr ?_); refine BrM.not (by omega) ?_; conv => whnf)
      | ((with_reducible refine atBr ?_); (first | refine BrM.t rfl ?_ | refine BrM.f rfl ?_ | refine BrM.dec (fun _ => ?_) (fun _ => ?_) | refine BrM.mk (fun _ => ?_) (fun _ => ?_)) <;> conv => whnf)
      | ((with_reducible refine atAr ?_); refine Ar.i64 (by omega) (by omega) ?_; conv => whnf)
      | ((with_reducible refine atEnd ?_); refine Nx.done [0] rfl rfl rfl ?_; (exact ⟨X, eb, ep, rfl⟩))
      | ((with_reducible refine atOps ?_); refine go 200 ?_; conv => whnf)
      | ((with_reducible refine atPlan ?_); refine Nx.runP (n := 200) rfl (by repeat (first | exact subB.nil _ | refine subB.cons rfl ?_)) ?_; conv => whnf)
      | ((with_reducible refine atAftL ?_); refine Nx.late ?_)
      | ((fail_if_success (with_reducible refine atRet ?_)); (fail_if_success (with_reducible refine atLoop ?_)); (fail_if_success (with_reducible refine atIn ?_)); (fail_if_success (with_reducible refine atDrawn ?_)); (fail_if_success (with_reducible refine atEnd ?_)); (with_reducible refine atRun ?_); refine go 200 ?_; conv => whnf))
end Go.Proofs.Ytngfadijcpnblaa

/- The program's model: moves. -/
namespace Go.Proofs.Ytngfadijcpnblaa
open Go.RowKit
set_option maxRecDepth 20000
set_option maxHeartbeats 4000000
attribute [local irreducible] Nx Ar BrM
theorem moves_ok (M : MdH) (hm : MdW M.p) {k : Nat} {x : RdH} (hx : M.readers[k]? = some x) (n : Nt) : FnOk Try.prog 46 [ptr M.b, ptr x.b, n.v] [M.sp] (MdQ M.b (M.p.moves k x.r n)) := by
  have hr := MdH.rat (M := M) (List.mem_of_getElem? hx)
  have hb := hm.rb x.r (List.mem_map_of_mem (List.mem_of_getElem? hx))
  have r1 := hr.sub 1 rfl
  have r2 := hr.sub 2 rfl
  have r3 := hr.sub 3 rfl
  have r5 := hr.sub 5 rfl
  have hev := Event_ok M hm x.r.ring n.seq
  unfold MdP.moves
  unfold Nt.v
  by_cases h1 : n.lo = x.r.cursor + 1
  · by_cases h2 : n.seq < n.lo
    · rw [if_pos (.inr h2)]
      refine FnOk.start Try.func46 rfl rfl rfl rfl fun F os tape output => ?_
      refine go 200 ?_
      conv => whnf
      refine Nx.bind (l := 5) (fun _ => ?_) rfl
      repeat' (first
        | ((with_reducible refine atBr ?_); refine BrM.yes (by omega) ?_; conv => whnf)
        | ((with_reducible refine atBr ?_); refine BrM.not (by omega) ?_; conv => whnf)
        | ((with_reducible refine atBr ?_); (first | refine BrM.t rfl ?_ | refine BrM.f rfl ?_ | refine BrM.dec (fun _ => ?_) (fun _ => ?_) | refine BrM.mk (fun _ => ?_) (fun _ => ?_)) <;> conv => whnf)
        | ((with_reducible refine atAr ?_); refine Ar.i64 (by omega) (by omega) ?_; conv => whnf)
        | ((with_reducible refine (atDrawnN 1) ?_); refine Nx.drawn0 [0] [.pure 0, .held 1, .pure 2, .pure 3, .pure 4, .held 5, .pure 6, .pure 7, .pure 8, .pure 9, .held 10, .pure 11, .held 12, .pure 13, .pure 14, .pure 15] rfl (by kernel_rfl) rfl (by kernel_rfl) rfl (by repeat (first | exact subB.nil _ | refine subB.cons rfl ?_)) rfl ?_)
        | ((with_reducible refine atHoLoad ?_); first | (refine Nx.hoLoad1 rfl rfl rfl rfl List.mem_cons_self (SeesAt.sub (by assumption) _ rfl) rfl ?_) | (refine Nx.hoLoad1 rfl rfl rfl rfl List.mem_cons_self (by assumption) rfl ?_) | (refine Nx.hoLoad rfl rfl rfl rfl List.mem_cons_self (by assumption) rfl rfl ?_) | (refine Nx.hoLoad1 rfl rfl rfl rfl (List.mem_cons_of_mem _ List.mem_cons_self) (SeesAt.sub (by assumption) _ rfl) rfl ?_) | (refine Nx.hoLoad1 rfl rfl rfl rfl (List.mem_cons_of_mem _ List.mem_cons_self) (by assumption) rfl ?_) | (refine Nx.hoLoad rfl rfl rfl rfl (List.mem_cons_of_mem _ List.mem_cons_self) (by assumption) rfl rfl ?_) | (refine Nx.hoLoad1 rfl rfl rfl rfl (List.mem_cons_of_mem _ (List.mem_cons_of_mem _ List.mem_cons_self)) (SeesAt.sub (by assumption) _ rfl) rfl ?_) | (refine Nx.hoLoad1 rfl rfl rfl rfl (List.mem_cons_of_mem _ (List.mem_cons_of_mem _ List.mem_cons_self)) (by assumption) rfl ?_) | (refine Nx.hoLoad rfl rfl rfl rfl (List.mem_cons_of_mem _ (List.mem_cons_of_mem _ List.mem_cons_self)) (by assumption) rfl rfl ?_) | (refine Nx.hoLoad1 rfl rfl rfl rfl (List.mem_cons_of_mem _ (List.mem_cons_of_mem _ (List.mem_cons_of_mem _ List.mem_cons_self))) (SeesAt.sub (by assumption) _ rfl) rfl ?_) | (refine Nx.hoLoad1 rfl rfl rfl rfl (List.mem_cons_of_mem _ (List.mem_cons_of_mem _ (List.mem_cons_of_mem _ List.mem_cons_self))) (by assumption) rfl ?_) | (refine Nx.hoLoad rfl rfl rfl rfl (List.mem_cons_of_mem _ (List.mem_cons_of_mem _ (List.mem_cons_of_mem _ List.mem_cons_self))) (by assumption) rfl rfl ?_))
        | ((with_reducible refine (atCall 37) ?_); refine Nx.call [] [9] rfl rfl rfl rfl rfl ((wrong_ok _ _ 1)) rfl fun v Q hQ => ?_; obtain ⟨b,rfl,rfl⟩ := hQ)
        | ((with_reducible refine atRet ?_); refine Nx.ret [0,9] Try.func46 rfl rfl ?_; (exact MdQ.yes rfl (by decide)))
        | ((with_reducible refine atOps ?_); refine go 200 ?_; conv => whnf)
        | ((with_reducible refine atPlan ?_); refine Nx.runP (n := 200) rfl (by repeat (first | exact subB.nil _ | refine subB.cons rfl ?_)) ?_; conv => whnf)
        | ((with_reducible refine atAftL ?_); refine Nx.late ?_)
        | ((fail_if_success (with_reducible refine atRet ?_)); (fail_if_success (with_reducible refine atLoop ?_)); (fail_if_success (with_reducible refine atIn ?_)); (fail_if_success (with_reducible refine atDrawn ?_)); (fail_if_success (with_reducible refine atEnd ?_)); (with_reducible refine atRun ?_); refine go 200 ?_; conv => whnf))
    rw [if_neg (by omega)]
    by_cases h3 : x.r.pool < 0 ∧ n.seq ≠ x.r.next - 1
    · rw [if_pos h3]
      refine FnOk.start Try.func46 rfl rfl rfl rfl fun F os tape output => ?_
      refine go 200 ?_
      conv => whnf
      refine Nx.bind (l := 5) (fun _ => ?_) rfl
      repeat' (first
        | ((with_reducible refine atBr ?_); refine BrM.yes (by omega) ?_; conv => whnf)
        | ((with_reducible refine atBr ?_); refine BrM.not (by omega) ?_; conv => whnf)
        | ((with_reducible refine atBr ?_); (first | refine BrM.t rfl ?_ | refine BrM.f rfl ?_ | refine BrM.dec (fun _ => ?_) (fun _ => ?_) | refine BrM.mk (fun _ => ?_) (fun _ => ?_)) <;> conv => whnf)
        | ((with_reducible refine atAr ?_); refine Ar.i64 (by omega) (by omega) ?_; conv => whnf)
        | ((with_reducible refine (atDrawnN 1) ?_); refine Nx.drawn0 [0] [.pure 0, .held 1, .pure 2, .pure 3, .pure 4, .held 5, .pure 6, .pure 7, .pure 8, .pure 9, .held 10, .pure 11, .held 12, .pure 13, .pure 14, .pure 15] rfl (by kernel_rfl) rfl (by kernel_rfl) rfl (by repeat (first | exact subB.nil _ | refine subB.cons rfl ?_)) rfl ?_)
        | ((with_reducible refine (atDrawnN 3) ?_); refine Nx.drawn0 [0] [.pure 0, .pure 1, .pure 2, .held 3, .pure 4, .pure 5, .pure 6, .held 7, .pure 8, .pure 9, .pure 10, .held 11, .pure 12, .pure 13, .pure 14, .pure 15] rfl (by kernel_rfl) rfl (by kernel_rfl) rfl (by repeat (first | exact subB.nil _ | refine subB.cons rfl ?_)) rfl ?_)
        | ((with_reducible refine atHoLoad ?_); first | (refine Nx.hoLoad1 rfl rfl rfl rfl List.mem_cons_self (SeesAt.sub (by assumption) _ rfl) rfl ?_) | (refine Nx.hoLoad1 rfl rfl rfl rfl List.mem_cons_self (by assumption) rfl ?_) | (refine Nx.hoLoad rfl rfl rfl rfl List.mem_cons_self (by assumption) rfl rfl ?_) | (refine Nx.hoLoad1 rfl rfl rfl rfl (List.mem_cons_of_mem _ List.mem_cons_self) (SeesAt.sub (by assumption) _ rfl) rfl ?_) | (refine Nx.hoLoad1 rfl rfl rfl rfl (List.mem_cons_of_mem _ List.mem_cons_self) (by assumption) rfl ?_) | (refine Nx.hoLoad rfl rfl rfl rfl (List.mem_cons_of_mem _ List.mem_cons_self) (by assumption) rfl rfl ?_) | (refine Nx.hoLoad1 rfl rfl rfl rfl (List.mem_cons_of_mem _ (List.mem_cons_of_mem _ List.mem_cons_self)) (SeesAt.sub (by assumption) _ rfl) rfl ?_) | (refine Nx.hoLoad1 rfl rfl rfl rfl (List.mem_cons_of_mem _ (List.mem_cons_of_mem _ List.mem_cons_self)) (by assumption) rfl ?_) | (refine Nx.hoLoad rfl rfl rfl rfl (List.mem_cons_of_mem _ (List.mem_cons_of_mem _ List.mem_cons_self)) (by assumption) rfl rfl ?_) | (refine Nx.hoLoad1 rfl rfl rfl rfl (List.mem_cons_of_mem _ (List.mem_cons_of_mem _ (List.mem_cons_of_mem _ List.mem_cons_self))) (SeesAt.sub (by assumption) _ rfl) rfl ?_) | (refine Nx.hoLoad1 rfl rfl rfl rfl (List.mem_cons_of_mem _ (List.mem_cons_of_mem _ (List.mem_cons_of_mem _ List.mem_cons_self))) (by assumption) rfl ?_) | (refine Nx.hoLoad rfl rfl rfl rfl (List.mem_cons_of_mem _ (List.mem_cons_of_mem _ (List.mem_cons_of_mem _ List.mem_cons_self))) (by assumption) rfl rfl ?_))
        | ((with_reducible refine (atCall 37) ?_); refine Nx.call [] [9] rfl rfl rfl rfl rfl ((wrong_ok _ _ 1)) rfl fun v Q hQ => ?_; obtain ⟨b,rfl,rfl⟩ := hQ)
        | ((with_reducible refine atRet ?_); refine Nx.ret [0,9] Try.func46 rfl rfl ?_; (exact MdQ.yes rfl (by decide)))
        | ((with_reducible refine atOps ?_); refine go 200 ?_; conv => whnf)
        | ((with_reducible refine atPlan ?_); refine Nx.runP (n := 200) rfl (by repeat (first | exact subB.nil _ | refine subB.cons rfl ?_)) ?_; conv => whnf)
        | ((with_reducible refine atAftL ?_); refine Nx.late ?_)
        | ((fail_if_success (with_reducible refine atRet ?_)); (fail_if_success (with_reducible refine atLoop ?_)); (fail_if_success (with_reducible refine atIn ?_)); (fail_if_success (with_reducible refine atDrawn ?_)); (fail_if_success (with_reducible refine atEnd ?_)); (with_reducible refine atRun ?_); refine go 200 ?_; conv => whnf))
    rw [if_neg h3]
    by_cases h4 : x.r.pool < 0
    · have h5 : n.seq = x.r.next - 1 := by omega
      cases he : M.p.event x.r.ring n.seq with
      | none =>
        rw [he] at hev
        rw [if_pos (by rfl)]
        refine FnOk.start Try.func46 rfl rfl rfl rfl fun F os tape output => ?_
        refine go 200 ?_
        conv => whnf
        refine Nx.bind (l := 5) (fun _ => ?_) rfl
        repeat' (first
          | ((with_reducible refine atBr ?_); refine BrM.yes (by omega) ?_; conv => whnf)
          | ((with_reducible refine atBr ?_); refine BrM.not (by omega) ?_; conv => whnf)
          | ((with_reducible refine atBr ?_); (first | refine BrM.t rfl ?_ | refine BrM.f rfl ?_ | refine BrM.dec (fun _ => ?_) (fun _ => ?_) | refine BrM.mk (fun _ => ?_) (fun _ => ?_)) <;> conv => whnf)
          | ((with_reducible refine atAr ?_); refine Ar.i64 (by omega) (by omega) ?_; conv => whnf)
          | ((with_reducible refine (atDrawnN 1) ?_); refine Nx.drawn0 [0] [.pure 0, .held 1, .pure 2, .pure 3, .pure 4, .held 5, .pure 6, .pure 7, .pure 8, .pure 9, .held 10, .pure 11, .held 12, .pure 13, .pure 14, .pure 15] rfl (by kernel_rfl) rfl (by kernel_rfl) rfl (by repeat (first | exact subB.nil _ | refine subB.cons rfl ?_)) rfl ?_)
          | ((with_reducible refine (atDrawnN 3) ?_); refine Nx.drawn0 [0] [.pure 0, .pure 1, .pure 2, .held 3, .pure 4, .pure 5, .pure 6, .held 7, .pure 8, .pure 9, .pure 10, .held 11, .pure 12, .pure 13, .pure 14, .pure 15] rfl (by kernel_rfl) rfl (by kernel_rfl) rfl (by repeat (first | exact subB.nil _ | refine subB.cons rfl ?_)) rfl ?_)
          | ((with_reducible refine (atDrawnN 5) ?_); refine Nx.drawnF [0] [.pure 0, .pure 1, .pure 2, .pure 3, .held 4, .pure 5, .held 6] (PF.alt 7 true (PF.pre [.pure 8, .pure 9, .pure 10, .ex 11 true, .ex 12 false, .pure 13] PF.nil) (PF.alt 11 true (PF.pre [.ex 7 true, .pure 8, .pure 9, .pure 10, .ex 12 false, .pure 13] PF.nil) PF.nil)) rfl (by kernel_rfl) (by kernel_rfl) rfl (by repeat (first | exact subB.nil _ | refine subB.cons rfl ?_)) rfl ?_)
          | ((with_reducible refine atFork ?_); first | exact Nx.forkN | refine Nx.forkE ?_ | refine Nx.forkF ?_ ?_)
          | ((with_reducible refine atAftK ?_); refine Nx.keepN [0] rfl (by repeat (first | exact subB.nil _ | refine subB.cons rfl ?_)) (by repeat (first | exact subM.nil _ | refine subM.cons rfl rfl rfl ?_)) rfl ?_)
          | ((with_reducible refine (atCall 12) ?_); refine Nx.call [0] [0] rfl rfl rfl rfl rfl (hev) rfl fun v Q hQ => ?_; obtain ⟨rfl, rfl⟩ := hQ)
          | ((with_reducible refine atHoLoad ?_); first | (refine Nx.hoLoad1 rfl rfl rfl rfl List.mem_cons_self (SeesAt.sub (by assumption) _ rfl) rfl ?_) | (refine Nx.hoLoad1 rfl rfl rfl rfl List.mem_cons_self (by assumption) rfl ?_) | (refine Nx.hoLoad rfl rfl rfl rfl List.mem_cons_self (by assumption) rfl rfl ?_) | (refine Nx.hoLoad1 rfl rfl rfl rfl (List.mem_cons_of_mem _ List.mem_cons_self) (SeesAt.sub (by assumption) _ rfl) rfl ?_) | (refine Nx.hoLoad1 rfl rfl rfl rfl (List.mem_cons_of_mem _ List.mem_cons_self) (by assumption) rfl ?_) | (refine Nx.hoLoad rfl rfl rfl rfl (List.mem_cons_of_mem _ List.mem_cons_self) (by assumption) rfl rfl ?_) | (refine Nx.hoLoad1 rfl rfl rfl rfl (List.mem_cons_of_mem _ (List.mem_cons_of_mem _ List.mem_cons_self)) (SeesAt.sub (by assumption) _ rfl) rfl ?_) | (refine Nx.hoLoad1 rfl rfl rfl rfl (List.mem_cons_of_mem _ (List.mem_cons_of_mem _ List.mem_cons_self)) (by assumption) rfl ?_) | (refine Nx.hoLoad rfl rfl rfl rfl (List.mem_cons_of_mem _ (List.mem_cons_of_mem _ List.mem_cons_self)) (by assumption) rfl rfl ?_) | (refine Nx.hoLoad1 rfl rfl rfl rfl (List.mem_cons_of_mem _ (List.mem_cons_of_mem _ (List.mem_cons_of_mem _ List.mem_cons_self))) (SeesAt.sub (by assumption) _ rfl) rfl ?_) | (refine Nx.hoLoad1 rfl rfl rfl rfl (List.mem_cons_of_mem _ (List.mem_cons_of_mem _ (List.mem_cons_of_mem _ List.mem_cons_self))) (by assumption) rfl ?_) | (refine Nx.hoLoad rfl rfl rfl rfl (List.mem_cons_of_mem _ (List.mem_cons_of_mem _ (List.mem_cons_of_mem _ List.mem_cons_self))) (by assumption) rfl rfl ?_))
          | ((with_reducible refine (atCall 37) ?_); refine Nx.call [] [9] rfl rfl rfl rfl rfl ((wrong_ok _ _ 3)) rfl fun v Q hQ => ?_; obtain ⟨b,rfl,rfl⟩ := hQ)
          | ((with_reducible refine atRet ?_); refine Nx.ret [0,9] Try.func46 rfl rfl ?_; (exact MdQ.yes rfl (by decide)))
          | ((with_reducible refine atOps ?_); refine go 200 ?_; conv => whnf)
          | ((with_reducible refine atPlan ?_); refine Nx.runP (n := 200) rfl (by repeat (first | exact subB.nil _ | refine subB.cons rfl ?_)) ?_; conv => whnf)
          | ((with_reducible refine atAftL ?_); refine Nx.late ?_)
          | ((fail_if_success (with_reducible refine atRet ?_)); (fail_if_success (with_reducible refine atLoop ?_)); (fail_if_success (with_reducible refine atIn ?_)); (fail_if_success (with_reducible refine atDrawn ?_)); (fail_if_success (with_reducible refine atEnd ?_)); (with_reducible refine atRun ?_); refine go 200 ?_; conv => whnf))
      | some e =>
        rw [he] at hev
        rw [if_neg (by simp)]
        obtain ⟨y, hy⟩ : ∃ y : RdH, y = { x with r := { x.r with cursor := n.seq } } := ⟨_, rfl⟩
        have ep : (M.setR k y).p = M.p.setR k fun r => { r with cursor := n.seq } := MdH.setR_p hx (by rw [hy])
        refine FnOk.start Try.func46 rfl rfl rfl rfl fun F os tape output => ?_
        refine go 200 ?_
        conv => whnf
        refine Nx.bind (l := 5) (fun _ => ?_) rfl
        repeat' (first
          | ((with_reducible refine atBr ?_); refine BrM.yes (by omega) ?_; conv => whnf)
          | ((with_reducible refine atBr ?_); refine BrM.not (by omega) ?_; conv => whnf)
          | ((with_reducible refine atBr ?_); (first | refine BrM.t rfl ?_ | refine BrM.f rfl ?_ | refine BrM.dec (fun _ => ?_) (fun _ => ?_) | refine BrM.mk (fun _ => ?_) (fun _ => ?_)) <;> conv => whnf)
          | ((with_reducible refine atAr ?_); refine Ar.i64 (by omega) (by omega) ?_; conv => whnf)
          | ((with_reducible refine (atDrawnN 1) ?_); refine Nx.drawn0 [0] [.pure 0, .held 1, .pure 2, .pure 3, .pure 4, .held 5, .pure 6, .pure 7, .pure 8, .pure 9, .held 10, .pure 11, .held 12, .pure 13, .pure 14, .pure 15] rfl (by kernel_rfl) rfl (by kernel_rfl) rfl (by repeat (first | exact subB.nil _ | refine subB.cons rfl ?_)) rfl ?_)
          | ((with_reducible refine (atDrawnN 3) ?_); refine Nx.drawn0 [0] [.pure 0, .pure 1, .pure 2, .held 3, .pure 4, .pure 5, .pure 6, .held 7, .pure 8, .pure 9, .pure 10, .held 11, .pure 12, .pure 13, .pure 14, .pure 15] rfl (by kernel_rfl) rfl (by kernel_rfl) rfl (by repeat (first | exact subB.nil _ | refine subB.cons rfl ?_)) rfl ?_)
          | ((with_reducible refine (atDrawnN 5) ?_); refine Nx.drawnF [0] [.pure 0, .pure 1, .pure 2, .pure 3, .held 4, .pure 5, .held 6] (PF.alt 7 true (PF.pre [.pure 8, .pure 9, .pure 10, .ex 11 true, .ex 12 false, .pure 13] PF.nil) (PF.alt 11 true (PF.pre [.ex 7 true, .pure 8, .pure 9, .pure 10, .ex 12 false, .pure 13] PF.nil) PF.nil)) rfl (by kernel_rfl) (by kernel_rfl) rfl (by repeat (first | exact subB.nil _ | refine subB.cons rfl ?_)) rfl ?_)
          | ((with_reducible refine atFork ?_); first | exact Nx.forkN | refine Nx.forkE ?_ | refine Nx.forkF ?_ ?_)
          | ((with_reducible refine atAftK ?_); refine Nx.keepN [0] rfl (by repeat (first | exact subB.nil _ | refine subB.cons rfl ?_)) (by repeat (first | exact subM.nil _ | refine subM.cons rfl rfl rfl ?_)) rfl ?_)
          | ((with_reducible refine (atCall 12) ?_); refine Nx.call [0] [0] rfl rfl rfl rfl rfl (hev) rfl fun v Q hQ => ?_; obtain ⟨rfl, rfl⟩ := hQ)
          | ((with_reducible refine atHoLoad ?_); first | (refine Nx.hoLoad1 rfl rfl rfl rfl List.mem_cons_self (SeesAt.sub (by assumption) _ rfl) rfl ?_) | (refine Nx.hoLoad1 rfl rfl rfl rfl List.mem_cons_self (by assumption) rfl ?_) | (refine Nx.hoLoad rfl rfl rfl rfl List.mem_cons_self (by assumption) rfl rfl ?_) | (refine Nx.hoLoad1 rfl rfl rfl rfl (List.mem_cons_of_mem _ List.mem_cons_self) (SeesAt.sub (by assumption) _ rfl) rfl ?_) | (refine Nx.hoLoad1 rfl rfl rfl rfl (List.mem_cons_of_mem _ List.mem_cons_self) (by assumption) rfl ?_) | (refine Nx.hoLoad rfl rfl rfl rfl (List.mem_cons_of_mem _ List.mem_cons_self) (by assumption) rfl rfl ?_) | (refine Nx.hoLoad1 rfl rfl rfl rfl (List.mem_cons_of_mem _ (List.mem_cons_of_mem _ List.mem_cons_self)) (SeesAt.sub (by assumption) _ rfl) rfl ?_) | (refine Nx.hoLoad1 rfl rfl rfl rfl (List.mem_cons_of_mem _ (List.mem_cons_of_mem _ List.mem_cons_self)) (by assumption) rfl ?_) | (refine Nx.hoLoad rfl rfl rfl rfl (List.mem_cons_of_mem _ (List.mem_cons_of_mem _ List.mem_cons_self)) (by assumption) rfl rfl ?_) | (refine Nx.hoLoad1 rfl rfl rfl rfl (List.mem_cons_of_mem _ (List.mem_cons_of_mem _ (List.mem_cons_of_mem _ List.mem_cons_self))) (SeesAt.sub (by assumption) _ rfl) rfl ?_) | (refine Nx.hoLoad1 rfl rfl rfl rfl (List.mem_cons_of_mem _ (List.mem_cons_of_mem _ (List.mem_cons_of_mem _ List.mem_cons_self))) (by assumption) rfl ?_) | (refine Nx.hoLoad rfl rfl rfl rfl (List.mem_cons_of_mem _ (List.mem_cons_of_mem _ (List.mem_cons_of_mem _ List.mem_cons_self))) (by assumption) rfl rfl ?_))
          | ((with_reducible refine atStore ?_); refine Nx.storeW 0 (M.setR k y).sp rfl rfl rfl rfl rfl rfl rfl rfl rfl (MdH.setR_sp hx (by decide) (by rw [hy]) (by rw [hy]; rfl) (by rw [hy]) (by rw [hy])) ?_)
          | ((with_reducible refine atRet ?_); refine Nx.ret [0] Try.func46 rfl rfl ?_; (exact MdQ.no (M := M.setR k y) rfl ep))
          | ((with_reducible refine atOps ?_); refine go 200 ?_; conv => whnf)
          | ((with_reducible refine atPlan ?_); refine Nx.runP (n := 200) rfl (by repeat (first | exact subB.nil _ | refine subB.cons rfl ?_)) ?_; conv => whnf)
          | ((with_reducible refine atAftL ?_); refine Nx.late ?_)
          | ((fail_if_success (with_reducible refine atRet ?_)); (fail_if_success (with_reducible refine atLoop ?_)); (fail_if_success (with_reducible refine atIn ?_)); (fail_if_success (with_reducible refine atDrawn ?_)); (fail_if_success (with_reducible refine atEnd ?_)); (with_reducible refine atRun ?_); refine go 200 ?_; conv => whnf))
    · cases he : M.p.event x.r.ring n.seq with
      | none =>
        rw [he] at hev
        rw [if_pos (by rfl)]
        refine FnOk.start Try.func46 rfl rfl rfl rfl fun F os tape output => ?_
        refine go 200 ?_
        conv => whnf
        refine Nx.bind (l := 5) (fun _ => ?_) rfl
        repeat' (first
          | ((with_reducible refine atBr ?_); refine BrM.yes (by omega) ?_; conv => whnf)
          | ((with_reducible refine atBr ?_); refine BrM.not (by omega) ?_; conv => whnf)
          | ((with_reducible refine atBr ?_); (first | refine BrM.t rfl ?_ | refine BrM.f rfl ?_ | refine BrM.dec (fun _ => ?_) (fun _ => ?_) | refine BrM.mk (fun _ => ?_) (fun _ => ?_)) <;> conv => whnf)
          | ((with_reducible refine atAr ?_); refine Ar.i64 (by omega) (by omega) ?_; conv => whnf)
          | ((with_reducible refine (atDrawnN 1) ?_); refine Nx.drawn0 [0] [.pure 0, .held 1, .pure 2, .pure 3, .pure 4, .held 5, .pure 6, .pure 7, .pure 8, .pure 9, .held 10, .pure 11, .held 12, .pure 13, .pure 14, .pure 15] rfl (by kernel_rfl) rfl (by kernel_rfl) rfl (by repeat (first | exact subB.nil _ | refine subB.cons rfl ?_)) rfl ?_)
          | ((with_reducible refine (atDrawnN 3) ?_); refine Nx.drawn0 [0] [.pure 0, .pure 1, .pure 2, .held 3, .pure 4, .pure 5, .pure 6, .held 7, .pure 8, .pure 9, .pure 10, .held 11, .pure 12, .pure 13, .pure 14, .pure 15] rfl (by kernel_rfl) rfl (by kernel_rfl) rfl (by repeat (first | exact subB.nil _ | refine subB.cons rfl ?_)) rfl ?_)
          | ((with_reducible refine (atDrawnN 5) ?_); refine Nx.drawnF [0] [.pure 0, .pure 1, .pure 2, .pure 3, .held 4, .pure 5, .held 6] (PF.alt 7 true (PF.pre [.pure 8, .pure 9, .pure 10, .ex 11 true, .ex 12 false, .pure 13] PF.nil) (PF.alt 11 true (PF.pre [.ex 7 true, .pure 8, .pure 9, .pure 10, .ex 12 false, .pure 13] PF.nil) PF.nil)) rfl (by kernel_rfl) (by kernel_rfl) rfl (by repeat (first | exact subB.nil _ | refine subB.cons rfl ?_)) rfl ?_)
          | ((with_reducible refine atFork ?_); first | exact Nx.forkN | refine Nx.forkE ?_ | refine Nx.forkF ?_ ?_)
          | ((with_reducible refine atAftK ?_); refine Nx.keepN [0] rfl (by repeat (first | exact subB.nil _ | refine subB.cons rfl ?_)) (by repeat (first | exact subM.nil _ | refine subM.cons rfl rfl rfl ?_)) rfl ?_)
          | ((with_reducible refine (atCall 12) ?_); refine Nx.call [0] [0] rfl rfl rfl rfl rfl (hev) rfl fun v Q hQ => ?_; obtain ⟨rfl, rfl⟩ := hQ)
          | ((with_reducible refine atHoLoad ?_); first | (refine Nx.hoLoad1 rfl rfl rfl rfl List.mem_cons_self (SeesAt.sub (by assumption) _ rfl) rfl ?_) | (refine Nx.hoLoad1 rfl rfl rfl rfl List.mem_cons_self (by assumption) rfl ?_) | (refine Nx.hoLoad rfl rfl rfl rfl List.mem_cons_self (by assumption) rfl rfl ?_) | (refine Nx.hoLoad1 rfl rfl rfl rfl (List.mem_cons_of_mem _ List.mem_cons_self) (SeesAt.sub (by assumption) _ rfl) rfl ?_) | (refine Nx.hoLoad1 rfl rfl rfl rfl (List.mem_cons_of_mem _ List.mem_cons_self) (by assumption) rfl ?_) | (refine Nx.hoLoad rfl rfl rfl rfl (List.mem_cons_of_mem _ List.mem_cons_self) (by assumption) rfl rfl ?_) | (refine Nx.hoLoad1 rfl rfl rfl rfl (List.mem_cons_of_mem _ (List.mem_cons_of_mem _ List.mem_cons_self)) (SeesAt.sub (by assumption) _ rfl) rfl ?_) | (refine Nx.hoLoad1 rfl rfl rfl rfl (List.mem_cons_of_mem _ (List.mem_cons_of_mem _ List.mem_cons_self)) (by assumption) rfl ?_) | (refine Nx.hoLoad rfl rfl rfl rfl (List.mem_cons_of_mem _ (List.mem_cons_of_mem _ List.mem_cons_self)) (by assumption) rfl rfl ?_) | (refine Nx.hoLoad1 rfl rfl rfl rfl (List.mem_cons_of_mem _ (List.mem_cons_of_mem _ (List.mem_cons_of_mem _ List.mem_cons_self))) (SeesAt.sub (by assumption) _ rfl) rfl ?_) | (refine Nx.hoLoad1 rfl rfl rfl rfl (List.mem_cons_of_mem _ (List.mem_cons_of_mem _ (List.mem_cons_of_mem _ List.mem_cons_self))) (by assumption) rfl ?_) | (refine Nx.hoLoad rfl rfl rfl rfl (List.mem_cons_of_mem _ (List.mem_cons_of_mem _ (List.mem_cons_of_mem _ List.mem_cons_self))) (by assumption) rfl rfl ?_))
          | ((with_reducible refine (atCall 37) ?_); refine Nx.call [] [9] rfl rfl rfl rfl rfl ((wrong_ok _ _ 3)) rfl fun v Q hQ => ?_; obtain ⟨b,rfl,rfl⟩ := hQ)
          | ((with_reducible refine atRet ?_); refine Nx.ret [0,9] Try.func46 rfl rfl ?_; (exact MdQ.yes rfl (by decide)))
          | ((with_reducible refine atOps ?_); refine go 200 ?_; conv => whnf)
          | ((with_reducible refine atPlan ?_); refine Nx.runP (n := 200) rfl (by repeat (first | exact subB.nil _ | refine subB.cons rfl ?_)) ?_; conv => whnf)
          | ((with_reducible refine atAftL ?_); refine Nx.late ?_)
          | ((fail_if_success (with_reducible refine atRet ?_)); (fail_if_success (with_reducible refine atLoop ?_)); (fail_if_success (with_reducible refine atIn ?_)); (fail_if_success (with_reducible refine atDrawn ?_)); (fail_if_success (with_reducible refine atEnd ?_)); (with_reducible refine atRun ?_); refine go 200 ?_; conv => whnf))
      | some e =>
        rw [he] at hev
        rw [if_neg (by simp)]
        obtain ⟨y, hy⟩ : ∃ y : RdH, y = { x with r := { x.r with cursor := n.seq } } := ⟨_, rfl⟩
        have ep : (M.setR k y).p = M.p.setR k fun r => { r with cursor := n.seq } := MdH.setR_p hx (by rw [hy])
        refine FnOk.start Try.func46 rfl rfl rfl rfl fun F os tape output => ?_
        refine go 200 ?_
        conv => whnf
        refine Nx.bind (l := 5) (fun _ => ?_) rfl
        repeat' (first
          | ((with_reducible refine atBr ?_); refine BrM.yes (by omega) ?_; conv => whnf)
          | ((with_reducible refine atBr ?_); refine BrM.not (by omega) ?_; conv => whnf)
          | ((with_reducible refine atBr ?_); (first | refine BrM.t rfl ?_ | refine BrM.f rfl ?_ | refine BrM.dec (fun _ => ?_) (fun _ => ?_) | refine BrM.mk (fun _ => ?_) (fun _ => ?_)) <;> conv => whnf)
          | ((with_reducible refine atAr ?_); refine Ar.i64 (by omega) (by omega) ?_; conv => whnf)
          | ((with_reducible refine (atDrawnN 1) ?_); refine Nx.drawn0 [0] [.pure 0, .held 1, .pure 2, .pure 3, .pure 4, .held 5, .pure 6, .pure 7, .pure 8, .pure 9, .held 10, .pure 11, .held 12, .pure 13, .pure 14, .pure 15] rfl (by kernel_rfl) rfl (by kernel_rfl) rfl (by repeat (first | exact subB.nil _ | refine subB.cons rfl ?_)) rfl ?_)
          | ((with_reducible refine (atDrawnN 3) ?_); refine Nx.drawn0 [0] [.pure 0, .pure 1, .pure 2, .held 3, .pure 4, .pure 5, .pure 6, .held 7, .pure 8, .pure 9, .pure 10, .held 11, .pure 12, .pure 13, .pure 14, .pure 15] rfl (by kernel_rfl) rfl (by kernel_rfl) rfl (by repeat (first | exact subB.nil _ | refine subB.cons rfl ?_)) rfl ?_)
          | ((with_reducible refine (atDrawnN 5) ?_); refine Nx.drawnF [0] [.pure 0, .pure 1, .pure 2, .pure 3, .held 4, .pure 5, .held 6] (PF.alt 7 true (PF.pre [.pure 8, .pure 9, .pure 10, .ex 11 true, .ex 12 false, .pure 13] PF.nil) (PF.alt 11 true (PF.pre [.ex 7 true, .pure 8, .pure 9, .pure 10, .ex 12 false, .pure 13] PF.nil) PF.nil)) rfl (by kernel_rfl) (by kernel_rfl) rfl (by repeat (first | exact subB.nil _ | refine subB.cons rfl ?_)) rfl ?_)
          | ((with_reducible refine atFork ?_); first | exact Nx.forkN | refine Nx.forkE ?_ | refine Nx.forkF ?_ ?_)
          | ((with_reducible refine atAftK ?_); refine Nx.keepN [0] rfl (by repeat (first | exact subB.nil _ | refine subB.cons rfl ?_)) (by repeat (first | exact subM.nil _ | refine subM.cons rfl rfl rfl ?_)) rfl ?_)
          | ((with_reducible refine (atCall 12) ?_); refine Nx.call [0] [0] rfl rfl rfl rfl rfl (hev) rfl fun v Q hQ => ?_; obtain ⟨rfl, rfl⟩ := hQ)
          | ((with_reducible refine atHoLoad ?_); first | (refine Nx.hoLoad1 rfl rfl rfl rfl List.mem_cons_self (SeesAt.sub (by assumption) _ rfl) rfl ?_) | (refine Nx.hoLoad1 rfl rfl rfl rfl List.mem_cons_self (by assumption) rfl ?_) | (refine Nx.hoLoad rfl rfl rfl rfl List.mem_cons_self (by assumption) rfl rfl ?_) | (refine Nx.hoLoad1 rfl rfl rfl rfl (List.mem_cons_of_mem _ List.mem_cons_self) (SeesAt.sub (by assumption) _ rfl) rfl ?_) | (refine Nx.hoLoad1 rfl rfl rfl rfl (List.mem_cons_of_mem _ List.mem_cons_self) (by assumption) rfl ?_) | (refine Nx.hoLoad rfl rfl rfl rfl (List.mem_cons_of_mem _ List.mem_cons_self) (by assumption) rfl rfl ?_) | (refine Nx.hoLoad1 rfl rfl rfl rfl (List.mem_cons_of_mem _ (List.mem_cons_of_mem _ List.mem_cons_self)) (SeesAt.sub (by assumption) _ rfl) rfl ?_) | (refine Nx.hoLoad1 rfl rfl rfl rfl (List.mem_cons_of_mem _ (List.mem_cons_of_mem _ List.mem_cons_self)) (by assumption) rfl ?_) | (refine Nx.hoLoad rfl rfl rfl rfl (List.mem_cons_of_mem _ (List.mem_cons_of_mem _ List.mem_cons_self)) (by assumption) rfl rfl ?_) | (refine Nx.hoLoad1 rfl rfl rfl rfl (List.mem_cons_of_mem _ (List.mem_cons_of_mem _ (List.mem_cons_of_mem _ List.mem_cons_self))) (SeesAt.sub (by assumption) _ rfl) rfl ?_) | (refine Nx.hoLoad1 rfl rfl rfl rfl (List.mem_cons_of_mem _ (List.mem_cons_of_mem _ (List.mem_cons_of_mem _ List.mem_cons_self))) (by assumption) rfl ?_) | (refine Nx.hoLoad rfl rfl rfl rfl (List.mem_cons_of_mem _ (List.mem_cons_of_mem _ (List.mem_cons_of_mem _ List.mem_cons_self))) (by assumption) rfl rfl ?_))
          | ((with_reducible refine atStore ?_); refine Nx.storeW 0 (M.setR k y).sp rfl rfl rfl rfl rfl rfl rfl rfl rfl (MdH.setR_sp hx (by decide) (by rw [hy]) (by rw [hy]; rfl) (by rw [hy]) (by rw [hy])) ?_)
          | ((with_reducible refine atRet ?_); refine Nx.ret [0] Try.func46 rfl rfl ?_; (exact MdQ.no (M := M.setR k y) rfl ep))
          | ((with_reducible refine atOps ?_); refine go 200 ?_; conv => whnf)
          | ((with_reducible refine atPlan ?_); refine Nx.runP (n := 200) rfl (by repeat (first | exact subB.nil _ | refine subB.cons rfl ?_)) ?_; conv => whnf)
          | ((with_reducible refine atAftL ?_); refine Nx.late ?_)
          | ((fail_if_success (with_reducible refine atRet ?_)); (fail_if_success (with_reducible refine atLoop ?_)); (fail_if_success (with_reducible refine atIn ?_)); (fail_if_success (with_reducible refine atDrawn ?_)); (fail_if_success (with_reducible refine atEnd ?_)); (with_reducible refine atRun ?_); refine go 200 ?_; conv => whnf))
  · rw [if_pos (.inl h1)]
    refine FnOk.start Try.func46 rfl rfl rfl rfl fun F os tape output => ?_
    refine go 200 ?_
    conv => whnf
    refine Nx.bind (l := 5) (fun _ => ?_) rfl
    repeat' (first
      | ((with_reducible refine atBr ?_); refine BrM.yes (by omega) ?_; conv => whnf)
      | ((with_reducible refine atBr ?_); refine BrM.not (by omega) ?_; conv => whnf)
      | ((with_reducible refine atBr ?_); (first | refine BrM.t rfl ?_ | refine BrM.f rfl ?_ | refine BrM.dec (fun _ => ?_) (fun _ => ?_) | refine BrM.mk (fun _ => ?_) (fun _ => ?_)) <;> conv => whnf)
      | ((with_reducible refine atAr ?_); refine Ar.i64 (by omega) (by omega) ?_; conv => whnf)
      | ((with_reducible refine (atDrawnN 1) ?_); refine Nx.drawn0 [0] [.pure 0, .held 1, .pure 2, .pure 3, .pure 4, .held 5, .pure 6, .pure 7, .pure 8, .pure 9, .held 10, .pure 11, .held 12, .pure 13, .pure 14, .pure 15] rfl (by kernel_rfl) rfl (by kernel_rfl) rfl (by repeat (first | exact subB.nil _ | refine subB.cons rfl ?_)) rfl ?_)
      | ((with_reducible refine atHoLoad ?_); first | (refine Nx.hoLoad1 rfl rfl rfl rfl List.mem_cons_self (SeesAt.sub (by assumption) _ rfl) rfl ?_) | (refine Nx.hoLoad1 rfl rfl rfl rfl List.mem_cons_self (by assumption) rfl ?_) | (refine Nx.hoLoad rfl rfl rfl rfl List.mem_cons_self (by assumption) rfl rfl ?_) | (refine Nx.hoLoad1 rfl rfl rfl rfl (List.mem_cons_of_mem _ List.mem_cons_self) (SeesAt.sub (by assumption) _ rfl) rfl ?_) | (refine Nx.hoLoad1 rfl rfl rfl rfl (List.mem_cons_of_mem _ List.mem_cons_self) (by assumption) rfl ?_) | (refine Nx.hoLoad rfl rfl rfl rfl (List.mem_cons_of_mem _ List.mem_cons_self) (by assumption) rfl rfl ?_) | (refine Nx.hoLoad1 rfl rfl rfl rfl (List.mem_cons_of_mem _ (List.mem_cons_of_mem _ List.mem_cons_self)) (SeesAt.sub (by assumption) _ rfl) rfl ?_) | (refine Nx.hoLoad1 rfl rfl rfl rfl (List.mem_cons_of_mem _ (List.mem_cons_of_mem _ List.mem_cons_self)) (by assumption) rfl ?_) | (refine Nx.hoLoad rfl rfl rfl rfl (List.mem_cons_of_mem _ (List.mem_cons_of_mem _ List.mem_cons_self)) (by assumption) rfl rfl ?_) | (refine Nx.hoLoad1 rfl rfl rfl rfl (List.mem_cons_of_mem _ (List.mem_cons_of_mem _ (List.mem_cons_of_mem _ List.mem_cons_self))) (SeesAt.sub (by assumption) _ rfl) rfl ?_) | (refine Nx.hoLoad1 rfl rfl rfl rfl (List.mem_cons_of_mem _ (List.mem_cons_of_mem _ (List.mem_cons_of_mem _ List.mem_cons_self))) (by assumption) rfl ?_) | (refine Nx.hoLoad rfl rfl rfl rfl (List.mem_cons_of_mem _ (List.mem_cons_of_mem _ (List.mem_cons_of_mem _ List.mem_cons_self))) (by assumption) rfl rfl ?_))
      | ((with_reducible refine (atCall 37) ?_); refine Nx.call [] [9] rfl rfl rfl rfl rfl ((wrong_ok _ _ 1)) rfl fun v Q hQ => ?_; obtain ⟨b,rfl,rfl⟩ := hQ)
      | ((with_reducible refine atRet ?_); refine Nx.ret [0,9] Try.func46 rfl rfl ?_; (exact MdQ.yes rfl (by decide)))
      | ((with_reducible refine atOps ?_); refine go 200 ?_; conv => whnf)
      | ((with_reducible refine atPlan ?_); refine Nx.runP (n := 200) rfl (by repeat (first | exact subB.nil _ | refine subB.cons rfl ?_)) ?_; conv => whnf)
      | ((with_reducible refine atAftL ?_); refine Nx.late ?_)
      | ((fail_if_success (with_reducible refine atRet ?_)); (fail_if_success (with_reducible refine atLoop ?_)); (fail_if_success (with_reducible refine atIn ?_)); (fail_if_success (with_reducible refine atDrawn ?_)); (fail_if_success (with_reducible refine atEnd ?_)); (with_reducible refine atRun ?_); refine go 200 ?_; conv => whnf))
end Go.Proofs.Ytngfadijcpnblaa

/- Rules: the exact address of an element of a slice of the call's own; a store of two cells. -/
namespace Go.Proofs.Ytngfadijcpnblaa
open Go.RowKit
section
variable {g : Cx} {β : Nat → Nat} {env : Env} {mem : Mem} {bnd : Bnd} {L : Res} {a : Act} {w : World} {N : Act → World → Prop} {Q : Exit → Act → World → Prop}
/-- A look that reckons the address of an element of a slice of the call's own. -/
theorem Nx.hoIdxT (nm : Nat) {o : Oper} {t e e2 : TypeId} {x i : Operand} {A : Option Addr} {n c : Nat} {kk : IntKind} {iv : Int} {L' : Res} {sz j by_ : Nat} {cells : List Value} {T : World → Prop}
    (ho : o.op = .indexAddr t x i) (hx : ev env x = some (.c (.v (.slice A n c)))) (hi : ev env i = some (.c (.v (.int kk iv)))) (ht : g.P.underlying t = some (.slice e)) (he : elemI g.P e = some (sz, by_)) (hd : dstOk g.n o.dst = true)
    (hp : takeR nm L = some (ownT e2 A n c sz cells, L')) (hj : iv = j) (hlt : j < n)
    (hk : ∀ b p, A = some ⟨b, p, none⟩ → Nx g (putE o.dst (.c (.v (.pointer (some ⟨b, p + j * sz, none⟩)))) env) mem bnd L N) : Nx g env mem bnd L (HoC g T o N) := by
  subst hj
  intro β a w hr
  obtain ⟨ei, zz, hei, hz, hzs, hpos, hez, hby⟩ := elemI_ok he
  obtain ⟨r, h, x1, x2, x3, r1, h1', h2', y1, y2, y3, y4, ⟨q1, q2, q3, q4⟩, y6⟩ := hr.picked (takeR_pick hp)
  rcases q4 with ⟨q4, _⟩ | ⟨b, p, cur, hA, _, _, _⟩
  · omega
  subst hA
  refine ⟨.pointer (some ⟨b, p + j * sz, none⟩), fun w' _ => ?_, hk b p rfl β _ w (hr.put o.dst (.c (.v (.pointer (some ⟨b, p + j * sz, none⟩)))) hd)⟩
  have e1 : a.eval x = .slice (some ⟨b, p, none⟩) n c := hr.ev hx
  have e2 : a.eval i = .int kk j := hr.ev hi
  have e3 : (j : Int) < n := by omega
  simp [execOp, ho, e1, e2, Instr.indexAt, asIntOf, run_underlying ht, sizeOf, typeInfo, hei, hez, add_plain']
  intro hbad
  omega
/-- A store of two cells. -/
theorem Nx.storeW2 (nm : Nat) {S S1 : SP} (S' : SP) {o : Oper} {t : TypeId} {x z : Operand} {b q : Nat} {L' : Res} {s : SV} {y1 y2 : Value} {cs : List Ce}
    (ho : o.op = .store t x z) (hx : ev env x = some (.c (.v (.pointer (some ⟨b, q, none⟩))))) (hz : ev env z = some s) (hcs : cellsS s = some cs) (hv : cesV bnd cs = some [y1, y2]) (ht : (g.P.info? t).map (·.size) = some 2)
    (hone1 : y1.oneCell' = true) (hone2 : y2.oneCell' = true) (hd : dstOk g.n o.dst = true) (hp : takeR nm L = some (S, L')) (hs1 : SetAt S b q y1 S1) (hs2 : SetAt S1 b (q + 1) y2 S')
    (hk : Nx g (putE o.dst (.c (.v undef)) env) mem bnd ((nm, S') :: L') N) : Nx g env mem bnd L (OneC g o N Q) := by
  intro β a w hr
  obtain ⟨⟨cs1, tt, hb, hlt⟩, hsat1⟩ := (hr.picked (takeR_pick hp)).setAt hs1
  obtain ⟨⟨cs2, tt2, hb2, hlt2⟩, hsat⟩ := SatW.setAt hsat1 hs2
  have hcs2 : cs2 = cs1.setIfInBounds q y1 ∧ tt2 = tt := by
    have : (w.setCell ⟨b, q, none⟩ y1).heap[b]? = some (.cells (cs1.setIfInBounds q y1) tt (0, 0)) := by
      unfold World.setCell
      simp [Array.getElem?_modify, hb]
    rw [this] at hb2
    simp only [Option.some.injEq, Obj.cells.injEq] at hb2
    exact ⟨hb2.1.symm, hb2.2.1.symm⟩
  obtain ⟨rfl, rfl⟩ := hcs2
  have hlt2' : q + 1 < cs1.size := by simpa using hlt2
  obtain ⟨i, hi, hsz⟩ : ∃ i, g.P.info? t = some i ∧ i.size = 2 := by
    cases hi : g.P.info? t with
    | none => rw [hi] at ht; cases ht
    | some i => rw [hi] at ht; exact ⟨i, rfl, by simpa using ht⟩
  have hcells : (s.den β).cells = #[y1, y2] := by
    rw [cellsS_den hcs β]
    unfold cellsOf
    rw [cesV_den hr.bnd hv]
  have e1 : a.eval x = .pointer (some ⟨b, q, none⟩) := hr.ev hx
  have e2 : a.eval z = s.den β := hr.ev hz
  have hst := run_storeCells_cells (P := g.P) b q [y1, y2] 0 w (fun j hj => by
    have hj2 : j < 2 := hj
    have : q + 0 + j < cs1.size := by omega
    unfold World.cell?
    simp only
    rw [hb]
    simp only [if_true]
    rw [Array.getElem?_eq_getElem this]
    rfl) (fun j hj => by
    unfold World.frozen?
    simp only
    rw [hb]
    simp) (fun v hv => by
    simp only [List.mem_cons, List.mem_nil_iff, or_false] at hv
    rcases hv with rfl | rfl
    · exact hone1
    · exact hone2)
  have hrun : (storeCells ⟨b, q, none⟩ [y1, y2]).run g.P w = .ok () ((w.setCell ⟨b, q, none⟩ y1).setCell ⟨b, q + 1, none⟩ y2) := by
    simpa [storeCells, World.setCells] using hst
  have h5 : SatW ([S'] ++ (memSP β mem ++ (L'.map (·.2) ++ g.F))) ((w.setCell ⟨b, q, none⟩ y1).setCell ⟨b, q + 1, none⟩ y2) := hsat
  refine wp_skip' (w' := (w.setCell ⟨b, q, none⟩ y1).setCell ⟨b, q + 1, none⟩ y2) ?_ (hk β _ _ ((hr.unpicked (ns := [nm]) (Ps := [_]) h5 rfl rfl rfl).put o.dst (.c (.v undef)) hd))
  have e3 : (s.den β).cells.size = i.size := by rw [hcells, hsz]; rfl
  have e4 : (s.den β).cells.toList = [y1, y2] := by rw [hcells]
  simp [execOp, ho, e1, e2, Instr.storeAt, Instr.sureAddr, storeVar, sizeOf, typeInfo, hi, e3, e4, hrun]
/-- A slice of the call's own whose block's number is known. -/
theorem Nx.realS (s : Nat) {l o n c b : Nat} (hl : look env s = some (.c (.locs l o n c))) (hb : lookB bnd l = some b) (h : Nx g ((s, .c (.v (.slice (some ⟨b, o, none⟩) n c))) :: env) mem bnd L N) : Nx g env mem bnd L N := by
  intro β a w hr
  refine h β a w ⟨hr.defers, hr.size, fun k x hx => ?_, hr.bnd, hr.os, hr.tape, hr.output, hr.sat⟩
  rw [look_cons] at hx
  split at hx
  · rename_i e
    subst e
    cases hx
    have := hr.env _ _ hl
    rw [this]
    simp only [SV.den, Ce.den, hr.bnd l b hb]
  · exact hr.env k x hx
end
theorem own_blk {e : TypeId} {b : Nat} {cells : List Value} (h : cells.length ≤ maxLen) : ∀ r m, blk b (.cells cells.toArray e (0, 0)) r m → ownS e (some ⟨b, 0, none⟩) cells.length cells.length 1 cells r m := by
  intro r m hb
  refine ⟨by simp, .inr ⟨_, _, rfl, hb, Nat.le_refl _, h, by simp, by rw [Nat.mul_one]; exact List.take_of_length_le (by simp)⟩⟩
end Go.Proofs.Ytngfadijcpnblaa

/- The program's model: put. -/
namespace Go.Proofs.Ytngfadijcpnblaa
open Go.RowKit
set_option maxRecDepth 20000
set_option maxHeartbeats 4000000
theorem evC_set : ∀ (l : List Ev) (i : Nat) (e : Ev), ((l.flatMap evC).set (i * 2) (.int .i64 e.key)).set (i * 2 + 1) (.int .i64 e.val) = if i < l.length then (l.set i e).flatMap evC else l.flatMap evC
  | [], i, e => by simp
  | a :: l, 0, e => by simp [evC]
  | a :: l, i + 1, e => by
    have h := evC_set l i e
    have e1 : (i + 1) * 2 = i * 2 + 2 := by omega
    have e2 : (a :: l).flatMap evC = Value.int .i64 a.key :: Value.int .i64 a.val :: l.flatMap evC := rfl
    rw [e1, e2]
    have e3 : i * 2 + 2 + 1 = (i * 2 + 1) + 2 := by omega
    rw [e3]
    simp only [List.set_cons_succ, h]
    by_cases hi : i < l.length
    · rw [if_pos hi, if_pos (by simpa using hi)]; rfl
    · rw [if_neg hi, if_neg (by simpa using hi)]
theorem boC_set : ∀ (l : List Bool) (i : Nat) (b : Bool), (l.flatMap boC).set (i * 1) (.bool b) = (l.set i b).flatMap boC
  | [], i, e => by simp
  | a :: l, 0, e => by simp [boC]
  | a :: l, i + 1, e => by
    have h := boC_set l i e
    rw [Nat.mul_one] at h ⊢
    have e2 : (a :: l).flatMap boC = Value.bool a :: l.flatMap boC := rfl
    rw [e2]
    simp only [List.set_cons_succ, h]
    rfl
structure PutX where
  X : LogH
  j : Nat
attribute [local irreducible] Nx Ar BrM
theorem put_ok (x : LogH) (hl : x.g.there.length = x.g.l.length) (h2m : x.g.l.length ≤ 2100000) (i : Nat) (hi : i ≤ 2100000) (e : Ev) :
    FnOk Try.prog 67 [ptr x.b, .int .i64 i, .agg #[.int .i64 e.key, .int .i64 e.val]] [x.sp] (fun _ Q => ∃ x' : LogH, x'.b = x.b ∧ x'.g = x.g.put i e ∧ Q = [x'.sp]) := by
  refine FnOk.start Try.func67 rfl rfl rfl rfl fun F os tape output => ?_
  refine go 200 ?_
  conv => whnf
  refine Nx.bind (l := 5) (fun b5 => ?_) rfl
  refine Nx.turn [0] [11, 12, 13] [blk x.b (.cells x.cells.toArray 90 (0, 0)), ownT 39 x.lA x.g.l.length x.lc 2 (x.g.l.flatMap evC), ownT 4 x.tA x.g.there.length x.tc 1 (x.g.there.flatMap boC)] rfl sat_unstar ?_
  refine Nx.loop (X := PutX) (fun z => z.j ≤ i + 1 - x.g.l.length ∧ z.X.b = x.b ∧ z.X.g = ⟨x.g.size, x.g.many, x.g.l ++ List.replicate z.j ⟨0, 0⟩, x.g.there ++ List.replicate z.j false⟩) (fun z => i + 1 - x.g.l.length - z.j)
    (fun z => [(0, .c (.v (ptr x.b))), (1, iv i), (5, .c (.loc 5 0))]) (fun _ => [(5, 39, [.v (.int .i64 e.key), .v (.int .i64 e.val)])]) [(5, b5)]
    (fun z => [(11, blk x.b (.cells z.X.cells.toArray 90 (0, 0))), (12, ownT 39 z.X.lA z.X.g.l.length z.X.lc 2 (z.X.g.l.flatMap evC)), (13, ownT 4 z.X.tA z.X.g.there.length z.X.tc 1 (z.X.g.there.flatMap boC))]) ⟨x, 0⟩ ⟨Nat.zero_le _, rfl, by simp⟩ ?_ ?_ ?_ ?_ ?_
  · repeat (first | exact subE.nil _ | refine subE.cons rfl rfl ?_ | refine subE.cons' rfl (fun _ => rfl) ?_)
  · repeat (first | exact subM.nil _ | refine subM.cons rfl rfl rfl ?_)
  · repeat (first | exact subB.nil _ | refine subB.cons rfl ?_)
  · repeat (first | exact subR.nil _ | refine subR.cons rfl rfl ?_)
  intro ⟨X, j⟩ ⟨hj, hb, hg⟩ ih
  dsimp only at hj hb hg ih ⊢
  have gl : X.g.l.length = x.g.l.length + j := by rw [hg]; simp
  have gt : X.g.there.length = X.g.l.length := by rw [hg]; simp [hl]
  have hB : SeesAt (blk x.b (.cells X.cells.toArray 90 (0, 0))) x.b 0 X.cells := blk_at _ _ _
  have b2 := hB.sub 2 rfl
  have b3 := hB.sub 3 rfl
  clear hB
  by_cases hlt : X.g.l.length ≤ i
  · repeat' (first
      | ((with_reducible refine atBr ?_); refine BrM.yes (by omega) ?_; conv => whnf)
      | ((with_reducible refine atBr ?_); (first | refine BrM.t rfl ?_ | refine BrM.f rfl ?_ | refine BrM.dec (fun _ => ?_) (fun _ => ?_) | refine BrM.mk (fun _ => ?_) (fun _ => ?_)) <;> conv => whnf)
      | ((with_reducible refine atAr ?_); refine Ar.i64 (by omega) (by omega) ?_; conv => whnf)
      | ((with_reducible refine atLoad ?_); refine Nx.load1 11 rfl rfl rfl rfl (b2) rfl ?_)
      | ((with_reducible refine (atDrawnN 2) ?_); refine Nx.drawnF [11] [.pure 0, .pure 1, .pure 2, .pure 3, .pure 4, .held 5, .pure 6, .pure 9, .pure 10, .pure 11, .held 12] (PF.alt 7 true (PF.pre [] (PF.alt 8 true (PF.pre [.ex 13 true, .ex 14 true, .pure 15, .pure 16, .ex 17 false, .pure 18, .pure 19, .ex 20 false] PF.nil) (PF.alt 13 true (PF.pre [.ex 8 true, .ex 14 true, .pure 15, .pure 16, .ex 17 false, .pure 18, .pure 19, .ex 20 false] PF.nil) PF.nil))) (PF.alt 13 true (PF.pre [.ex 7 true, .ex 8 true, .ex 14 true, .pure 15, .pure 16, .ex 17 false, .pure 18, .pure 19, .ex 20 false] PF.nil) PF.nil)) rfl (by kernel_rfl) (by kernel_rfl) rfl (by repeat (first | exact subB.nil _ | refine subB.cons rfl ?_)) rfl ?_)
      | ((with_reducible refine atHoLoad ?_); first | (refine Nx.hoLoad1 rfl rfl rfl rfl List.mem_cons_self (SeesAt.sub (by assumption) _ rfl) rfl ?_) | (refine Nx.hoLoad1 rfl rfl rfl rfl List.mem_cons_self (by assumption) rfl ?_) | (refine Nx.hoLoad rfl rfl rfl rfl List.mem_cons_self (by assumption) rfl rfl ?_) | (refine Nx.hoLoad1 rfl rfl rfl rfl (List.mem_cons_of_mem _ List.mem_cons_self) (SeesAt.sub (by assumption) _ rfl) rfl ?_) | (refine Nx.hoLoad1 rfl rfl rfl rfl (List.mem_cons_of_mem _ List.mem_cons_self) (by assumption) rfl ?_) | (refine Nx.hoLoad rfl rfl rfl rfl (List.mem_cons_of_mem _ List.mem_cons_self) (by assumption) rfl rfl ?_) | (refine Nx.hoLoad1 rfl rfl rfl rfl (List.mem_cons_of_mem _ (List.mem_cons_of_mem _ List.mem_cons_self)) (SeesAt.sub (by assumption) _ rfl) rfl ?_) | (refine Nx.hoLoad1 rfl rfl rfl rfl (List.mem_cons_of_mem _ (List.mem_cons_of_mem _ List.mem_cons_self)) (by assumption) rfl ?_) | (refine Nx.hoLoad rfl rfl rfl rfl (List.mem_cons_of_mem _ (List.mem_cons_of_mem _ List.mem_cons_self)) (by assumption) rfl rfl ?_) | (refine Nx.hoLoad1 rfl rfl rfl rfl (List.mem_cons_of_mem _ (List.mem_cons_of_mem _ (List.mem_cons_of_mem _ List.mem_cons_self))) (SeesAt.sub (by assumption) _ rfl) rfl ?_) | (refine Nx.hoLoad1 rfl rfl rfl rfl (List.mem_cons_of_mem _ (List.mem_cons_of_mem _ (List.mem_cons_of_mem _ List.mem_cons_self))) (by assumption) rfl ?_) | (refine Nx.hoLoad rfl rfl rfl rfl (List.mem_cons_of_mem _ (List.mem_cons_of_mem _ (List.mem_cons_of_mem _ List.mem_cons_self))) (by assumption) rfl rfl ?_))
      | ((with_reducible refine atFork ?_); first | exact Nx.forkN | refine Nx.forkE ?_ | refine Nx.forkF ?_ ?_)
      | ((with_reducible refine atAftK ?_); refine Nx.keepN [11] rfl (by repeat (first | exact subB.nil _ | refine subB.cons rfl ?_)) (by repeat (first | exact subM.nil _ | refine subM.cons rfl rfl rfl ?_)) rfl ?_)
      | ((with_reducible refine atApp ?_); refine Nx.appendT 12 (sz := 2) (by_ := 16) (news := [.int .i64 0, .int .i64 0]) rfl rfl rfl rfl rfl Try.underlying36 rfl rfl rfl rfl rfl (by decide) (by unfold maxLen; omega) (by omega) fun Bl bl => ?_)
      | ((with_reducible refine atApp ?_); refine Nx.appendT 13 (sz := 1) (by_ := 1) (news := [.bool false]) rfl rfl rfl rfl rfl Try.underlying88 rfl rfl rfl rfl rfl (by decide) (by unfold maxLen; omega) (by omega) fun Bt bt => ?_)
      | ((with_reducible refine atStore ?_); refine Nx.storeW 11 _ rfl rfl rfl rfl rfl rfl rfl rfl rfl (blk_set (by first | (show 2 < 4; decide) | (show 3 < 4; decide))) ?_)
      | ((with_reducible refine atOps ?_); refine go 200 ?_; conv => whnf)
      | ((with_reducible refine atPlan ?_); refine Nx.runP (n := 200) rfl (by repeat (first | exact subB.nil _ | refine subB.cons rfl ?_)) ?_; conv => whnf)
      | ((with_reducible refine atAftL ?_); refine Nx.late ?_)
      | ((fail_if_success (with_reducible refine atRet ?_)); (fail_if_success (with_reducible refine atLoop ?_)); (fail_if_success (with_reducible refine atIn ?_)); (fail_if_success (with_reducible refine atDrawn ?_)); (fail_if_success (with_reducible refine atEnd ?_)); (with_reducible refine atRun ?_); refine go 200 ?_; conv => whnf))
    all_goals
      obtain ⟨Y, hY⟩ : ∃ Y : LogH, Y = ⟨X.b, ⟨X.g.size, X.g.many, X.g.l ++ [⟨0, 0⟩], X.g.there ++ [false]⟩, Bl, bl, Bt, bt⟩ := ⟨_, rfl⟩
      refine Nx.turn [11, 12, 13] [11, 12, 13] [blk x.b (.cells Y.cells.toArray 90 (0, 0)), ownT 39 Y.lA Y.g.l.length Y.lc 2 (Y.g.l.flatMap evC), ownT 4 Y.tA Y.g.there.length Y.tc 1 (Y.g.there.flatMap boC)] rfl (fun r h hs => by
        rw [hY]
        simp only [LogH.cells, List.flatMap_append, List.flatMap_cons, List.flatMap_nil, List.length_append, List.length_singleton, List.append_nil]
        exact hs) ?_
      refine (ih ⟨Y, j + 1⟩ ⟨by dsimp only; omega, by rw [hY]; exact hb, by rw [hY]; dsimp only; rw [hg]; simp only [List.replicate_succ', List.append_assoc]⟩ (by dsimp only; omega)).weak ?_ ?_ ?_ ?_
      · repeat (first | exact subE.nil _ | refine subE.cons rfl rfl ?_ | refine subE.cons' rfl (fun _ => rfl) ?_)
      · repeat (first | exact subM.nil _ | refine subM.cons rfl rfl rfl ?_)
      · repeat (first | exact subB.nil _ | refine subB.cons rfl ?_)
      · repeat (first | exact subR.nil _ | refine subR.cons rfl rfl ?_)
  · have ej : j = i + 1 - x.g.l.length := by omega
    have hin : i < X.g.l.length := by omega
    repeat' (first
      | ((with_reducible refine atBr ?_); refine BrM.not (by omega) ?_; conv => whnf)
      | ((with_reducible refine atBr ?_); (first | refine BrM.t rfl ?_ | refine BrM.f rfl ?_ | refine BrM.dec (fun _ => ?_) (fun _ => ?_) | refine BrM.mk (fun _ => ?_) (fun _ => ?_)) <;> conv => whnf)
      | ((with_reducible refine atAr ?_); refine Ar.i64 (by omega) (by omega) ?_; conv => whnf)
      | ((with_reducible refine atLoad ?_); refine Nx.load1 11 rfl rfl rfl rfl (b2) rfl ?_)
      | ((with_reducible refine (atDrawnN 3) ?_); refine Nx.drawn0 [11] [.pure 0, .pure 1, .pure 2, .held 3, .pure 4, .pure 5, .pure 6, .pure 7, .held 8, .pure 9, .held 10, .pure 11, .ex 12 false, .pure 13, .ex 14 false] rfl (by kernel_rfl) rfl (by kernel_rfl) rfl (by repeat (first | exact subB.nil _ | refine subB.cons rfl ?_)) rfl ?_)
      | ((with_reducible refine atHoLoad ?_); first | (refine Nx.hoLoad1 rfl rfl rfl rfl List.mem_cons_self (SeesAt.sub (by assumption) _ rfl) rfl ?_) | (refine Nx.hoLoad1 rfl rfl rfl rfl List.mem_cons_self (by assumption) rfl ?_) | (refine Nx.hoLoad rfl rfl rfl rfl List.mem_cons_self (by assumption) rfl rfl ?_) | (refine Nx.hoLoad1 rfl rfl rfl rfl (List.mem_cons_of_mem _ List.mem_cons_self) (SeesAt.sub (by assumption) _ rfl) rfl ?_) | (refine Nx.hoLoad1 rfl rfl rfl rfl (List.mem_cons_of_mem _ List.mem_cons_self) (by assumption) rfl ?_) | (refine Nx.hoLoad rfl rfl rfl rfl (List.mem_cons_of_mem _ List.mem_cons_self) (by assumption) rfl rfl ?_) | (refine Nx.hoLoad1 rfl rfl rfl rfl (List.mem_cons_of_mem _ (List.mem_cons_of_mem _ List.mem_cons_self)) (SeesAt.sub (by assumption) _ rfl) rfl ?_) | (refine Nx.hoLoad1 rfl rfl rfl rfl (List.mem_cons_of_mem _ (List.mem_cons_of_mem _ List.mem_cons_self)) (by assumption) rfl ?_) | (refine Nx.hoLoad rfl rfl rfl rfl (List.mem_cons_of_mem _ (List.mem_cons_of_mem _ List.mem_cons_self)) (by assumption) rfl rfl ?_) | (refine Nx.hoLoad1 rfl rfl rfl rfl (List.mem_cons_of_mem _ (List.mem_cons_of_mem _ (List.mem_cons_of_mem _ List.mem_cons_self))) (SeesAt.sub (by assumption) _ rfl) rfl ?_) | (refine Nx.hoLoad1 rfl rfl rfl rfl (List.mem_cons_of_mem _ (List.mem_cons_of_mem _ (List.mem_cons_of_mem _ List.mem_cons_self))) (by assumption) rfl ?_) | (refine Nx.hoLoad rfl rfl rfl rfl (List.mem_cons_of_mem _ (List.mem_cons_of_mem _ (List.mem_cons_of_mem _ List.mem_cons_self))) (by assumption) rfl rfl ?_))
      | ((with_reducible refine atHoIdx ?_); refine Nx.hoIdxT 12 (j := i) rfl rfl rfl Try.underlying36 rfl rfl rfl rfl hin fun Bl pl hBl => ?_)
      | ((with_reducible refine atHoIdx ?_); refine Nx.hoIdxT 13 (j := i) rfl rfl rfl Try.underlying88 rfl rfl rfl rfl (by omega) fun Bt pt hBt => ?_)
      | ((with_reducible refine atStore ?_); refine Nx.storeW2 12 (S1 := ownT 39 X.lA X.g.l.length X.lc 2 ((X.g.l.flatMap evC).set (i * 2) (.int .i64 e.key))) (ownT 39 X.lA X.g.l.length X.lc 2 (((X.g.l.flatMap evC).set (i * 2) (.int .i64 e.key)).set (i * 2 + 1) (.int .i64 e.val))) rfl rfl rfl rfl rfl rfl rfl rfl rfl rfl (by rw [hBl]; exact ownT_set (j := i * 2) (by omega)) (by rw [hBl]; exact ownT_set (j := i * 2 + 1) (by omega)) ?_)
      | ((with_reducible refine atStore ?_); refine Nx.storeW 13 (ownT 4 X.tA X.g.there.length X.tc 1 ((X.g.there.flatMap boC).set (i * 1) (.bool true))) rfl rfl rfl rfl rfl rfl rfl rfl rfl (by rw [hBt]; exact ownT_set (j := i * 1) (by omega)) ?_)
      | ((with_reducible refine atOps ?_); refine go 200 ?_; conv => whnf)
      | ((with_reducible refine atPlan ?_); refine Nx.runP (n := 200) rfl (by repeat (first | exact subB.nil _ | refine subB.cons rfl ?_)) ?_; conv => whnf)
      | ((with_reducible refine atAftL ?_); refine Nx.late ?_)
      | ((fail_if_success (with_reducible refine atRet ?_)); (fail_if_success (with_reducible refine atLoop ?_)); (fail_if_success (with_reducible refine atIn ?_)); (fail_if_success (with_reducible refine atDrawn ?_)); (fail_if_success (with_reducible refine atEnd ?_)); (with_reducible refine atRun ?_); refine go 200 ?_; conv => whnf))
    obtain ⟨Y, hY⟩ : ∃ Y : LogH, Y = ⟨X.b, ⟨X.g.size, X.g.many, X.g.l.set i e, X.g.there.set i true⟩, X.lA, X.lc, X.tA, X.tc⟩ := ⟨_, rfl⟩
    refine Nx.turn [11, 12, 13] [0] [Y.sp] rfl (fun r h hs => by
      refine sat_restar ?_
      rw [evC_set, if_pos hin, boC_set] at hs
      have eb : Y.b = x.b := by rw [hY]; exact hb
      rw [eb, hY]
      simp only [LogH.cells, List.length_set]
      exact hs) ?_
    have eg : Y.g = x.g.put i e := by
      rw [hY]
      unfold LogP.put
      dsimp only
      rw [hg, ej]
    have eb : Y.b = x.b := by rw [hY]; exact hb
    repeat' (first
      | ((with_reducible refine atBr ?_); (first | refine BrM.t rfl ?_ | refine BrM.f rfl ?_ | refine BrM.dec (fun _ => ?_) (fun _ => ?_) | refine BrM.mk (fun _ => ?_) (fun _ => ?_)) <;> conv => whnf)
      | ((with_reducible refine atAr ?_); refine Ar.i64 (by omega) (by omega) ?_; conv => whnf)
      | ((with_reducible refine atEnd ?_); refine Nx.done [0] rfl rfl rfl ?_; (exact ⟨Y, eb, eg, rfl⟩))
      | ((with_reducible refine atOps ?_); refine go 200 ?_; conv => whnf)
      | ((with_reducible refine atPlan ?_); refine Nx.runP (n := 200) rfl (by repeat (first | exact subB.nil _ | refine subB.cons rfl ?_)) ?_; conv => whnf)
      | ((with_reducible refine atAftL ?_); refine Nx.late ?_)
      | ((fail_if_success (with_reducible refine atRet ?_)); (fail_if_success (with_reducible refine atLoop ?_)); (fail_if_success (with_reducible refine atIn ?_)); (fail_if_success (with_reducible refine atDrawn ?_)); (fail_if_success (with_reducible refine atEnd ?_)); (with_reducible refine atRun ?_); refine go 200 ?_; conv => whnf))
end Go.Proofs.Ytngfadijcpnblaa

/- The program's model: handles. -/
namespace Go.Proofs.Ytngfadijcpnblaa
open Go.RowKit
set_option maxRecDepth 20000
set_option maxHeartbeats 4000000
theorem partM {t : TypeId} {cs : Array Value} {o n : Nat} {w : World} (ht : aggOf Try.prog t = .many n) : (part t cs o).run Try.prog w = .ok (.agg (cs.extract o (o + n))) w := by
  obtain ⟨h1, h2⟩ := aggOf_many ht w
  simp [part, h1, h2]
theorem part1 {t : TypeId} {cs : Array Value} {o : Nat} {v : Value} {w : World} (ht : aggOf Try.prog t = .one) (hv : cs[o]? = some v) : (part t cs o).run Try.prog w = .ok v w := by
  simp [part, aggOf_one ht, hv]
theorem eqI64 (d : Nat) (t : TypeId) (w : World) (a b : Int) (ht : Try.prog.underlying t = some (.int .i64)) : (Op.equalIn (d + 1) t (.int .i64 a) (.int .i64 b)).run Try.prog w = .ok (a == b) w := run_equalIn_int w d t .i64 .i64 a b ht
theorem eq39d (d : Nat) (x y : Ev) (w : World) : (Op.equalIn (d + 2) 39 (.agg (evC x).toArray) (.agg (evC y).toArray)).run Try.prog w = .ok (decide (x = y)) w := by
  rw [run_equalIn_agg w (d + 1) 39 _ _ rfl (by kernel_rfl)]
  have hf : (Try.prog.fieldsOf 39).toList = [{ name := "Key", type := 2, offset := 0, embedded := false, tag := "", pkgPath := "", byteOffset := 0 }, { name := "Val", type := 2, offset := 1, embedded := false, tag := "", pkgPath := "", byteOffset := 8 }] := rfl
  rw [hf]
  have p : ∀ (s : Ev) (j : Nat) (v : Value), (evC s)[j]? = some v → (part 2 (evC s).toArray j).run Try.prog w = .ok v w := fun s j v hv => part1 rfl (by simpa using hv)
  simp only [Op.eqFields, Sem.run_bind, Sem.run_ite, p x 0 _ rfl, p y 0 _ rfl, p x 1 _ rfl, p y 1 _ rfl, Result.andThen_ok, eqI64 d 2 w _ _ Try.underlying2, Sem.run_pure]
  obtain ⟨a, b⟩ := x
  obtain ⟨c, e⟩ := y
  by_cases h1 : a = c <;> by_cases h2 : b = e <;> simp [h1, h2]
theorem eq39 (x y : Ev) (w : World) : (Op.equalIn 10000 39 (.agg (evC x).toArray) (.agg (evC y).toArray)).run Try.prog w = .ok (decide (x = y)) w := eq39d 9998 x y w
end Go.Proofs.Ytngfadijcpnblaa

/- The program's model: handles. -/
namespace Go.Proofs.Ytngfadijcpnblaa
open Go.RowKit
set_option maxRecDepth 20000
set_option maxHeartbeats 4000000
theorem event_bound {M : MdH} (hm : MdW M.p) {r i : Int} {e : Ev} (h : M.p.event r i = some e) : 0 ≤ i ∧ i < 2000000 := by
  unfold MdP.event at h
  split at h
  · cases h
  split at h
  · cases h
  rename_i g hg
  split at h
  · rename_i hp
    have h1 := hm.gl g (List.mem_of_getElem? hg)
    have := pub_lt h1.1 hp
    have h0 : 0 ≤ i := by
      unfold LogP.pub at hp
      simp only [Bool.and_eq_true, decide_eq_true_eq] at hp
      exact hp.1
    omega
  · cases h
theorem MdH.setP_p {M : MdH} {k : Nat} {x y : PlH} {f : PlP → PlP} (hk : M.pools[k]? = some x) (h : y.p = f x.p) : (M.setP k y).p = { M.p with pools := M.p.pools.modify k f } := by
  have := map_set_modify (f := PlH.p) (u := f) hk h
  simp only [MdH.setP, MdH.p, this]
structure PlX where
  X : PlH
  j : Nat
attribute [local irreducible] Nx Ar BrM
theorem handles_ok (M : MdH) (hm : MdW M.p) {k : Nat} {x : RdH} (hx : M.readers[k]? = some x) (n : Nt) : FnOk Try.prog 45 [ptr M.b, ptr x.b, n.v] [M.sp] (MdQ M.b (M.p.handles k x.r n)) := by
  have hxm := List.mem_of_getElem? hx
  have hxp := List.mem_map_of_mem (f := RdH.r) hxm
  have hr := MdH.rat (M := M) hxm
  have hb := hm.rb x.r hxp
  have hA := MdH.rah (M := M) hxm
  have hal := hm.ral x.r hxp
  have hPl := M.seeP
  have hnp := hm.np
  simp only [MdH.p, List.length_map] at hnp
  have r1 := hr.sub 1 rfl
  have r2 := hr.sub 2 rfl
  have r5 := hr.sub 5 rfl
  have r6 := hr.sub 6 rfl
  have m3 := M.seeM.sub 3 rfl
  have hev := Event_ok M hm x.r.ring n.seq
  unfold MdP.handles
  unfold Nt.v
  cases he : M.p.event x.r.ring n.seq with
  | none =>
    rw [he] at hev
    dsimp only
    refine FnOk.start Try.func45 rfl rfl rfl rfl fun F os tape output => ?_
    refine go 200 ?_
    conv => whnf
    refine Nx.bind (l := 5) (fun b5 => ?_) rfl
    repeat' (first
      | ((with_reducible refine atBr ?_); (first | refine BrM.t rfl ?_ | refine BrM.f rfl ?_ | refine BrM.dec (fun _ => ?_) (fun _ => ?_) | refine BrM.mk (fun _ => ?_) (fun _ => ?_)) <;> conv => whnf)
      | ((with_reducible refine atAr ?_); refine Ar.i64 (by omega) (by omega) ?_; conv => whnf)
      | ((with_reducible refine (atDrawnN 1) ?_); refine Nx.drawnF [0] [.pure 0, .pure 1, .pure 2, .pure 3, .held 4, .pure 5, .held 6] (PF.alt 7 true (PF.pre [.pure 8, .pure 9, .pure 10, .ex 11 true, .ex 12 false, .pure 13] PF.nil) (PF.alt 11 true (PF.pre [.ex 7 true, .pure 8, .pure 9, .pure 10, .ex 12 false, .pure 13] PF.nil) PF.nil)) rfl (by kernel_rfl) (by kernel_rfl) rfl (by repeat (first | exact subB.nil _ | refine subB.cons rfl ?_)) rfl ?_)
      | ((with_reducible refine atFork ?_); first | exact Nx.forkN | refine Nx.forkE ?_ | refine Nx.forkF ?_ ?_)
      | ((with_reducible refine atAftK ?_); refine Nx.keepN [0] rfl (by repeat (first | exact subB.nil _ | refine subB.cons rfl ?_)) (by repeat (first | exact subM.nil _ | refine subM.cons rfl rfl rfl ?_)) rfl ?_)
      | ((with_reducible refine (atCall 12) ?_); refine Nx.call [0] [0] rfl rfl rfl rfl rfl (hev) rfl fun v Q hQ => ?_; obtain ⟨rfl, rfl⟩ := hQ)
      | ((with_reducible refine atHoLoad ?_); first | (refine Nx.hoLoad1 rfl rfl rfl rfl List.mem_cons_self (SeesAt.sub (by assumption) _ rfl) rfl ?_) | (refine Nx.hoLoad1 rfl rfl rfl rfl List.mem_cons_self (by assumption) rfl ?_) | (refine Nx.hoLoad rfl rfl rfl rfl List.mem_cons_self (by assumption) rfl rfl ?_) | (refine Nx.hoLoad1 rfl rfl rfl rfl (List.mem_cons_of_mem _ List.mem_cons_self) (SeesAt.sub (by assumption) _ rfl) rfl ?_) | (refine Nx.hoLoad1 rfl rfl rfl rfl (List.mem_cons_of_mem _ List.mem_cons_self) (by assumption) rfl ?_) | (refine Nx.hoLoad rfl rfl rfl rfl (List.mem_cons_of_mem _ List.mem_cons_self) (by assumption) rfl rfl ?_) | (refine Nx.hoLoad1 rfl rfl rfl rfl (List.mem_cons_of_mem _ (List.mem_cons_of_mem _ List.mem_cons_self)) (SeesAt.sub (by assumption) _ rfl) rfl ?_) | (refine Nx.hoLoad1 rfl rfl rfl rfl (List.mem_cons_of_mem _ (List.mem_cons_of_mem _ List.mem_cons_self)) (by assumption) rfl ?_) | (refine Nx.hoLoad rfl rfl rfl rfl (List.mem_cons_of_mem _ (List.mem_cons_of_mem _ List.mem_cons_self)) (by assumption) rfl rfl ?_) | (refine Nx.hoLoad1 rfl rfl rfl rfl (List.mem_cons_of_mem _ (List.mem_cons_of_mem _ (List.mem_cons_of_mem _ List.mem_cons_self))) (SeesAt.sub (by assumption) _ rfl) rfl ?_) | (refine Nx.hoLoad1 rfl rfl rfl rfl (List.mem_cons_of_mem _ (List.mem_cons_of_mem _ (List.mem_cons_of_mem _ List.mem_cons_self))) (by assumption) rfl ?_) | (refine Nx.hoLoad rfl rfl rfl rfl (List.mem_cons_of_mem _ (List.mem_cons_of_mem _ (List.mem_cons_of_mem _ List.mem_cons_self))) (by assumption) rfl rfl ?_))
      | ((with_reducible refine (atCall 37) ?_); refine Nx.call [] [9] rfl rfl rfl rfl rfl ((wrong_ok _ _ 3)) rfl fun v Q hQ => ?_; obtain ⟨b,rfl,rfl⟩ := hQ)
      | ((with_reducible refine atRet ?_); refine Nx.ret [0,9] Try.func45 rfl rfl ?_; (exact MdQ.yes rfl (by decide)))
      | ((with_reducible refine atOps ?_); refine go 200 ?_; conv => whnf)
      | ((with_reducible refine atPlan ?_); refine Nx.runP (n := 200) rfl (by repeat (first | exact subB.nil _ | refine subB.cons rfl ?_)) ?_; conv => whnf)
      | ((with_reducible refine atAftL ?_); refine Nx.late ?_)
      | ((fail_if_success (with_reducible refine atRet ?_)); (fail_if_success (with_reducible refine atLoop ?_)); (fail_if_success (with_reducible refine atIn ?_)); (fail_if_success (with_reducible refine atDrawn ?_)); (fail_if_success (with_reducible refine atEnd ?_)); (with_reducible refine atRun ?_); refine go 200 ?_; conv => whnf))
  | some e =>
  rw [he] at hev
  dsimp only
  obtain ⟨hs0, hs1⟩ := event_bound hm he
  refine FnOk.start Try.func45 rfl rfl rfl rfl fun F os tape output => ?_
  refine go 200 ?_
  conv => whnf
  refine Nx.bind (l := 5) (fun b5 => ?_) rfl
  refine Nx.joinR (E := [(0, .c (.v (ptr M.b))), (1, .c (.v (ptr x.b))), (5, .c (.loc 5 0)), (6, .c (.v .nilIface)), (7, .c (.loc 7 0)), (8, bv true)]) (M := [(7, 39, [.v (.int .i64 e.key), .v (.int .i64 e.val)]), (5, 42, [.v (.int .i64 n.who), .v (.int .i64 n.ring), .v (.int .i64 n.deed), .v (.int .i64 n.lo), .v (.int .i64 n.seq), .v (.int .i64 n.x.key), .v (.int .i64 n.x.val), .v (.int .i64 n.code)])]) (B := [(5, b5)]) (R := [(0, M.sp)]) (fun K => ?_) ?_
  · repeat' (first
      | ((with_reducible refine Nx.weak K ?_ ?_ ?_ ?_) <;> (first | exact subM.nil _ | exact subB.nil _ | exact subR.nil _ | ((repeat (first | exact subE.nil _ | refine subE.cons rfl rfl ?_ | refine subE.cons' rfl (fun _ => rfl) ?_ | (refine subE.cons rfl ?_ ?_; · (simp; done)))); done) | ((repeat (first | exact subM.nil _ | refine subM.cons rfl rfl rfl ?_)); done) | ((repeat (first | exact subB.nil _ | refine subB.cons rfl ?_)); done) | ((repeat (first | exact subR.nil _ | refine subR.cons rfl rfl ?_)); done) | omega | (dsimp only; omega) | skip))
      | ((with_reducible refine atBr ?_); (first | refine BrM.t rfl ?_ | refine BrM.f rfl ?_ | refine BrM.dec (fun _ => ?_) (fun _ => ?_) | refine BrM.mk (fun _ => ?_) (fun _ => ?_)) <;> conv => whnf)
      | ((with_reducible refine atAr ?_); refine Ar.i64 (by omega) (by omega) ?_; conv => whnf)
      | ((with_reducible refine (atDrawnN 1) ?_); refine Nx.drawnF [0] [.pure 0, .pure 1, .pure 2, .pure 3, .held 4, .pure 5, .held 6] (PF.alt 7 true (PF.pre [.pure 8, .pure 9, .pure 10, .ex 11 true, .ex 12 false, .pure 13] PF.nil) (PF.alt 11 true (PF.pre [.ex 7 true, .pure 8, .pure 9, .pure 10, .ex 12 false, .pure 13] PF.nil) PF.nil)) rfl (by kernel_rfl) (by kernel_rfl) rfl (by repeat (first | exact subB.nil _ | refine subB.cons rfl ?_)) rfl ?_)
      | ((with_reducible refine atFork ?_); first | exact Nx.forkN | refine Nx.forkE ?_ | refine Nx.forkF ?_ ?_)
      | ((with_reducible refine atAftK ?_); refine Nx.keepN [0] rfl (by repeat (first | exact subB.nil _ | refine subB.cons rfl ?_)) (by repeat (first | exact subM.nil _ | refine subM.cons rfl rfl rfl ?_)) rfl ?_)
      | ((with_reducible refine (atCall 12) ?_); refine Nx.call [0] [0] rfl rfl rfl rfl rfl (hev) rfl fun v Q hQ => ?_; obtain ⟨rfl, rfl⟩ := hQ)
      | ((with_reducible refine atHoLoad ?_); first | (refine Nx.hoLoad1 rfl rfl rfl rfl List.mem_cons_self (SeesAt.sub (by assumption) _ rfl) rfl ?_) | (refine Nx.hoLoad1 rfl rfl rfl rfl List.mem_cons_self (by assumption) rfl ?_) | (refine Nx.hoLoad rfl rfl rfl rfl List.mem_cons_self (by assumption) rfl rfl ?_) | (refine Nx.hoLoad1 rfl rfl rfl rfl (List.mem_cons_of_mem _ List.mem_cons_self) (SeesAt.sub (by assumption) _ rfl) rfl ?_) | (refine Nx.hoLoad1 rfl rfl rfl rfl (List.mem_cons_of_mem _ List.mem_cons_self) (by assumption) rfl ?_) | (refine Nx.hoLoad rfl rfl rfl rfl (List.mem_cons_of_mem _ List.mem_cons_self) (by assumption) rfl rfl ?_) | (refine Nx.hoLoad1 rfl rfl rfl rfl (List.mem_cons_of_mem _ (List.mem_cons_of_mem _ List.mem_cons_self)) (SeesAt.sub (by assumption) _ rfl) rfl ?_) | (refine Nx.hoLoad1 rfl rfl rfl rfl (List.mem_cons_of_mem _ (List.mem_cons_of_mem _ List.mem_cons_self)) (by assumption) rfl ?_) | (refine Nx.hoLoad rfl rfl rfl rfl (List.mem_cons_of_mem _ (List.mem_cons_of_mem _ List.mem_cons_self)) (by assumption) rfl rfl ?_) | (refine Nx.hoLoad1 rfl rfl rfl rfl (List.mem_cons_of_mem _ (List.mem_cons_of_mem _ (List.mem_cons_of_mem _ List.mem_cons_self))) (SeesAt.sub (by assumption) _ rfl) rfl ?_) | (refine Nx.hoLoad1 rfl rfl rfl rfl (List.mem_cons_of_mem _ (List.mem_cons_of_mem _ (List.mem_cons_of_mem _ List.mem_cons_self))) (by assumption) rfl ?_) | (refine Nx.hoLoad rfl rfl rfl rfl (List.mem_cons_of_mem _ (List.mem_cons_of_mem _ (List.mem_cons_of_mem _ List.mem_cons_self))) (by assumption) rfl rfl ?_))
      | ((with_reducible refine atOps ?_); refine goR 200 ?_; conv => whnf)
      | ((with_reducible refine atPlan ?_); refine Nx.runP (n := 200) rfl (by repeat (first | exact subB.nil _ | refine subB.cons rfl ?_)) ?_; conv => whnf)
      | ((with_reducible refine atAftL ?_); refine Nx.late ?_)
      | ((fail_if_success (with_reducible refine atRet ?_)); (fail_if_success (with_reducible refine atLoop ?_)); (fail_if_success (with_reducible refine atIn ?_)); (fail_if_success (with_reducible refine atDrawn ?_)); (fail_if_success (with_reducible refine atEnd ?_)); (with_reducible refine atRun ?_); refine goR 1 ?_; conv => whnf))
  by_cases h1 : n.lo ≠ n.seq
  · rw [if_pos h1]
    repeat' (first
      | ((with_reducible refine atBr ?_); refine BrM.yes (by omega) ?_; conv => whnf)
      | ((with_reducible refine atBr ?_); refine BrM.not (by omega) ?_; conv => whnf)
      | ((with_reducible refine atBr ?_); (first | refine BrM.t rfl ?_ | refine BrM.f rfl ?_ | refine BrM.dec (fun _ => ?_) (fun _ => ?_) | refine BrM.mk (fun _ => ?_) (fun _ => ?_)) <;> conv => whnf)
      | ((with_reducible refine atAr ?_); refine Ar.i64 (by omega) (by omega) ?_; conv => whnf)
      | ((with_reducible refine (atCall 37) ?_); refine Nx.call [] [9] rfl rfl rfl rfl rfl ((wrong_ok _ _ 3)) rfl fun v Q hQ => ?_; obtain ⟨b,rfl,rfl⟩ := hQ)
      | ((with_reducible refine atRet ?_); refine Nx.ret [0,9] Try.func45 rfl rfl ?_; (exact MdQ.yes rfl (by decide)))
      | ((with_reducible refine atOps ?_); refine go 200 ?_; conv => whnf)
      | ((with_reducible refine atPlan ?_); refine Nx.runP (n := 200) rfl (by repeat (first | exact subB.nil _ | refine subB.cons rfl ?_)) ?_; conv => whnf)
      | ((with_reducible refine atAftL ?_); refine Nx.late ?_)
      | ((fail_if_success (with_reducible refine atRet ?_)); (fail_if_success (with_reducible refine atLoop ?_)); (fail_if_success (with_reducible refine atIn ?_)); (fail_if_success (with_reducible refine atDrawn ?_)); (fail_if_success (with_reducible refine atEnd ?_)); (with_reducible refine atRun ?_); refine go 200 ?_; conv => whnf))
  rw [if_neg (by omega)]
  by_cases h2 : e ≠ n.x
  · rw [if_pos h2]
    have hbt : (if BinOp.neq = BinOp.eql then decide (e = n.x) else !decide (e = n.x)) = true := by simp [h2]
    repeat' (first
      | ((with_reducible refine atBr ?_); refine BrM.t (hbt) ?_; conv => whnf)
      | ((with_reducible refine atBr ?_); refine BrM.not (by omega) ?_; conv => whnf)
      | ((with_reducible refine atBr ?_); (first | refine BrM.t rfl ?_ | refine BrM.f rfl ?_ | refine BrM.dec (fun _ => ?_) (fun _ => ?_) | refine BrM.mk (fun _ => ?_) (fun _ => ?_)) <;> conv => whnf)
      | ((with_reducible refine atAr ?_); refine Ar.i64 (by omega) (by omega) ?_; conv => whnf)
      | ((with_reducible refine atOne ?_); refine Nx.eqS rfl (.inr rfl) rfl rfl rfl rfl (by kernel_rfl) (eq39 e n.x) rfl ?_)
      | ((with_reducible refine (atCall 37) ?_); refine Nx.call [] [9] rfl rfl rfl rfl rfl ((wrong_ok _ _ 6)) rfl fun v Q hQ => ?_; obtain ⟨b,rfl,rfl⟩ := hQ)
      | ((with_reducible refine atRet ?_); refine Nx.ret [0,9] Try.func45 rfl rfl ?_; (exact MdQ.yes rfl (by decide)))
      | ((with_reducible refine atOps ?_); refine go 200 ?_; conv => whnf)
      | ((with_reducible refine atPlan ?_); refine Nx.runP (n := 200) rfl (by repeat (first | exact subB.nil _ | refine subB.cons rfl ?_)) ?_; conv => whnf)
      | ((with_reducible refine atAftL ?_); refine Nx.late ?_)
      | ((fail_if_success (with_reducible refine atRet ?_)); (fail_if_success (with_reducible refine atLoop ?_)); (fail_if_success (with_reducible refine atIn ?_)); (fail_if_success (with_reducible refine atDrawn ?_)); (fail_if_success (with_reducible refine atEnd ?_)); (with_reducible refine atRun ?_); refine go 200 ?_; conv => whnf))
  rw [if_neg h2]
  have h2 : e = n.x := Decidable.not_not.1 h2
  have hbf : (if BinOp.neq = BinOp.eql then decide (e = n.x) else !decide (e = n.x)) = false := by simp [h2]
  repeat' (first
    | ((with_reducible refine atBr ?_); refine BrM.f (hbf) ?_; conv => whnf)
    | ((with_reducible refine atBr ?_); refine BrM.not (by omega) ?_; conv => whnf)
    | ((with_reducible refine atBr ?_); (first | refine BrM.t rfl ?_ | refine BrM.f rfl ?_ | refine BrM.dec (fun _ => ?_) (fun _ => ?_) | refine BrM.mk (fun _ => ?_) (fun _ => ?_)) <;> conv => whnf)
    | ((with_reducible refine atAr ?_); refine Ar.i64 (by omega) (by omega) ?_; conv => whnf)
    | ((with_reducible refine atOne ?_); refine Nx.eqS rfl (.inr rfl) rfl rfl rfl rfl (by kernel_rfl) (eq39 e n.x) rfl ?_)
    | ((with_reducible refine atLoad ?_); refine Nx.load1 0 rfl rfl rfl rfl (r6) rfl ?_)
    | ((with_reducible refine atOps ?_); refine go 200 ?_; conv => whnf)
    | ((with_reducible refine atPlan ?_); refine Nx.runP (n := 200) rfl (by repeat (first | exact subB.nil _ | refine subB.cons rfl ?_)) ?_; conv => whnf)
    | ((with_reducible refine atAftL ?_); refine Nx.late ?_)
    | ((fail_if_success (with_reducible refine atRet ?_)); (fail_if_success (with_reducible refine atLoop ?_)); (fail_if_success (with_reducible refine atIn ?_)); (fail_if_success (with_reducible refine atDrawn ?_)); (fail_if_success (with_reducible refine atEnd ?_)); (with_reducible refine atRun ?_); refine go 200 ?_; conv => whnf))
  refine Nx.loop (X := Nat) (fun j => j ≤ x.r.ahead.length ∧ ∀ q, (hq : q < j) → (hl : q < x.r.ahead.length) → M.p.blocks x.r.ring n.seq x.r.ahead[q] = false) (fun j => x.r.ahead.length - j)
    (fun j => [(0, .c (.v (ptr M.b))), (1, .c (.v (ptr x.b))), (5, .c (.loc 5 0)), (48, sl x.aA x.r.ahead.length x.ac), (49, iv x.r.ahead.length), (50, iv j)]) (fun _ => [(5, 42, [.v (.int .i64 n.who), .v (.int .i64 n.ring), .v (.int .i64 n.deed), .v (.int .i64 n.lo), .v (.int .i64 n.seq), .v (.int .i64 n.x.key), .v (.int .i64 n.x.val), .v (.int .i64 n.code)])]) [(5, b5)] (fun _ => [(0, M.sp)]) 0 ⟨Nat.zero_le _, fun i hi => by omega⟩ ?_ ?_ ?_ ?_ ?_
  · repeat (first | exact subE.nil _ | refine subE.cons rfl rfl ?_ | refine subE.cons' rfl (fun _ => rfl) ?_)
  · repeat (first | exact subM.nil _ | refine subM.cons rfl rfl rfl ?_)
  · repeat (first | exact subB.nil _ | refine subB.cons rfl ?_)
  · repeat (first | exact subR.nil _ | refine subR.cons rfl rfl ?_)
  intro j ⟨hj, hno⟩ ih
  by_cases hlt : j < x.r.ahead.length
  · have hat := at_ok M hm x.r.ahead[j] x.r.ring
    have hsome := hm.rah x.r hxp _ (List.getElem_mem hlt)
    obtain ⟨o, ho⟩ := Option.isSome_iff_exists.1 hsome
    obtain ⟨hol, _, _, hop⟩ := at_mem ho
    rw [ho, hop] at hat
    obtain ⟨y, hy⟩ : ∃ y, y = M.readers[o] := ⟨_, rfl⟩
    rw [← hy] at hat
    have hym : y ∈ M.readers := by rw [hy]; exact List.getElem_mem hol
    have hyp := List.mem_map_of_mem (f := RdH.r) hym
    have hyat := MdH.rat (M := M) hym
    have y3 := hyat.sub 3 rfl
    have y5 := hyat.sub 5 rfl
    have hpl := hm.rpool y.r hyp
    have eb : M.p.blocks x.r.ring n.seq x.r.ahead[j] = if y.r.pool < 0 then decide (y.r.cursor < n.seq) else match M.p.pools[y.r.pool.toNat]? with | none => false | some p => !p.has n.seq := by
      unfold MdP.blocks
      rw [ho]
      have : M.p.readers[o]? = some y.r := by rw [hy]; simp [MdH.p, List.getElem?_eq_getElem hol]
      dsimp only
      rw [this]
      rfl
    have hyes : M.p.blocks x.r.ring n.seq x.r.ahead[j] = true → (x.r.ahead.any (M.p.blocks x.r.ring n.seq)) = true := fun h => List.any_eq_true.2 ⟨_, List.getElem_mem hlt, h⟩
    have next : M.p.blocks x.r.ring n.seq x.r.ahead[j] = false → ∀ q, (hq : q < j + 1) → (hl : q < x.r.ahead.length) → M.p.blocks x.r.ring n.seq x.r.ahead[q] = false := fun h q hq hl => by
      by_cases e : q = j
      · subst e; exact h
      · exact hno q (by omega) hl
    by_cases c1 : y.r.pool < 0
    · rw [if_pos c1] at eb
      by_cases c2 : y.r.cursor < n.seq
      · rw [hyes (by rw [eb]; simp [c2]), if_pos rfl]
        repeat' (first
          | ((with_reducible refine atBr ?_); refine BrM.yes (by omega) ?_; conv => whnf)
          | ((with_reducible refine atBr ?_); refine BrM.not (by omega) ?_; conv => whnf)
          | ((with_reducible refine atBr ?_); (first | refine BrM.t rfl ?_ | refine BrM.f rfl ?_ | refine BrM.dec (fun _ => ?_) (fun _ => ?_) | refine BrM.mk (fun _ => ?_) (fun _ => ?_)) <;> conv => whnf)
          | ((with_reducible refine atAr ?_); refine Ar.i64 (by omega) (by omega) ?_; conv => whnf)
          | ((with_reducible refine atIdx ?_); refine Nx.idx 0 (j := j) rfl rfl rfl Try.underlying35 rfl rfl rfl inC_len hA rfl (by omega) (by omega) fun _ _ _ => ?_)
          | ((with_reducible refine atLoad ?_); first | (refine Nx.load1 0 rfl rfl rfl rfl (SeesAt.sub (by assumption) _ rfl) rfl ?_) | (refine Nx.load1 0 rfl rfl rfl rfl (by assumption) rfl ?_) | (refine Nx.load 0 rfl rfl rfl rfl (by assumption) rfl rfl ?_))
          | ((with_reducible refine atLoad ?_); refine Nx.load1 0 rfl rfl rfl rfl (r1) rfl ?_)
          | ((with_reducible refine (atCall 36) ?_); refine Nx.call [0] [0] rfl rfl rfl rfl rfl (hat) rfl fun v Q hQ => ?_; obtain ⟨rfl, rfl⟩ := hQ)
          | ((with_reducible refine (atDrawnN 10) ?_); refine Nx.drawn0 [0] [.pure 0, .pure 1, .pure 2, .held 3, .pure 4, .pure 5, .pure 6, .pure 7, .pure 8, .held 9, .pure 10, .held 11, .pure 12, .pure 13, .pure 14, .pure 15, .pure 16, .pure 17, .held 18, .pure 19, .pure 20, .pure 21, .pure 22, .pure 23, .held 24, .pure 25, .pure 26, .pure 27, .held 28, .pure 29, .held 30, .pure 31, .held 32, .ex 33 true, .pure 34, .pure 35, .pure 36] rfl (by kernel_rfl) rfl (by kernel_rfl) rfl (by repeat (first | exact subB.nil _ | refine subB.cons rfl ?_)) rfl ?_)
          | ((with_reducible refine atHoLoad ?_); first | (refine Nx.hoLoad1 rfl rfl rfl rfl List.mem_cons_self (SeesAt.sub (by assumption) _ rfl) rfl ?_) | (refine Nx.hoLoad1 rfl rfl rfl rfl List.mem_cons_self (by assumption) rfl ?_) | (refine Nx.hoLoad rfl rfl rfl rfl List.mem_cons_self (by assumption) rfl rfl ?_) | (refine Nx.hoLoad1 rfl rfl rfl rfl (List.mem_cons_of_mem _ List.mem_cons_self) (SeesAt.sub (by assumption) _ rfl) rfl ?_) | (refine Nx.hoLoad1 rfl rfl rfl rfl (List.mem_cons_of_mem _ List.mem_cons_self) (by assumption) rfl ?_) | (refine Nx.hoLoad rfl rfl rfl rfl (List.mem_cons_of_mem _ List.mem_cons_self) (by assumption) rfl rfl ?_) | (refine Nx.hoLoad1 rfl rfl rfl rfl (List.mem_cons_of_mem _ (List.mem_cons_of_mem _ List.mem_cons_self)) (SeesAt.sub (by assumption) _ rfl) rfl ?_) | (refine Nx.hoLoad1 rfl rfl rfl rfl (List.mem_cons_of_mem _ (List.mem_cons_of_mem _ List.mem_cons_self)) (by assumption) rfl ?_) | (refine Nx.hoLoad rfl rfl rfl rfl (List.mem_cons_of_mem _ (List.mem_cons_of_mem _ List.mem_cons_self)) (by assumption) rfl rfl ?_) | (refine Nx.hoLoad1 rfl rfl rfl rfl (List.mem_cons_of_mem _ (List.mem_cons_of_mem _ (List.mem_cons_of_mem _ List.mem_cons_self))) (SeesAt.sub (by assumption) _ rfl) rfl ?_) | (refine Nx.hoLoad1 rfl rfl rfl rfl (List.mem_cons_of_mem _ (List.mem_cons_of_mem _ (List.mem_cons_of_mem _ List.mem_cons_self))) (by assumption) rfl ?_) | (refine Nx.hoLoad rfl rfl rfl rfl (List.mem_cons_of_mem _ (List.mem_cons_of_mem _ (List.mem_cons_of_mem _ List.mem_cons_self))) (by assumption) rfl rfl ?_))
          | ((with_reducible refine (atCall 37) ?_); refine Nx.call [] [9] rfl rfl rfl rfl rfl ((wrong_ok _ _ 12)) rfl fun v Q hQ => ?_; obtain ⟨b,rfl,rfl⟩ := hQ)
          | ((with_reducible refine atRet ?_); refine Nx.ret [0,9] Try.func45 rfl rfl ?_; (exact MdQ.yes rfl (by decide)))
          | ((with_reducible refine atOps ?_); refine go 200 ?_; conv => whnf)
          | ((with_reducible refine atPlan ?_); refine Nx.runP (n := 200) rfl (by repeat (first | exact subB.nil _ | refine subB.cons rfl ?_)) ?_; conv => whnf)
          | ((with_reducible refine atAftL ?_); refine Nx.late ?_)
          | ((fail_if_success (with_reducible refine atRet ?_)); (fail_if_success (with_reducible refine atLoop ?_)); (fail_if_success (with_reducible refine atIn ?_)); (fail_if_success (with_reducible refine atDrawn ?_)); (fail_if_success (with_reducible refine atEnd ?_)); (with_reducible refine atRun ?_); refine go 200 ?_; conv => whnf))
      · repeat' (first
          | ((with_reducible refine atBr ?_); refine BrM.yes (by omega) ?_; conv => whnf)
          | ((with_reducible refine atBr ?_); refine BrM.not (by omega) ?_; conv => whnf)
          | ((with_reducible refine atBr ?_); (first | refine BrM.t rfl ?_ | refine BrM.f rfl ?_ | refine BrM.dec (fun _ => ?_) (fun _ => ?_) | refine BrM.mk (fun _ => ?_) (fun _ => ?_)) <;> conv => whnf)
          | ((with_reducible refine atAr ?_); refine Ar.i64 (by omega) (by omega) ?_; conv => whnf)
          | ((with_reducible refine atIdx ?_); refine Nx.idx 0 (j := j) rfl rfl rfl Try.underlying35 rfl rfl rfl inC_len hA rfl (by omega) (by omega) fun _ _ _ => ?_)
          | ((with_reducible refine atLoad ?_); first | (refine Nx.load1 0 rfl rfl rfl rfl (SeesAt.sub (by assumption) _ rfl) rfl ?_) | (refine Nx.load1 0 rfl rfl rfl rfl (by assumption) rfl ?_) | (refine Nx.load 0 rfl rfl rfl rfl (by assumption) rfl rfl ?_))
          | ((with_reducible refine atLoad ?_); refine Nx.load1 0 rfl rfl rfl rfl (r1) rfl ?_)
          | ((with_reducible refine (atCall 36) ?_); refine Nx.call [0] [0] rfl rfl rfl rfl rfl (hat) rfl fun v Q hQ => ?_; obtain ⟨rfl, rfl⟩ := hQ)
          | ((with_reducible refine (atDrawnN 10) ?_); refine Nx.drawn0 [0] [.pure 0, .pure 1, .pure 2, .held 3, .pure 4, .pure 5, .pure 6, .pure 7, .pure 8, .held 9, .pure 10, .held 11, .pure 12, .pure 13, .pure 14, .pure 15, .pure 16, .pure 17, .held 18, .pure 19, .pure 20, .pure 21, .pure 22, .pure 23, .held 24, .pure 25, .pure 26, .pure 27, .held 28, .pure 29, .held 30, .pure 31, .held 32, .ex 33 true, .pure 34, .pure 35, .pure 36] rfl (by kernel_rfl) rfl (by kernel_rfl) rfl (by repeat (first | exact subB.nil _ | refine subB.cons rfl ?_)) rfl ?_)
          | ((with_reducible refine atHoLoad ?_); first | (refine Nx.hoLoad1 rfl rfl rfl rfl List.mem_cons_self (SeesAt.sub (by assumption) _ rfl) rfl ?_) | (refine Nx.hoLoad1 rfl rfl rfl rfl List.mem_cons_self (by assumption) rfl ?_) | (refine Nx.hoLoad rfl rfl rfl rfl List.mem_cons_self (by assumption) rfl rfl ?_) | (refine Nx.hoLoad1 rfl rfl rfl rfl (List.mem_cons_of_mem _ List.mem_cons_self) (SeesAt.sub (by assumption) _ rfl) rfl ?_) | (refine Nx.hoLoad1 rfl rfl rfl rfl (List.mem_cons_of_mem _ List.mem_cons_self) (by assumption) rfl ?_) | (refine Nx.hoLoad rfl rfl rfl rfl (List.mem_cons_of_mem _ List.mem_cons_self) (by assumption) rfl rfl ?_) | (refine Nx.hoLoad1 rfl rfl rfl rfl (List.mem_cons_of_mem _ (List.mem_cons_of_mem _ List.mem_cons_self)) (SeesAt.sub (by assumption) _ rfl) rfl ?_) | (refine Nx.hoLoad1 rfl rfl rfl rfl (List.mem_cons_of_mem _ (List.mem_cons_of_mem _ List.mem_cons_self)) (by assumption) rfl ?_) | (refine Nx.hoLoad rfl rfl rfl rfl (List.mem_cons_of_mem _ (List.mem_cons_of_mem _ List.mem_cons_self)) (by assumption) rfl rfl ?_) | (refine Nx.hoLoad1 rfl rfl rfl rfl (List.mem_cons_of_mem _ (List.mem_cons_of_mem _ (List.mem_cons_of_mem _ List.mem_cons_self))) (SeesAt.sub (by assumption) _ rfl) rfl ?_) | (refine Nx.hoLoad1 rfl rfl rfl rfl (List.mem_cons_of_mem _ (List.mem_cons_of_mem _ (List.mem_cons_of_mem _ List.mem_cons_self))) (by assumption) rfl ?_) | (refine Nx.hoLoad rfl rfl rfl rfl (List.mem_cons_of_mem _ (List.mem_cons_of_mem _ (List.mem_cons_of_mem _ List.mem_cons_self))) (by assumption) rfl rfl ?_))
          | ((with_reducible refine atOps ?_); refine go 200 ?_; conv => whnf)
          | ((with_reducible refine atPlan ?_); refine Nx.runP (n := 200) rfl (by repeat (first | exact subB.nil _ | refine subB.cons rfl ?_)) ?_; conv => whnf)
          | ((with_reducible refine atAftL ?_); refine Nx.late ?_)
          | ((fail_if_success (with_reducible refine atRet ?_)); (fail_if_success (with_reducible refine atLoop ?_)); (fail_if_success (with_reducible refine atIn ?_)); (fail_if_success (with_reducible refine atDrawn ?_)); (fail_if_success (with_reducible refine atEnd ?_)); (with_reducible refine atRun ?_); refine go 200 ?_; conv => whnf))
        refine (ih (j + 1) ⟨by omega, next (by rw [eb]; simp [c2])⟩ (by omega)).weak ?_ ?_ ?_ ?_
        · repeat (first | exact subE.nil _ | refine subE.cons rfl rfl ?_ | refine subE.cons' rfl (fun _ => rfl) ?_)
        · repeat (first | exact subM.nil _ | refine subM.cons rfl rfl rfl ?_)
        · repeat (first | exact subB.nil _ | refine subB.cons rfl ?_)
        · repeat (first | exact subR.nil _ | refine subR.cons rfl rfl ?_)
    · rw [if_neg c1] at eb
      obtain ⟨p, hp⟩ : ∃ p : Nat, y.r.pool = p := ⟨y.r.pool.toNat, by omega⟩
      have hpl2 : p < M.pools.length := by
        have := hpl.2
        simp only [MdH.p, List.length_map] at this
        omega
      have hzm := List.getElem_mem hpl2
      have hz := hm.pl (M.pools[p]).p (List.mem_map_of_mem hzm)
      have hhas := has_ok M hzm hz n.seq (by omega)
      have ez : M.p.pools[y.r.pool.toNat]? = some (M.pools[p]).p := by
        have : y.r.pool.toNat = p := by omega
        rw [this]
        simp [MdH.p, List.getElem?_eq_getElem hpl2]
      rw [ez] at eb
      dsimp only at eb
      cases hh : (M.pools[p]).p.has n.seq with
      | true =>
        rw [hh] at hhas eb
        repeat' (first
          | ((with_reducible refine atBr ?_); refine BrM.yes (by omega) ?_; conv => whnf)
          | ((with_reducible refine atBr ?_); refine BrM.not (by omega) ?_; conv => whnf)
          | ((with_reducible refine atBr ?_); (first | refine BrM.t rfl ?_ | refine BrM.f rfl ?_ | refine BrM.dec (fun _ => ?_) (fun _ => ?_) | refine BrM.mk (fun _ => ?_) (fun _ => ?_)) <;> conv => whnf)
          | ((with_reducible refine atAr ?_); refine Ar.i64 (by omega) (by omega) ?_; conv => whnf)
          | ((with_reducible refine atIdx ?_); refine Nx.idx 0 (j := j) rfl rfl rfl Try.underlying35 rfl rfl rfl inC_len hA rfl (by omega) (by omega) fun _ _ _ => ?_)
          | ((with_reducible refine atLoad ?_); first | (refine Nx.load1 0 rfl rfl rfl rfl (SeesAt.sub (by assumption) _ rfl) rfl ?_) | (refine Nx.load1 0 rfl rfl rfl rfl (by assumption) rfl ?_) | (refine Nx.load 0 rfl rfl rfl rfl (by assumption) rfl rfl ?_))
          | ((with_reducible refine atLoad ?_); refine Nx.load1 0 rfl rfl rfl rfl (r1) rfl ?_)
          | ((with_reducible refine (atCall 36) ?_); refine Nx.call [0] [0] rfl rfl rfl rfl rfl (hat) rfl fun v Q hQ => ?_; obtain ⟨rfl, rfl⟩ := hQ)
          | ((with_reducible refine (atDrawnN 10) ?_); refine Nx.drawn0 [0] [.pure 0, .pure 1, .pure 2, .held 3, .pure 4, .pure 5, .pure 6, .pure 7, .pure 8, .held 9, .pure 10, .held 11, .pure 12, .pure 13, .pure 14, .pure 15, .pure 16, .pure 17, .held 18, .pure 19, .pure 20, .pure 21, .pure 22, .pure 23, .held 24, .pure 25, .pure 26, .pure 27, .held 28, .pure 29, .held 30, .pure 31, .held 32, .ex 33 true, .pure 34, .pure 35, .pure 36] rfl (by kernel_rfl) rfl (by kernel_rfl) rfl (by repeat (first | exact subB.nil _ | refine subB.cons rfl ?_)) rfl ?_)
          | ((with_reducible refine atHoIdx ?_); refine Nx.hoIdx 0 (j := p) rfl rfl rfl Try.underlying76 rfl rfl rfl PlH.pt_len hPl rfl (by omega) (by omega) fun _ _ _ => ?_)
          | ((with_reducible refine atHoLoad ?_); first | (refine Nx.hoLoad1 rfl rfl rfl rfl List.mem_cons_self (SeesAt.sub (by assumption) _ rfl) rfl ?_) | (refine Nx.hoLoad1 rfl rfl rfl rfl List.mem_cons_self (by assumption) rfl ?_) | (refine Nx.hoLoad rfl rfl rfl rfl List.mem_cons_self (by assumption) rfl rfl ?_) | (refine Nx.hoLoad1 rfl rfl rfl rfl (List.mem_cons_of_mem _ List.mem_cons_self) (SeesAt.sub (by assumption) _ rfl) rfl ?_) | (refine Nx.hoLoad1 rfl rfl rfl rfl (List.mem_cons_of_mem _ List.mem_cons_self) (by assumption) rfl ?_) | (refine Nx.hoLoad rfl rfl rfl rfl (List.mem_cons_of_mem _ List.mem_cons_self) (by assumption) rfl rfl ?_) | (refine Nx.hoLoad1 rfl rfl rfl rfl (List.mem_cons_of_mem _ (List.mem_cons_of_mem _ List.mem_cons_self)) (SeesAt.sub (by assumption) _ rfl) rfl ?_) | (refine Nx.hoLoad1 rfl rfl rfl rfl (List.mem_cons_of_mem _ (List.mem_cons_of_mem _ List.mem_cons_self)) (by assumption) rfl ?_) | (refine Nx.hoLoad rfl rfl rfl rfl (List.mem_cons_of_mem _ (List.mem_cons_of_mem _ List.mem_cons_self)) (by assumption) rfl rfl ?_) | (refine Nx.hoLoad1 rfl rfl rfl rfl (List.mem_cons_of_mem _ (List.mem_cons_of_mem _ (List.mem_cons_of_mem _ List.mem_cons_self))) (SeesAt.sub (by assumption) _ rfl) rfl ?_) | (refine Nx.hoLoad1 rfl rfl rfl rfl (List.mem_cons_of_mem _ (List.mem_cons_of_mem _ (List.mem_cons_of_mem _ List.mem_cons_self))) (by assumption) rfl ?_) | (refine Nx.hoLoad rfl rfl rfl rfl (List.mem_cons_of_mem _ (List.mem_cons_of_mem _ (List.mem_cons_of_mem _ List.mem_cons_self))) (by assumption) rfl rfl ?_))
          | ((with_reducible refine (atCall 61) ?_); refine Nx.call [0] [0] rfl rfl rfl rfl rfl (hhas) rfl fun v Q hQ => ?_; obtain ⟨rfl, rfl⟩ := hQ)
          | ((with_reducible refine atAftK ?_); refine Nx.keepN [0] rfl (by repeat (first | exact subB.nil _ | refine subB.cons rfl ?_)) (by repeat (first | exact subM.nil _ | refine subM.cons rfl rfl rfl ?_)) rfl ?_)
          | ((with_reducible refine atOps ?_); refine go 200 ?_; conv => whnf)
          | ((with_reducible refine atPlan ?_); refine Nx.runP (n := 200) rfl (by repeat (first | exact subB.nil _ | refine subB.cons rfl ?_)) ?_; conv => whnf)
          | ((with_reducible refine atAftL ?_); refine Nx.late ?_)
          | ((fail_if_success (with_reducible refine atRet ?_)); (fail_if_success (with_reducible refine atLoop ?_)); (fail_if_success (with_reducible refine atIn ?_)); (fail_if_success (with_reducible refine atDrawn ?_)); (fail_if_success (with_reducible refine atEnd ?_)); (with_reducible refine atRun ?_); refine go 200 ?_; conv => whnf))
        refine (ih (j + 1) ⟨by omega, next (by rw [eb]; rfl)⟩ (by omega)).weak ?_ ?_ ?_ ?_
        · repeat (first | exact subE.nil _ | refine subE.cons rfl rfl ?_ | refine subE.cons' rfl (fun _ => rfl) ?_)
        · repeat (first | exact subM.nil _ | refine subM.cons rfl rfl rfl ?_)
        · repeat (first | exact subB.nil _ | refine subB.cons rfl ?_)
        · repeat (first | exact subR.nil _ | refine subR.cons rfl rfl ?_)
      | false =>
        rw [hh] at hhas eb
        rw [hyes (by rw [eb]; rfl), if_pos rfl]
        repeat' (first
          | ((with_reducible refine atBr ?_); refine BrM.yes (by omega) ?_; conv => whnf)
          | ((with_reducible refine atBr ?_); refine BrM.not (by omega) ?_; conv => whnf)
          | ((with_reducible refine atBr ?_); (first | refine BrM.t rfl ?_ | refine BrM.f rfl ?_ | refine BrM.dec (fun _ => ?_) (fun _ => ?_) | refine BrM.mk (fun _ => ?_) (fun _ => ?_)) <;> conv => whnf)
          | ((with_reducible refine atAr ?_); refine Ar.i64 (by omega) (by omega) ?_; conv => whnf)
          | ((with_reducible refine atIdx ?_); refine Nx.idx 0 (j := j) rfl rfl rfl Try.underlying35 rfl rfl rfl inC_len hA rfl (by omega) (by omega) fun _ _ _ => ?_)
          | ((with_reducible refine atLoad ?_); first | (refine Nx.load1 0 rfl rfl rfl rfl (SeesAt.sub (by assumption) _ rfl) rfl ?_) | (refine Nx.load1 0 rfl rfl rfl rfl (by assumption) rfl ?_) | (refine Nx.load 0 rfl rfl rfl rfl (by assumption) rfl rfl ?_))
          | ((with_reducible refine atLoad ?_); refine Nx.load1 0 rfl rfl rfl rfl (r1) rfl ?_)
          | ((with_reducible refine (atCall 36) ?_); refine Nx.call [0] [0] rfl rfl rfl rfl rfl (hat) rfl fun v Q hQ => ?_; obtain ⟨rfl, rfl⟩ := hQ)
          | ((with_reducible refine (atDrawnN 10) ?_); refine Nx.drawn0 [0] [.pure 0, .pure 1, .pure 2, .held 3, .pure 4, .pure 5, .pure 6, .pure 7, .pure 8, .held 9, .pure 10, .held 11, .pure 12, .pure 13, .pure 14, .pure 15, .pure 16, .pure 17, .held 18, .pure 19, .pure 20, .pure 21, .pure 22, .pure 23, .held 24, .pure 25, .pure 26, .pure 27, .held 28, .pure 29, .held 30, .pure 31, .held 32, .ex 33 true, .pure 34, .pure 35, .pure 36] rfl (by kernel_rfl) rfl (by kernel_rfl) rfl (by repeat (first | exact subB.nil _ | refine subB.cons rfl ?_)) rfl ?_)
          | ((with_reducible refine atHoIdx ?_); refine Nx.hoIdx 0 (j := p) rfl rfl rfl Try.underlying76 rfl rfl rfl PlH.pt_len hPl rfl (by omega) (by omega) fun _ _ _ => ?_)
          | ((with_reducible refine atHoLoad ?_); first | (refine Nx.hoLoad1 rfl rfl rfl rfl List.mem_cons_self (SeesAt.sub (by assumption) _ rfl) rfl ?_) | (refine Nx.hoLoad1 rfl rfl rfl rfl List.mem_cons_self (by assumption) rfl ?_) | (refine Nx.hoLoad rfl rfl rfl rfl List.mem_cons_self (by assumption) rfl rfl ?_) | (refine Nx.hoLoad1 rfl rfl rfl rfl (List.mem_cons_of_mem _ List.mem_cons_self) (SeesAt.sub (by assumption) _ rfl) rfl ?_) | (refine Nx.hoLoad1 rfl rfl rfl rfl (List.mem_cons_of_mem _ List.mem_cons_self) (by assumption) rfl ?_) | (refine Nx.hoLoad rfl rfl rfl rfl (List.mem_cons_of_mem _ List.mem_cons_self) (by assumption) rfl rfl ?_) | (refine Nx.hoLoad1 rfl rfl rfl rfl (List.mem_cons_of_mem _ (List.mem_cons_of_mem _ List.mem_cons_self)) (SeesAt.sub (by assumption) _ rfl) rfl ?_) | (refine Nx.hoLoad1 rfl rfl rfl rfl (List.mem_cons_of_mem _ (List.mem_cons_of_mem _ List.mem_cons_self)) (by assumption) rfl ?_) | (refine Nx.hoLoad rfl rfl rfl rfl (List.mem_cons_of_mem _ (List.mem_cons_of_mem _ List.mem_cons_self)) (by assumption) rfl rfl ?_) | (refine Nx.hoLoad1 rfl rfl rfl rfl (List.mem_cons_of_mem _ (List.mem_cons_of_mem _ (List.mem_cons_of_mem _ List.mem_cons_self))) (SeesAt.sub (by assumption) _ rfl) rfl ?_) | (refine Nx.hoLoad1 rfl rfl rfl rfl (List.mem_cons_of_mem _ (List.mem_cons_of_mem _ (List.mem_cons_of_mem _ List.mem_cons_self))) (by assumption) rfl ?_) | (refine Nx.hoLoad rfl rfl rfl rfl (List.mem_cons_of_mem _ (List.mem_cons_of_mem _ (List.mem_cons_of_mem _ List.mem_cons_self))) (by assumption) rfl rfl ?_))
          | ((with_reducible refine (atCall 61) ?_); refine Nx.call [0] [0] rfl rfl rfl rfl rfl (hhas) rfl fun v Q hQ => ?_; obtain ⟨rfl, rfl⟩ := hQ)
          | ((with_reducible refine atAftK ?_); refine Nx.keepN [0] rfl (by repeat (first | exact subB.nil _ | refine subB.cons rfl ?_)) (by repeat (first | exact subM.nil _ | refine subM.cons rfl rfl rfl ?_)) rfl ?_)
          | ((with_reducible refine (atCall 37) ?_); refine Nx.call [] [9] rfl rfl rfl rfl rfl ((wrong_ok _ _ 12)) rfl fun v Q hQ => ?_; obtain ⟨b,rfl,rfl⟩ := hQ)
          | ((with_reducible refine atRet ?_); refine Nx.ret [0,9] Try.func45 rfl rfl ?_; (exact MdQ.yes rfl (by decide)))
          | ((with_reducible refine atOps ?_); refine go 200 ?_; conv => whnf)
          | ((with_reducible refine atPlan ?_); refine Nx.runP (n := 200) rfl (by repeat (first | exact subB.nil _ | refine subB.cons rfl ?_)) ?_; conv => whnf)
          | ((with_reducible refine atAftL ?_); refine Nx.late ?_)
          | ((fail_if_success (with_reducible refine atRet ?_)); (fail_if_success (with_reducible refine atLoop ?_)); (fail_if_success (with_reducible refine atIn ?_)); (fail_if_success (with_reducible refine atDrawn ?_)); (fail_if_success (with_reducible refine atEnd ?_)); (with_reducible refine atRun ?_); refine go 200 ?_; conv => whnf))
  have ea : (x.r.ahead.any (M.p.blocks x.r.ring n.seq)) = false := by
    rw [List.any_eq_false]
    intro a hqa
    obtain ⟨q, hql, rfl⟩ := List.getElem_of_mem hqa
    rw [hno q (by omega) hql]; decide
  rw [ea, if_neg (by decide)]
  by_cases h3 : x.r.pool < 0
  · rw [if_pos h3]
    by_cases h4 : n.seq ≠ x.r.next
    · rw [if_pos h4]
      repeat' (first
        | ((with_reducible refine atBr ?_); refine BrM.yes (by omega) ?_; conv => whnf)
        | ((with_reducible refine atBr ?_); refine BrM.not (by omega) ?_; conv => whnf)
        | ((with_reducible refine atBr ?_); (first | refine BrM.t rfl ?_ | refine BrM.f rfl ?_ | refine BrM.dec (fun _ => ?_) (fun _ => ?_) | refine BrM.mk (fun _ => ?_) (fun _ => ?_)) <;> conv => whnf)
        | ((with_reducible refine atAr ?_); refine Ar.i64 (by omega) (by omega) ?_; conv => whnf)
        | ((with_reducible refine atLoad ?_); refine Nx.load1 0 rfl rfl rfl rfl (r5) rfl ?_)
        | ((with_reducible refine (atDrawnN 14) ?_); refine Nx.drawn0 [0] [.pure 0, .held 1, .pure 2, .pure 3, .pure 4, .held 5, .pure 6] rfl (by kernel_rfl) rfl (by kernel_rfl) rfl (by repeat (first | exact subB.nil _ | refine subB.cons rfl ?_)) rfl ?_)
        | ((with_reducible refine atHoLoad ?_); first | (refine Nx.hoLoad1 rfl rfl rfl rfl List.mem_cons_self (SeesAt.sub (by assumption) _ rfl) rfl ?_) | (refine Nx.hoLoad1 rfl rfl rfl rfl List.mem_cons_self (by assumption) rfl ?_) | (refine Nx.hoLoad rfl rfl rfl rfl List.mem_cons_self (by assumption) rfl rfl ?_) | (refine Nx.hoLoad1 rfl rfl rfl rfl (List.mem_cons_of_mem _ List.mem_cons_self) (SeesAt.sub (by assumption) _ rfl) rfl ?_) | (refine Nx.hoLoad1 rfl rfl rfl rfl (List.mem_cons_of_mem _ List.mem_cons_self) (by assumption) rfl ?_) | (refine Nx.hoLoad rfl rfl rfl rfl (List.mem_cons_of_mem _ List.mem_cons_self) (by assumption) rfl rfl ?_) | (refine Nx.hoLoad1 rfl rfl rfl rfl (List.mem_cons_of_mem _ (List.mem_cons_of_mem _ List.mem_cons_self)) (SeesAt.sub (by assumption) _ rfl) rfl ?_) | (refine Nx.hoLoad1 rfl rfl rfl rfl (List.mem_cons_of_mem _ (List.mem_cons_of_mem _ List.mem_cons_self)) (by assumption) rfl ?_) | (refine Nx.hoLoad rfl rfl rfl rfl (List.mem_cons_of_mem _ (List.mem_cons_of_mem _ List.mem_cons_self)) (by assumption) rfl rfl ?_) | (refine Nx.hoLoad1 rfl rfl rfl rfl (List.mem_cons_of_mem _ (List.mem_cons_of_mem _ (List.mem_cons_of_mem _ List.mem_cons_self))) (SeesAt.sub (by assumption) _ rfl) rfl ?_) | (refine Nx.hoLoad1 rfl rfl rfl rfl (List.mem_cons_of_mem _ (List.mem_cons_of_mem _ (List.mem_cons_of_mem _ List.mem_cons_self))) (by assumption) rfl ?_) | (refine Nx.hoLoad rfl rfl rfl rfl (List.mem_cons_of_mem _ (List.mem_cons_of_mem _ (List.mem_cons_of_mem _ List.mem_cons_self))) (by assumption) rfl rfl ?_))
        | ((with_reducible refine (atCall 37) ?_); refine Nx.call [] [9] rfl rfl rfl rfl rfl ((wrong_ok _ _ 1)) rfl fun v Q hQ => ?_; obtain ⟨b,rfl,rfl⟩ := hQ)
        | ((with_reducible refine atRet ?_); refine Nx.ret [0,9] Try.func45 rfl rfl ?_; (exact MdQ.yes rfl (by decide)))
        | ((with_reducible refine atOps ?_); refine go 200 ?_; conv => whnf)
        | ((with_reducible refine atPlan ?_); refine Nx.runP (n := 200) rfl (by repeat (first | exact subB.nil _ | refine subB.cons rfl ?_)) ?_; conv => whnf)
        | ((with_reducible refine atAftL ?_); refine Nx.late ?_)
        | ((fail_if_success (with_reducible refine atRet ?_)); (fail_if_success (with_reducible refine atLoop ?_)); (fail_if_success (with_reducible refine atIn ?_)); (fail_if_success (with_reducible refine atDrawn ?_)); (fail_if_success (with_reducible refine atEnd ?_)); (with_reducible refine atRun ?_); refine go 200 ?_; conv => whnf))
    rw [if_neg (by omega)]
    obtain ⟨y, hy⟩ : ∃ y : RdH, y = { x with r := { x.r with next := x.r.next + 1 } } := ⟨_, rfl⟩
    have ep : (M.setR k y).p = M.p.setR k fun r => { r with next := r.next + 1 } := MdH.setR_p hx (by rw [hy])
    repeat' (first
      | ((with_reducible refine atBr ?_); refine BrM.yes (by omega) ?_; conv => whnf)
      | ((with_reducible refine atBr ?_); refine BrM.not (by omega) ?_; conv => whnf)
      | ((with_reducible refine atBr ?_); (first | refine BrM.t rfl ?_ | refine BrM.f rfl ?_ | refine BrM.dec (fun _ => ?_) (fun _ => ?_) | refine BrM.mk (fun _ => ?_) (fun _ => ?_)) <;> conv => whnf)
      | ((with_reducible refine atAr ?_); refine Ar.i64 (by omega) (by omega) ?_; conv => whnf)
      | ((with_reducible refine atLoad ?_); refine Nx.load1 0 rfl rfl rfl rfl (r5) rfl ?_)
      | ((with_reducible refine (atDrawnN 14) ?_); refine Nx.drawn0 [0] [.pure 0, .held 1, .pure 2, .pure 3, .pure 4, .held 5, .pure 6] rfl (by kernel_rfl) rfl (by kernel_rfl) rfl (by repeat (first | exact subB.nil _ | refine subB.cons rfl ?_)) rfl ?_)
      | ((with_reducible refine atHoLoad ?_); first | (refine Nx.hoLoad1 rfl rfl rfl rfl List.mem_cons_self (SeesAt.sub (by assumption) _ rfl) rfl ?_) | (refine Nx.hoLoad1 rfl rfl rfl rfl List.mem_cons_self (by assumption) rfl ?_) | (refine Nx.hoLoad rfl rfl rfl rfl List.mem_cons_self (by assumption) rfl rfl ?_) | (refine Nx.hoLoad1 rfl rfl rfl rfl (List.mem_cons_of_mem _ List.mem_cons_self) (SeesAt.sub (by assumption) _ rfl) rfl ?_) | (refine Nx.hoLoad1 rfl rfl rfl rfl (List.mem_cons_of_mem _ List.mem_cons_self) (by assumption) rfl ?_) | (refine Nx.hoLoad rfl rfl rfl rfl (List.mem_cons_of_mem _ List.mem_cons_self) (by assumption) rfl rfl ?_) | (refine Nx.hoLoad1 rfl rfl rfl rfl (List.mem_cons_of_mem _ (List.mem_cons_of_mem _ List.mem_cons_self)) (SeesAt.sub (by assumption) _ rfl) rfl ?_) | (refine Nx.hoLoad1 rfl rfl rfl rfl (List.mem_cons_of_mem _ (List.mem_cons_of_mem _ List.mem_cons_self)) (by assumption) rfl ?_) | (refine Nx.hoLoad rfl rfl rfl rfl (List.mem_cons_of_mem _ (List.mem_cons_of_mem _ List.mem_cons_self)) (by assumption) rfl rfl ?_) | (refine Nx.hoLoad1 rfl rfl rfl rfl (List.mem_cons_of_mem _ (List.mem_cons_of_mem _ (List.mem_cons_of_mem _ List.mem_cons_self))) (SeesAt.sub (by assumption) _ rfl) rfl ?_) | (refine Nx.hoLoad1 rfl rfl rfl rfl (List.mem_cons_of_mem _ (List.mem_cons_of_mem _ (List.mem_cons_of_mem _ List.mem_cons_self))) (by assumption) rfl ?_) | (refine Nx.hoLoad rfl rfl rfl rfl (List.mem_cons_of_mem _ (List.mem_cons_of_mem _ (List.mem_cons_of_mem _ List.mem_cons_self))) (by assumption) rfl rfl ?_))
      | ((with_reducible refine atLoad ?_); refine Nx.load1 0 rfl rfl rfl rfl (r2) rfl ?_)
      | ((with_reducible refine atStore ?_); refine Nx.storeW 0 (M.setR k y).sp rfl rfl rfl rfl rfl rfl rfl rfl rfl (MdH.setR_sp hx (by decide) (by rw [hy]) (by rw [hy]; rfl) (by rw [hy]) (by rw [hy])) ?_)
      | ((with_reducible refine atRet ?_); refine Nx.ret [0] Try.func45 rfl rfl ?_; (exact MdQ.no (M := M.setR k y) rfl ep))
      | ((with_reducible refine atOps ?_); refine go 200 ?_; conv => whnf)
      | ((with_reducible refine atPlan ?_); refine Nx.runP (n := 200) rfl (by repeat (first | exact subB.nil _ | refine subB.cons rfl ?_)) ?_; conv => whnf)
      | ((with_reducible refine atAftL ?_); refine Nx.late ?_)
      | ((fail_if_success (with_reducible refine atRet ?_)); (fail_if_success (with_reducible refine atLoop ?_)); (fail_if_success (with_reducible refine atIn ?_)); (fail_if_success (with_reducible refine atDrawn ?_)); (fail_if_success (with_reducible refine atEnd ?_)); (with_reducible refine atRun ?_); refine go 200 ?_; conv => whnf))
  rw [if_neg h3]
  have hpl := hm.rpool x.r hxp
  obtain ⟨p, hp⟩ : ∃ p : Nat, x.r.pool = p := ⟨x.r.pool.toNat, by omega⟩
  have hpl2 : p < M.pools.length := by
    have := hpl.2
    simp only [MdH.p, List.length_map] at this
    omega
  obtain ⟨z, hz⟩ : ∃ z, z = M.pools[p] := ⟨_, rfl⟩
  have hzk : M.pools[p]? = some z := by rw [hz]; exact List.getElem?_eq_getElem hpl2
  have hzm : z ∈ M.pools := List.mem_of_getElem? hzk
  have hzb := hm.pl z.p (List.mem_map_of_mem hzm)
  have hhas := has_ok M hzm hzb n.seq (by omega)
  have epn : x.r.pool.toNat = p := by omega
  have ez : M.p.pools[x.r.pool.toNat]? = some z.p := by
    rw [epn, hz]
    simp [MdH.p, List.getElem?_eq_getElem hpl2]
  have hzat := MdH.pat (M := M) hzm
  rw [ez]
  dsimp only
  cases hh : z.p.has n.seq with
  | true =>
    rw [hh, hz] at hhas
    rw [if_pos rfl]
    repeat' (first
      | ((with_reducible refine atBr ?_); refine BrM.yes (by omega) ?_; conv => whnf)
      | ((with_reducible refine atBr ?_); refine BrM.not (by omega) ?_; conv => whnf)
      | ((with_reducible refine atBr ?_); (first | refine BrM.t rfl ?_ | refine BrM.f rfl ?_ | refine BrM.dec (fun _ => ?_) (fun _ => ?_) | refine BrM.mk (fun _ => ?_) (fun _ => ?_)) <;> conv => whnf)
      | ((with_reducible refine atAr ?_); refine Ar.i64 (by omega) (by omega) ?_; conv => whnf)
      | ((with_reducible refine atLoad ?_); refine Nx.load1 0 rfl rfl rfl rfl (r5) rfl ?_)
      | ((with_reducible refine (atDrawnN 18) ?_); refine Nx.drawn0 [0] [.pure 0, .pure 1, .pure 2, .held 3, .pure 4, .pure 5, .pure 6, .held 7, .pure 8, .held 9, .pure 10] rfl (by kernel_rfl) rfl (by kernel_rfl) rfl (by repeat (first | exact subB.nil _ | refine subB.cons rfl ?_)) rfl ?_)
      | ((with_reducible refine atHoIdx ?_); refine Nx.hoIdx 0 (j := p) rfl rfl rfl Try.underlying76 rfl rfl rfl PlH.pt_len hPl rfl (by omega) (by omega) fun _ _ _ => ?_)
      | ((with_reducible refine atHoLoad ?_); first | (refine Nx.hoLoad1 rfl rfl rfl rfl List.mem_cons_self (SeesAt.sub (by assumption) _ rfl) rfl ?_) | (refine Nx.hoLoad1 rfl rfl rfl rfl List.mem_cons_self (by assumption) rfl ?_) | (refine Nx.hoLoad rfl rfl rfl rfl List.mem_cons_self (by assumption) rfl rfl ?_) | (refine Nx.hoLoad1 rfl rfl rfl rfl (List.mem_cons_of_mem _ List.mem_cons_self) (SeesAt.sub (by assumption) _ rfl) rfl ?_) | (refine Nx.hoLoad1 rfl rfl rfl rfl (List.mem_cons_of_mem _ List.mem_cons_self) (by assumption) rfl ?_) | (refine Nx.hoLoad rfl rfl rfl rfl (List.mem_cons_of_mem _ List.mem_cons_self) (by assumption) rfl rfl ?_) | (refine Nx.hoLoad1 rfl rfl rfl rfl (List.mem_cons_of_mem _ (List.mem_cons_of_mem _ List.mem_cons_self)) (SeesAt.sub (by assumption) _ rfl) rfl ?_) | (refine Nx.hoLoad1 rfl rfl rfl rfl (List.mem_cons_of_mem _ (List.mem_cons_of_mem _ List.mem_cons_self)) (by assumption) rfl ?_) | (refine Nx.hoLoad rfl rfl rfl rfl (List.mem_cons_of_mem _ (List.mem_cons_of_mem _ List.mem_cons_self)) (by assumption) rfl rfl ?_) | (refine Nx.hoLoad1 rfl rfl rfl rfl (List.mem_cons_of_mem _ (List.mem_cons_of_mem _ (List.mem_cons_of_mem _ List.mem_cons_self))) (SeesAt.sub (by assumption) _ rfl) rfl ?_) | (refine Nx.hoLoad1 rfl rfl rfl rfl (List.mem_cons_of_mem _ (List.mem_cons_of_mem _ (List.mem_cons_of_mem _ List.mem_cons_self))) (by assumption) rfl ?_) | (refine Nx.hoLoad rfl rfl rfl rfl (List.mem_cons_of_mem _ (List.mem_cons_of_mem _ (List.mem_cons_of_mem _ List.mem_cons_self))) (by assumption) rfl rfl ?_))
      | ((with_reducible refine (atCall 61) ?_); refine Nx.call [0] [0] rfl rfl rfl rfl rfl (hhas) rfl fun v Q hQ => ?_; obtain ⟨rfl, rfl⟩ := hQ)
      | ((with_reducible refine (atCall 37) ?_); refine Nx.call [] [9] rfl rfl rfl rfl rfl ((wrong_ok _ _ 4)) rfl fun v Q hQ => ?_; obtain ⟨b,rfl,rfl⟩ := hQ)
      | ((with_reducible refine atRet ?_); refine Nx.ret [0,9] Try.func45 rfl rfl ?_; (exact MdQ.yes rfl (by decide)))
      | ((with_reducible refine atOps ?_); refine go 200 ?_; conv => whnf)
      | ((with_reducible refine atPlan ?_); refine Nx.runP (n := 200) rfl (by repeat (first | exact subB.nil _ | refine subB.cons rfl ?_)) ?_; conv => whnf)
      | ((with_reducible refine atAftL ?_); refine Nx.late ?_)
      | ((fail_if_success (with_reducible refine atRet ?_)); (fail_if_success (with_reducible refine atLoop ?_)); (fail_if_success (with_reducible refine atIn ?_)); (fail_if_success (with_reducible refine atDrawn ?_)); (fail_if_success (with_reducible refine atEnd ?_)); (with_reducible refine atRun ?_); refine go 200 ?_; conv => whnf))
  | false =>
  have hst : z.p.start ≤ n.seq := by
    unfold PlP.has at hh
    simp only [Bool.or_eq_false_iff, decide_eq_false_iff_not] at hh
    omega
  rw [hh, hz] at hhas
  rw [if_neg (by decide)]
  repeat' (first
    | ((with_reducible refine atBr ?_); refine BrM.yes (by omega) ?_; conv => whnf)
    | ((with_reducible refine atBr ?_); refine BrM.not (by omega) ?_; conv => whnf)
    | ((with_reducible refine atBr ?_); (first | refine BrM.t rfl ?_ | refine BrM.f rfl ?_ | refine BrM.dec (fun _ => ?_) (fun _ => ?_) | refine BrM.mk (fun _ => ?_) (fun _ => ?_)) <;> conv => whnf)
    | ((with_reducible refine atAr ?_); refine Ar.i64 (by omega) (by omega) ?_; conv => whnf)
    | ((with_reducible refine atLoad ?_); refine Nx.load1 0 rfl rfl rfl rfl (r5) rfl ?_)
    | ((with_reducible refine (atDrawnN 18) ?_); refine Nx.drawn0 [0] [.pure 0, .pure 1, .pure 2, .held 3, .pure 4, .pure 5, .pure 6, .held 7, .pure 8, .held 9, .pure 10] rfl (by kernel_rfl) rfl (by kernel_rfl) rfl (by repeat (first | exact subB.nil _ | refine subB.cons rfl ?_)) rfl ?_)
    | ((with_reducible refine atHoIdx ?_); refine Nx.hoIdx 0 (j := p) rfl rfl rfl Try.underlying76 rfl rfl rfl PlH.pt_len hPl rfl (by omega) (by omega) fun _ _ _ => ?_)
    | ((with_reducible refine atHoLoad ?_); first | (refine Nx.hoLoad1 rfl rfl rfl rfl List.mem_cons_self (SeesAt.sub (by assumption) _ rfl) rfl ?_) | (refine Nx.hoLoad1 rfl rfl rfl rfl List.mem_cons_self (by assumption) rfl ?_) | (refine Nx.hoLoad rfl rfl rfl rfl List.mem_cons_self (by assumption) rfl rfl ?_) | (refine Nx.hoLoad1 rfl rfl rfl rfl (List.mem_cons_of_mem _ List.mem_cons_self) (SeesAt.sub (by assumption) _ rfl) rfl ?_) | (refine Nx.hoLoad1 rfl rfl rfl rfl (List.mem_cons_of_mem _ List.mem_cons_self) (by assumption) rfl ?_) | (refine Nx.hoLoad rfl rfl rfl rfl (List.mem_cons_of_mem _ List.mem_cons_self) (by assumption) rfl rfl ?_) | (refine Nx.hoLoad1 rfl rfl rfl rfl (List.mem_cons_of_mem _ (List.mem_cons_of_mem _ List.mem_cons_self)) (SeesAt.sub (by assumption) _ rfl) rfl ?_) | (refine Nx.hoLoad1 rfl rfl rfl rfl (List.mem_cons_of_mem _ (List.mem_cons_of_mem _ List.mem_cons_self)) (by assumption) rfl ?_) | (refine Nx.hoLoad rfl rfl rfl rfl (List.mem_cons_of_mem _ (List.mem_cons_of_mem _ List.mem_cons_self)) (by assumption) rfl rfl ?_) | (refine Nx.hoLoad1 rfl rfl rfl rfl (List.mem_cons_of_mem _ (List.mem_cons_of_mem _ (List.mem_cons_of_mem _ List.mem_cons_self))) (SeesAt.sub (by assumption) _ rfl) rfl ?_) | (refine Nx.hoLoad1 rfl rfl rfl rfl (List.mem_cons_of_mem _ (List.mem_cons_of_mem _ (List.mem_cons_of_mem _ List.mem_cons_self))) (by assumption) rfl ?_) | (refine Nx.hoLoad rfl rfl rfl rfl (List.mem_cons_of_mem _ (List.mem_cons_of_mem _ (List.mem_cons_of_mem _ List.mem_cons_self))) (by assumption) rfl rfl ?_))
    | ((with_reducible refine (atCall 61) ?_); refine Nx.call [0] [0] rfl rfl rfl rfl rfl (hhas) rfl fun v Q hQ => ?_; obtain ⟨rfl, rfl⟩ := hQ)
    | ((with_reducible refine atOps ?_); refine go 200 ?_; conv => whnf)
    | ((with_reducible refine atPlan ?_); refine Nx.runP (n := 200) rfl (by repeat (first | exact subB.nil _ | refine subB.cons rfl ?_)) ?_; conv => whnf)
    | ((with_reducible refine atAftL ?_); refine Nx.late ?_)
    | ((fail_if_success (with_reducible refine atRet ?_)); (fail_if_success (with_reducible refine atLoop ?_)); (fail_if_success (with_reducible refine atIn ?_)); (fail_if_success (with_reducible refine atDrawn ?_)); (fail_if_success (with_reducible refine atEnd ?_)); (with_reducible refine atRun ?_); refine go 200 ?_; conv => whnf))
  rw [← hz]
  obtain ⟨i, hi⟩ : ∃ i : Nat, n.seq - z.p.start = i := ⟨(n.seq - z.p.start).toNat, by omega⟩
  refine Nx.turn [0] [10, 0] [z.sp, M.holeP p] rfl (MdH.outP hzk) ?_
  refine Nx.turn [10] [10, 11] [blk z.b (.cells z.cells.toArray 109 (0, 0)), ownT 4 z.tA z.p.taken.length z.tc 1 (z.p.taken.flatMap boC)] rfl sat_unstar ?_
  refine Nx.loop (X := PlX) (fun w => w.j ≤ i + 1 - z.p.taken.length ∧ w.X.b = z.b ∧ w.X.p = ⟨z.p.start, z.p.taken ++ List.replicate w.j false⟩) (fun w => i + 1 - z.p.taken.length - w.j)
    (fun w => [(0, .c (.v (ptr M.b))), (1, .c (.v (ptr x.b))), (5, .c (.loc 5 0)), (12, .c (.v (ptr z.b)))]) (fun _ => [(5, 42, [.v (.int .i64 n.who), .v (.int .i64 n.ring), .v (.int .i64 n.deed), .v (.int .i64 n.lo), .v (.int .i64 n.seq), .v (.int .i64 n.x.key), .v (.int .i64 n.x.val), .v (.int .i64 n.code)])]) [(5, b5)]
    (fun w => [(10, blk z.b (.cells w.X.cells.toArray 109 (0, 0))), (11, ownT 4 w.X.tA w.X.p.taken.length w.X.tc 1 (w.X.p.taken.flatMap boC)), (0, M.holeP p)]) ⟨z, 0⟩ ⟨Nat.zero_le _, rfl, by simp⟩ ?_ ?_ ?_ ?_ ?_
  · repeat (first | exact subE.nil _ | refine subE.cons rfl rfl ?_ | refine subE.cons' rfl (fun _ => rfl) ?_)
  · repeat (first | exact subM.nil _ | refine subM.cons rfl rfl rfl ?_)
  · repeat (first | exact subB.nil _ | refine subB.cons rfl ?_)
  · repeat (first | exact subR.nil _ | refine subR.cons rfl rfl ?_)
  clear ih
  intro ⟨X, j⟩ ⟨hj, hXb, hXp⟩ ih
  dsimp only at hj hXb hXp ih ⊢
  have hXs : X.p.start = z.p.start := by rw [hXp]
  have hXl : X.p.taken.length = z.p.taken.length + j := by rw [hXp]; simp
  have hB : SeesAt (blk z.b (.cells X.cells.toArray 109 (0, 0))) z.b 0 X.cells := blk_at _ _ _
  have b0 := hB.sub 0 rfl
  have b1 := hB.sub 1 rfl
  rw [hXs] at b0
  clear hB
  by_cases hlt : X.p.taken.length ≤ i
  · repeat' (first
      | ((with_reducible refine atBr ?_); refine BrM.yes (by omega) ?_; conv => whnf)
      | ((with_reducible refine atBr ?_); (first | refine BrM.t rfl ?_ | refine BrM.f rfl ?_ | refine BrM.dec (fun _ => ?_) (fun _ => ?_) | refine BrM.mk (fun _ => ?_) (fun _ => ?_)) <;> conv => whnf)
      | ((with_reducible refine atAr ?_); refine Ar.i64 (by omega) (by omega) ?_; conv => whnf)
      | ((with_reducible refine (atDrawnN 21) ?_); refine Nx.drawn0 [10] [.pure 0, .pure 1, .pure 2, .held 3, .pure 4, .pure 5, .held 6, .pure 7, .pure 8, .pure 9, .held 10, .pure 11, .pure 12] rfl (by kernel_rfl) rfl (by kernel_rfl) rfl (by repeat (first | exact subB.nil _ | refine subB.cons rfl ?_)) rfl ?_)
      | ((with_reducible refine atHoLoad ?_); first | (refine Nx.hoLoad1 rfl rfl rfl rfl List.mem_cons_self (SeesAt.sub (by assumption) _ rfl) rfl ?_) | (refine Nx.hoLoad1 rfl rfl rfl rfl List.mem_cons_self (by assumption) rfl ?_) | (refine Nx.hoLoad rfl rfl rfl rfl List.mem_cons_self (by assumption) rfl rfl ?_) | (refine Nx.hoLoad1 rfl rfl rfl rfl (List.mem_cons_of_mem _ List.mem_cons_self) (SeesAt.sub (by assumption) _ rfl) rfl ?_) | (refine Nx.hoLoad1 rfl rfl rfl rfl (List.mem_cons_of_mem _ List.mem_cons_self) (by assumption) rfl ?_) | (refine Nx.hoLoad rfl rfl rfl rfl (List.mem_cons_of_mem _ List.mem_cons_self) (by assumption) rfl rfl ?_) | (refine Nx.hoLoad1 rfl rfl rfl rfl (List.mem_cons_of_mem _ (List.mem_cons_of_mem _ List.mem_cons_self)) (SeesAt.sub (by assumption) _ rfl) rfl ?_) | (refine Nx.hoLoad1 rfl rfl rfl rfl (List.mem_cons_of_mem _ (List.mem_cons_of_mem _ List.mem_cons_self)) (by assumption) rfl ?_) | (refine Nx.hoLoad rfl rfl rfl rfl (List.mem_cons_of_mem _ (List.mem_cons_of_mem _ List.mem_cons_self)) (by assumption) rfl rfl ?_) | (refine Nx.hoLoad1 rfl rfl rfl rfl (List.mem_cons_of_mem _ (List.mem_cons_of_mem _ (List.mem_cons_of_mem _ List.mem_cons_self))) (SeesAt.sub (by assumption) _ rfl) rfl ?_) | (refine Nx.hoLoad1 rfl rfl rfl rfl (List.mem_cons_of_mem _ (List.mem_cons_of_mem _ (List.mem_cons_of_mem _ List.mem_cons_self))) (by assumption) rfl ?_) | (refine Nx.hoLoad rfl rfl rfl rfl (List.mem_cons_of_mem _ (List.mem_cons_of_mem _ (List.mem_cons_of_mem _ List.mem_cons_self))) (by assumption) rfl rfl ?_))
      | ((with_reducible refine atLoad ?_); refine Nx.load1 10 rfl rfl rfl rfl (b1) rfl ?_)
      | ((with_reducible refine atApp ?_); refine Nx.appendT 11 (sz := 1) (by_ := 1) (news := [.bool false]) rfl rfl rfl rfl rfl Try.underlying88 rfl rfl rfl rfl rfl (by decide) (by unfold maxLen; omega) (by omega) fun Bt bt => ?_)
      | ((with_reducible refine atStore ?_); refine Nx.storeW 10 _ rfl rfl rfl rfl rfl rfl rfl rfl rfl (blk_set (by show 1 < 2; decide)) ?_)
      | ((with_reducible refine atOps ?_); refine go 200 ?_; conv => whnf)
      | ((with_reducible refine atPlan ?_); refine Nx.runP (n := 200) rfl (by repeat (first | exact subB.nil _ | refine subB.cons rfl ?_)) ?_; conv => whnf)
      | ((with_reducible refine atAftL ?_); refine Nx.late ?_)
      | ((fail_if_success (with_reducible refine atRet ?_)); (fail_if_success (with_reducible refine atLoop ?_)); (fail_if_success (with_reducible refine atIn ?_)); (fail_if_success (with_reducible refine atDrawn ?_)); (fail_if_success (with_reducible refine atEnd ?_)); (with_reducible refine atRun ?_); refine go 200 ?_; conv => whnf))
    obtain ⟨Y, hY⟩ : ∃ Y : PlH, Y = ⟨X.b, ⟨X.p.start, X.p.taken ++ [false]⟩, Bt, bt⟩ := ⟨_, rfl⟩
    refine Nx.turn [10, 11] [10, 11] [blk z.b (.cells Y.cells.toArray 109 (0, 0)), ownT 4 Y.tA Y.p.taken.length Y.tc 1 (Y.p.taken.flatMap boC)] rfl (fun r h hs => by
      rw [hY]
      simp only [PlH.cells, List.flatMap_append, List.flatMap_cons, List.flatMap_nil, List.length_append, List.length_singleton, List.append_nil]
      exact hs) ?_
    refine (ih ⟨Y, j + 1⟩ ⟨by dsimp only; omega, by rw [hY]; exact hXb, by rw [hY]; dsimp only; rw [hXp]; simp only [List.replicate_succ', List.append_assoc]⟩ (by dsimp only; omega)).weak ?_ ?_ ?_ ?_
    · repeat (first | exact subE.nil _ | refine subE.cons rfl rfl ?_ | refine subE.cons' rfl (fun _ => rfl) ?_)
    · repeat (first | exact subM.nil _ | refine subM.cons rfl rfl rfl ?_)
    · repeat (first | exact subB.nil _ | refine subB.cons rfl ?_)
    · repeat (first | exact subR.nil _ | refine subR.cons rfl rfl ?_)
  · have ej : j = i + 1 - z.p.taken.length := by omega
    have hin : i < X.p.taken.length := by omega
    repeat' (first
      | ((with_reducible refine atBr ?_); refine BrM.not (by omega) ?_; conv => whnf)
      | ((with_reducible refine atBr ?_); (first | refine BrM.t rfl ?_ | refine BrM.f rfl ?_ | refine BrM.dec (fun _ => ?_) (fun _ => ?_) | refine BrM.mk (fun _ => ?_) (fun _ => ?_)) <;> conv => whnf)
      | ((with_reducible refine atAr ?_); refine Ar.i64 (by omega) (by omega) ?_; conv => whnf)
      | ((with_reducible refine (atDrawnN 21) ?_); refine Nx.drawn0 [10] [.pure 0, .pure 1, .pure 2, .held 3, .pure 4, .pure 5, .held 6, .pure 7, .pure 8, .pure 9, .held 10, .pure 11, .pure 12] rfl (by kernel_rfl) rfl (by kernel_rfl) rfl (by repeat (first | exact subB.nil _ | refine subB.cons rfl ?_)) rfl ?_)
      | ((with_reducible refine (atDrawnN 23) ?_); refine Nx.drawn0 [10] [.pure 0, .pure 1, .pure 2, .held 3, .pure 4, .held 5, .pure 6, .pure 7, .pure 8, .held 9, .pure 10, .pure 11, .ex 12 false] rfl (by kernel_rfl) rfl (by kernel_rfl) rfl (by repeat (first | exact subB.nil _ | refine subB.cons rfl ?_)) rfl ?_)
      | ((with_reducible refine atHoLoad ?_); first | (refine Nx.hoLoad1 rfl rfl rfl rfl List.mem_cons_self (SeesAt.sub (by assumption) _ rfl) rfl ?_) | (refine Nx.hoLoad1 rfl rfl rfl rfl List.mem_cons_self (by assumption) rfl ?_) | (refine Nx.hoLoad rfl rfl rfl rfl List.mem_cons_self (by assumption) rfl rfl ?_) | (refine Nx.hoLoad1 rfl rfl rfl rfl (List.mem_cons_of_mem _ List.mem_cons_self) (SeesAt.sub (by assumption) _ rfl) rfl ?_) | (refine Nx.hoLoad1 rfl rfl rfl rfl (List.mem_cons_of_mem _ List.mem_cons_self) (by assumption) rfl ?_) | (refine Nx.hoLoad rfl rfl rfl rfl (List.mem_cons_of_mem _ List.mem_cons_self) (by assumption) rfl rfl ?_) | (refine Nx.hoLoad1 rfl rfl rfl rfl (List.mem_cons_of_mem _ (List.mem_cons_of_mem _ List.mem_cons_self)) (SeesAt.sub (by assumption) _ rfl) rfl ?_) | (refine Nx.hoLoad1 rfl rfl rfl rfl (List.mem_cons_of_mem _ (List.mem_cons_of_mem _ List.mem_cons_self)) (by assumption) rfl ?_) | (refine Nx.hoLoad rfl rfl rfl rfl (List.mem_cons_of_mem _ (List.mem_cons_of_mem _ List.mem_cons_self)) (by assumption) rfl rfl ?_) | (refine Nx.hoLoad1 rfl rfl rfl rfl (List.mem_cons_of_mem _ (List.mem_cons_of_mem _ (List.mem_cons_of_mem _ List.mem_cons_self))) (SeesAt.sub (by assumption) _ rfl) rfl ?_) | (refine Nx.hoLoad1 rfl rfl rfl rfl (List.mem_cons_of_mem _ (List.mem_cons_of_mem _ (List.mem_cons_of_mem _ List.mem_cons_self))) (by assumption) rfl ?_) | (refine Nx.hoLoad rfl rfl rfl rfl (List.mem_cons_of_mem _ (List.mem_cons_of_mem _ (List.mem_cons_of_mem _ List.mem_cons_self))) (by assumption) rfl rfl ?_))
      | ((with_reducible refine atHoIdx ?_); refine Nx.hoIdxT 11 (j := i) rfl rfl rfl Try.underlying88 rfl rfl rfl hi hin fun Bt pt hBt => ?_)
      | ((with_reducible refine atStore ?_); refine Nx.storeW 11 (ownT 4 X.tA X.p.taken.length X.tc 1 ((X.p.taken.flatMap boC).set (i * 1) (.bool true))) rfl rfl rfl rfl rfl rfl rfl rfl rfl (by rw [hBt]; exact ownT_set (j := i * 1) (by omega)) ?_)
      | ((with_reducible refine atOps ?_); refine go 200 ?_; conv => whnf)
      | ((with_reducible refine atPlan ?_); refine Nx.runP (n := 200) rfl (by repeat (first | exact subB.nil _ | refine subB.cons rfl ?_)) ?_; conv => whnf)
      | ((with_reducible refine atAftL ?_); refine Nx.late ?_)
      | ((fail_if_success (with_reducible refine atRet ?_)); (fail_if_success (with_reducible refine atLoop ?_)); (fail_if_success (with_reducible refine atIn ?_)); (fail_if_success (with_reducible refine atDrawn ?_)); (fail_if_success (with_reducible refine atEnd ?_)); (with_reducible refine atRun ?_); refine go 200 ?_; conv => whnf))
    obtain ⟨Y, hY⟩ : ∃ Y : PlH, Y = ⟨X.b, ⟨X.p.start, X.p.taken.set i true⟩, X.tA, X.tc⟩ := ⟨_, rfl⟩
    have eYb : Y.b = z.b := by rw [hY]; exact hXb
    refine Nx.turn [10, 11] [10] [Y.sp] rfl (fun r h hs => by
      refine sat_restar ?_
      rw [boC_set] at hs
      rw [eYb, hY]
      simp only [PlH.cells, List.length_set]
      exact hs) ?_
    refine Nx.turn [10, 0] [0] [(M.setP p Y).sp] rfl (MdH.inP hzk eYb) ?_
    have ep : (M.setP p Y).p = { M.p with pools := M.p.pools.modify x.r.pool.toNat fun p => p.put (n.seq - p.start).toNat } := by
      rw [epn]
      refine MdH.setP_p hzk ?_
      rw [hY]
      unfold PlP.put
      have e1 : (n.seq - z.p.start).toNat = i := by omega
      dsimp only
      rw [e1, hXp, ej]
    repeat' (first
      | ((with_reducible refine atBr ?_); (first | refine BrM.t rfl ?_ | refine BrM.f rfl ?_ | refine BrM.dec (fun _ => ?_) (fun _ => ?_) | refine BrM.mk (fun _ => ?_) (fun _ => ?_)) <;> conv => whnf)
      | ((with_reducible refine atAr ?_); refine Ar.i64 (by omega) (by omega) ?_; conv => whnf)
      | ((with_reducible refine atRet ?_); refine Nx.ret [0] Try.func45 rfl rfl ?_; (exact MdQ.no (M := M.setP p Y) rfl ep))
      | ((with_reducible refine atOps ?_); refine go 200 ?_; conv => whnf)
      | ((with_reducible refine atPlan ?_); refine Nx.runP (n := 200) rfl (by repeat (first | exact subB.nil _ | refine subB.cons rfl ?_)) ?_; conv => whnf)
      | ((with_reducible refine atAftL ?_); refine Nx.late ?_)
      | ((fail_if_success (with_reducible refine atRet ?_)); (fail_if_success (with_reducible refine atLoop ?_)); (fail_if_success (with_reducible refine atIn ?_)); (fail_if_success (with_reducible refine atDrawn ?_)); (fail_if_success (with_reducible refine atEnd ?_)); (with_reducible refine atRun ?_); refine go 200 ?_; conv => whnf))
end Go.Proofs.Ytngfadijcpnblaa
