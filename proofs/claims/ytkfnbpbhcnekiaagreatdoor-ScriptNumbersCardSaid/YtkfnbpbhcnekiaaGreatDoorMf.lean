/- ScriptNumbers, walked. -/
import Derived.Test.YtkfnbpbhcnekiaaGreatDoorMe
import Derived.Test.YtkfnbpbhcnekiaaGreatDoorRows
import Derived.MakeChecks
import Derived.ChangeMaps5
set_option linter.unusedSimpArgs false
set_option linter.unusedVariables false
/- The document's Plain; small functions of the statements. -/
namespace Go.Proofs.YtkfnbpbhcnekiaaGreatDoor
open Go.RowKit Go.Lib
attribute [local irreducible] Nx Ar BrM
set_option maxRecDepth 20000
set_option maxHeartbeats 4000000

def PlPost (S1 S2 : SP) (o : Ln) (v : Value) (Q : List SP) : Prop := ∃ A c B d, v = lnV o A c B d ∧ Q = [S1, S2, ownS 3 A o.after.length c 1 (intsV o.after), ownS 72 B o.evs.length d 2 (evsV o.evs)]
theorem PlPost.mk {S1 S2 : SP} {o : Ln} (A B : Option Addr) (c d : Nat) : PlPost S1 S2 o (lnV o A c B d) [S1, S2, ownS 3 A o.after.length c 1 (intsV o.after), ownS 72 B o.evs.length d 2 (evsV o.evs)] := ⟨A, c, B, d, rfl, rfl⟩
theorem one_ints (l : List Int) : ∀ u ∈ intsV l, u.oneCell' = true := by
  intro u hu
  obtain ⟨x, _, rfl⟩ := List.mem_map.1 hu
  rfl
theorem one_evs (l : List Ev) : ∀ u ∈ evsV l, u.oneCell' = true := by
  intro u hu
  obtain ⟨x, _, hx⟩ := List.mem_flatMap.1 hu
  simp only [evC, List.mem_cons, List.not_mem_nil, or_false] at hx
  rcases hx with rfl | rfl <;> rfl
theorem Plain_ok (S1 S2 : SP) (o : Ln) (k : Nat) (hk : k < 17) (he : o.deed = k) (A B : Option Addr) (c d : Nat) (h1 : Sees S1 A o.after.length 1 (intsV o.after)) (h2 : Sees S2 B o.evs.length 2 (evsV o.evs)) (l1 : o.after.length ≤ 1000000) (l2 : o.evs.length ≤ 1000000) :
    FnOk Tryz.prog 18 [lnV o A c B d] [S1, S2] (PlPost S1 S2 (plainA o)) := by
  obtain ⟨de, wh, ri, nn, tm, wy, af, es⟩ := o
  simp only at he h1 h2 l1 l2
  subst he
  show FnOk Tryz.prog 18 [.agg (lnE (k : Int) wh ri nn tm wy af.length A c es.length B d).toArray] [S1, S2] _
  have c33 := Shape_ok k hk
  obtain ⟨f, hfs⟩ : ∃ f, f = shape k := ⟨_, rfl⟩
  have c34 : ∀ n, 0 ≤ n ∧ n ≤ 255 → FnOk Tryz.prog 34 [str f, .int .u8 n] [] (fun v Q => v = .bool (hasD k n) ∧ Q = []) := by rw [hfs]; exact has_n hk
  rw [← hfs] at c33
  clear hfs
  match k, hk, c33, c34 with
  | 0, hk, c33, c34 =>
    have pl : plainA ⟨((0 : Nat) : Int), wh, ri, nn, tm, wy, af, es⟩ = ⟨0, 0, ri, nn, 0, ⟨0, 0, 0⟩, [], []⟩ := rfl
    rw [pl]
    have fin := fun A' B' c' d' => @PlPost.mk S1 S2 ⟨0, 0, ri, nn, 0, ⟨0, 0, 0⟩, [], []⟩ A' B' c' d'
    simp only at fin
    refine FnOk.start Tryz.func18 rfl rfl rfl rfl fun F os tape output => ?_
    refine Nx.give 3 (ownS 3 none 0 0 1 []) (own_nil _ _ _ _) ?_
    refine Nx.give 4 (ownS 72 none 0 0 2 []) (own_nil _ _ _ _) ?_
    refine go 200 ?_
    conv => whnf
    repeat' (first
      | ((with_reducible refine atBr ?_); (first | refine BrM.t rfl ?_ | refine BrM.f rfl ?_ | refine BrM.dec (fun _ => ?_) (fun _ => ?_) | refine BrM.mk (fun _ => ?_) (fun _ => ?_)) <;> conv => whnf)
      | ((with_reducible refine atAr ?_); refine Ar.i64 (by omega) (by omega) ?_; conv => whnf)
      | ((with_reducible refine (atCall 33) ?_); refine Nx.call [] [] rfl rfl rfl rfl rfl (c33) rfl fun v Q hQ => ?_; obtain ⟨rfl, rfl⟩ := hQ)
      | ((with_reducible refine (atCall 34) ?_); refine Nx.call [] [] rfl rfl rfl rfl rfl (c34 _ (by decide)) rfl fun v Q hQ => ?_; obtain ⟨rfl, rfl⟩ := hQ; first | rw [hd110 hk] | rw [hd107 hk] | rw [hd114 hk] | rw [hd119 hk] | rw [hd104 hk] | rw [hd116 hk] | rw [hd97 hk] | rw [hd101 hk])
      | ((with_reducible refine atOps ?_); refine go 200 ?_; conv => whnf)
      | ((with_reducible refine atPlan ?_); refine Nx.runP (n := 200) rfl (by repeat (first | exact subB.nil _ | refine subB.cons rfl ?_)) ?_; conv => whnf)
      | ((with_reducible refine atAftL ?_); refine Nx.late ?_)
      | ((fail_if_success (with_reducible refine atRet ?_)); (fail_if_success (with_reducible refine atLoop ?_)); (fail_if_success (with_reducible refine atIn ?_)); (fail_if_success (with_reducible refine atDrawn ?_)); (fail_if_success (with_reducible refine atEnd ?_)); (with_reducible refine atRun ?_); refine go 200 ?_; conv => whnf))
    refine Nx.ret [0,1,3,4] Tryz.func18 rfl rfl ?_
    exact fin none none 0 0
  | 1, hk, c33, c34 =>
    have pl : plainA ⟨((1 : Nat) : Int), wh, ri, nn, tm, wy, af, es⟩ = ⟨1, 0, ri, 0, 0, ⟨wy.kind, if wy.kind = 1 then wy.tries else 0, if wy.kind = 3 then wy.time else 0⟩, [], []⟩ := rfl
    rw [pl]
    by_cases h1k : wy.kind = 1
    · rw [if_pos h1k, if_neg (by omega)]
      have fin := fun A' B' c' d' => @PlPost.mk S1 S2 ⟨1, 0, ri, 0, 0, ⟨wy.kind, wy.tries, 0⟩, [], []⟩ A' B' c' d'
      simp only at fin
      refine FnOk.start Tryz.func18 rfl rfl rfl rfl fun F os tape output => ?_
      refine Nx.give 3 (ownS 3 none 0 0 1 []) (own_nil _ _ _ _) ?_
      refine Nx.give 4 (ownS 72 none 0 0 2 []) (own_nil _ _ _ _) ?_
      refine go 200 ?_
      conv => whnf
      repeat' (first
        | ((with_reducible refine atBr ?_); refine BrM.not (by omega) ?_; conv => whnf)
        | ((with_reducible refine atBr ?_); refine BrM.yes (by omega) ?_; conv => whnf)
        | ((with_reducible refine atBr ?_); (first | refine BrM.t rfl ?_ | refine BrM.f rfl ?_ | refine BrM.dec (fun _ => ?_) (fun _ => ?_) | refine BrM.mk (fun _ => ?_) (fun _ => ?_)) <;> conv => whnf)
        | ((with_reducible refine atAr ?_); refine Ar.i64 (by omega) (by omega) ?_; conv => whnf)
        | ((with_reducible refine (atCall 33) ?_); refine Nx.call [] [] rfl rfl rfl rfl rfl (c33) rfl fun v Q hQ => ?_; obtain ⟨rfl, rfl⟩ := hQ)
        | ((with_reducible refine (atCall 34) ?_); refine Nx.call [] [] rfl rfl rfl rfl rfl (c34 _ (by decide)) rfl fun v Q hQ => ?_; obtain ⟨rfl, rfl⟩ := hQ; first | rw [hd110 hk] | rw [hd107 hk] | rw [hd114 hk] | rw [hd119 hk] | rw [hd104 hk] | rw [hd116 hk] | rw [hd97 hk] | rw [hd101 hk])
        | ((with_reducible refine atOps ?_); refine go 200 ?_; conv => whnf)
        | ((with_reducible refine atPlan ?_); refine Nx.runP (n := 200) rfl (by repeat (first | exact subB.nil _ | refine subB.cons rfl ?_)) ?_; conv => whnf)
        | ((with_reducible refine atAftL ?_); refine Nx.late ?_)
        | ((fail_if_success (with_reducible refine atRet ?_)); (fail_if_success (with_reducible refine atLoop ?_)); (fail_if_success (with_reducible refine atIn ?_)); (fail_if_success (with_reducible refine atDrawn ?_)); (fail_if_success (with_reducible refine atEnd ?_)); (with_reducible refine atRun ?_); refine go 200 ?_; conv => whnf))
      refine Nx.ret [0,1,3,4] Tryz.func18 rfl rfl ?_
      exact fin none none 0 0
    by_cases h3k : wy.kind = 3
    · rw [if_neg h1k, if_pos h3k]
      have fin := fun A' B' c' d' => @PlPost.mk S1 S2 ⟨1, 0, ri, 0, 0, ⟨wy.kind, 0, wy.time⟩, [], []⟩ A' B' c' d'
      simp only at fin
      refine FnOk.start Tryz.func18 rfl rfl rfl rfl fun F os tape output => ?_
      refine Nx.give 3 (ownS 3 none 0 0 1 []) (own_nil _ _ _ _) ?_
      refine Nx.give 4 (ownS 72 none 0 0 2 []) (own_nil _ _ _ _) ?_
      refine go 200 ?_
      conv => whnf
      repeat' (first
        | ((with_reducible refine atBr ?_); refine BrM.not (by omega) ?_; conv => whnf)
        | ((with_reducible refine atBr ?_); refine BrM.yes (by omega) ?_; conv => whnf)
        | ((with_reducible refine atBr ?_); (first | refine BrM.t rfl ?_ | refine BrM.f rfl ?_ | refine BrM.dec (fun _ => ?_) (fun _ => ?_) | refine BrM.mk (fun _ => ?_) (fun _ => ?_)) <;> conv => whnf)
        | ((with_reducible refine atAr ?_); refine Ar.i64 (by omega) (by omega) ?_; conv => whnf)
        | ((with_reducible refine (atCall 33) ?_); refine Nx.call [] [] rfl rfl rfl rfl rfl (c33) rfl fun v Q hQ => ?_; obtain ⟨rfl, rfl⟩ := hQ)
        | ((with_reducible refine (atCall 34) ?_); refine Nx.call [] [] rfl rfl rfl rfl rfl (c34 _ (by decide)) rfl fun v Q hQ => ?_; obtain ⟨rfl, rfl⟩ := hQ; first | rw [hd110 hk] | rw [hd107 hk] | rw [hd114 hk] | rw [hd119 hk] | rw [hd104 hk] | rw [hd116 hk] | rw [hd97 hk] | rw [hd101 hk])
        | ((with_reducible refine atOps ?_); refine go 200 ?_; conv => whnf)
        | ((with_reducible refine atPlan ?_); refine Nx.runP (n := 200) rfl (by repeat (first | exact subB.nil _ | refine subB.cons rfl ?_)) ?_; conv => whnf)
        | ((with_reducible refine atAftL ?_); refine Nx.late ?_)
        | ((fail_if_success (with_reducible refine atRet ?_)); (fail_if_success (with_reducible refine atLoop ?_)); (fail_if_success (with_reducible refine atIn ?_)); (fail_if_success (with_reducible refine atDrawn ?_)); (fail_if_success (with_reducible refine atEnd ?_)); (with_reducible refine atRun ?_); refine go 200 ?_; conv => whnf))
      refine Nx.ret [0,1,3,4] Tryz.func18 rfl rfl ?_
      exact fin none none 0 0
    · rw [if_neg h1k, if_neg h3k]
      have fin := fun A' B' c' d' => @PlPost.mk S1 S2 ⟨1, 0, ri, 0, 0, ⟨wy.kind, 0, 0⟩, [], []⟩ A' B' c' d'
      simp only at fin
      refine FnOk.start Tryz.func18 rfl rfl rfl rfl fun F os tape output => ?_
      refine Nx.give 3 (ownS 3 none 0 0 1 []) (own_nil _ _ _ _) ?_
      refine Nx.give 4 (ownS 72 none 0 0 2 []) (own_nil _ _ _ _) ?_
      refine go 200 ?_
      conv => whnf
      repeat' (first
        | ((with_reducible refine atBr ?_); refine BrM.not (by omega) ?_; conv => whnf)
        | ((with_reducible refine atBr ?_); refine BrM.yes (by omega) ?_; conv => whnf)
        | ((with_reducible refine atBr ?_); (first | refine BrM.t rfl ?_ | refine BrM.f rfl ?_ | refine BrM.dec (fun _ => ?_) (fun _ => ?_) | refine BrM.mk (fun _ => ?_) (fun _ => ?_)) <;> conv => whnf)
        | ((with_reducible refine atAr ?_); refine Ar.i64 (by omega) (by omega) ?_; conv => whnf)
        | ((with_reducible refine (atCall 33) ?_); refine Nx.call [] [] rfl rfl rfl rfl rfl (c33) rfl fun v Q hQ => ?_; obtain ⟨rfl, rfl⟩ := hQ)
        | ((with_reducible refine (atCall 34) ?_); refine Nx.call [] [] rfl rfl rfl rfl rfl (c34 _ (by decide)) rfl fun v Q hQ => ?_; obtain ⟨rfl, rfl⟩ := hQ; first | rw [hd110 hk] | rw [hd107 hk] | rw [hd114 hk] | rw [hd119 hk] | rw [hd104 hk] | rw [hd116 hk] | rw [hd97 hk] | rw [hd101 hk])
        | ((with_reducible refine atOps ?_); refine go 200 ?_; conv => whnf)
        | ((with_reducible refine atPlan ?_); refine Nx.runP (n := 200) rfl (by repeat (first | exact subB.nil _ | refine subB.cons rfl ?_)) ?_; conv => whnf)
        | ((with_reducible refine atAftL ?_); refine Nx.late ?_)
        | ((fail_if_success (with_reducible refine atRet ?_)); (fail_if_success (with_reducible refine atLoop ?_)); (fail_if_success (with_reducible refine atIn ?_)); (fail_if_success (with_reducible refine atDrawn ?_)); (fail_if_success (with_reducible refine atEnd ?_)); (with_reducible refine atRun ?_); refine go 200 ?_; conv => whnf))
      refine Nx.ret [0,1,3,4] Tryz.func18 rfl rfl ?_
      exact fin none none 0 0
  | 2, hk, c33, c34 =>
    have pl : plainA ⟨((2 : Nat) : Int), wh, ri, nn, tm, wy, af, es⟩ = ⟨2, 0, ri, nn, 0, ⟨wy.kind, if wy.kind = 1 then wy.tries else 0, if wy.kind = 3 then wy.time else 0⟩, af, []⟩ := rfl
    rw [pl]
    by_cases h1k : wy.kind = 1
    · rw [if_pos h1k, if_neg (by omega)]
      have fin := fun A' B' c' d' => @PlPost.mk S1 S2 ⟨2, 0, ri, nn, 0, ⟨wy.kind, wy.tries, 0⟩, af, []⟩ A' B' c' d'
      simp only at fin
      refine FnOk.start Tryz.func18 rfl rfl rfl rfl fun F os tape output => ?_
      refine Nx.give 3 (ownS 3 none 0 0 1 []) (own_nil _ _ _ _) ?_
      refine Nx.give 4 (ownS 72 none 0 0 2 []) (own_nil _ _ _ _) ?_
      refine go 200 ?_
      conv => whnf
      repeat' (first
        | ((with_reducible refine atBr ?_); refine BrM.not (by omega) ?_; conv => whnf)
        | ((with_reducible refine atBr ?_); refine BrM.yes (by omega) ?_; conv => whnf)
        | ((with_reducible refine atBr ?_); (first | refine BrM.t rfl ?_ | refine BrM.f rfl ?_ | refine BrM.dec (fun _ => ?_) (fun _ => ?_) | refine BrM.mk (fun _ => ?_) (fun _ => ?_)) <;> conv => whnf)
        | ((with_reducible refine atAr ?_); refine Ar.i64 (by omega) (by omega) ?_; conv => whnf)
        | ((with_reducible refine (atCall 33) ?_); refine Nx.call [] [] rfl rfl rfl rfl rfl (c33) rfl fun v Q hQ => ?_; obtain ⟨rfl, rfl⟩ := hQ)
        | ((with_reducible refine (atCall 34) ?_); refine Nx.call [] [] rfl rfl rfl rfl rfl (c34 _ (by decide)) rfl fun v Q hQ => ?_; obtain ⟨rfl, rfl⟩ := hQ; first | rw [hd110 hk] | rw [hd107 hk] | rw [hd114 hk] | rw [hd119 hk] | rw [hd104 hk] | rw [hd116 hk] | rw [hd97 hk] | rw [hd101 hk])
        | ((with_reducible refine atApp ?_); refine Nx.appendS 3 0 (sz := 1) (by_ := 8) rfl rfl rfl Tryz.underlying25 rfl rfl rfl rfl h1 (one_ints _) (by unfold maxLen; omega) (by omega) fun A' c' => ?_)
        | ((with_reducible refine atOps ?_); refine go 200 ?_; conv => whnf)
        | ((with_reducible refine atPlan ?_); refine Nx.runP (n := 200) rfl (by repeat (first | exact subB.nil _ | refine subB.cons rfl ?_)) ?_; conv => whnf)
        | ((with_reducible refine atAftL ?_); refine Nx.late ?_)
        | ((fail_if_success (with_reducible refine atRet ?_)); (fail_if_success (with_reducible refine atLoop ?_)); (fail_if_success (with_reducible refine atIn ?_)); (fail_if_success (with_reducible refine atDrawn ?_)); (fail_if_success (with_reducible refine atEnd ?_)); (with_reducible refine atRun ?_); refine go 200 ?_; conv => whnf))
      rw [Nat.zero_add, List.nil_append]
      refine Nx.ret [0,1,3,4] Tryz.func18 rfl rfl ?_
      exact fin A' none c' 0
    by_cases h3k : wy.kind = 3
    · rw [if_neg h1k, if_pos h3k]
      have fin := fun A' B' c' d' => @PlPost.mk S1 S2 ⟨2, 0, ri, nn, 0, ⟨wy.kind, 0, wy.time⟩, af, []⟩ A' B' c' d'
      simp only at fin
      refine FnOk.start Tryz.func18 rfl rfl rfl rfl fun F os tape output => ?_
      refine Nx.give 3 (ownS 3 none 0 0 1 []) (own_nil _ _ _ _) ?_
      refine Nx.give 4 (ownS 72 none 0 0 2 []) (own_nil _ _ _ _) ?_
      refine go 200 ?_
      conv => whnf
      repeat' (first
        | ((with_reducible refine atBr ?_); refine BrM.not (by omega) ?_; conv => whnf)
        | ((with_reducible refine atBr ?_); refine BrM.yes (by omega) ?_; conv => whnf)
        | ((with_reducible refine atBr ?_); (first | refine BrM.t rfl ?_ | refine BrM.f rfl ?_ | refine BrM.dec (fun _ => ?_) (fun _ => ?_) | refine BrM.mk (fun _ => ?_) (fun _ => ?_)) <;> conv => whnf)
        | ((with_reducible refine atAr ?_); refine Ar.i64 (by omega) (by omega) ?_; conv => whnf)
        | ((with_reducible refine (atCall 33) ?_); refine Nx.call [] [] rfl rfl rfl rfl rfl (c33) rfl fun v Q hQ => ?_; obtain ⟨rfl, rfl⟩ := hQ)
        | ((with_reducible refine (atCall 34) ?_); refine Nx.call [] [] rfl rfl rfl rfl rfl (c34 _ (by decide)) rfl fun v Q hQ => ?_; obtain ⟨rfl, rfl⟩ := hQ; first | rw [hd110 hk] | rw [hd107 hk] | rw [hd114 hk] | rw [hd119 hk] | rw [hd104 hk] | rw [hd116 hk] | rw [hd97 hk] | rw [hd101 hk])
        | ((with_reducible refine atApp ?_); refine Nx.appendS 3 0 (sz := 1) (by_ := 8) rfl rfl rfl Tryz.underlying25 rfl rfl rfl rfl h1 (one_ints _) (by unfold maxLen; omega) (by omega) fun A' c' => ?_)
        | ((with_reducible refine atOps ?_); refine go 200 ?_; conv => whnf)
        | ((with_reducible refine atPlan ?_); refine Nx.runP (n := 200) rfl (by repeat (first | exact subB.nil _ | refine subB.cons rfl ?_)) ?_; conv => whnf)
        | ((with_reducible refine atAftL ?_); refine Nx.late ?_)
        | ((fail_if_success (with_reducible refine atRet ?_)); (fail_if_success (with_reducible refine atLoop ?_)); (fail_if_success (with_reducible refine atIn ?_)); (fail_if_success (with_reducible refine atDrawn ?_)); (fail_if_success (with_reducible refine atEnd ?_)); (with_reducible refine atRun ?_); refine go 200 ?_; conv => whnf))
      rw [Nat.zero_add, List.nil_append]
      refine Nx.ret [0,1,3,4] Tryz.func18 rfl rfl ?_
      exact fin A' none c' 0
    · rw [if_neg h1k, if_neg h3k]
      have fin := fun A' B' c' d' => @PlPost.mk S1 S2 ⟨2, 0, ri, nn, 0, ⟨wy.kind, 0, 0⟩, af, []⟩ A' B' c' d'
      simp only at fin
      refine FnOk.start Tryz.func18 rfl rfl rfl rfl fun F os tape output => ?_
      refine Nx.give 3 (ownS 3 none 0 0 1 []) (own_nil _ _ _ _) ?_
      refine Nx.give 4 (ownS 72 none 0 0 2 []) (own_nil _ _ _ _) ?_
      refine go 200 ?_
      conv => whnf
      repeat' (first
        | ((with_reducible refine atBr ?_); refine BrM.not (by omega) ?_; conv => whnf)
        | ((with_reducible refine atBr ?_); refine BrM.yes (by omega) ?_; conv => whnf)
        | ((with_reducible refine atBr ?_); (first | refine BrM.t rfl ?_ | refine BrM.f rfl ?_ | refine BrM.dec (fun _ => ?_) (fun _ => ?_) | refine BrM.mk (fun _ => ?_) (fun _ => ?_)) <;> conv => whnf)
        | ((with_reducible refine atAr ?_); refine Ar.i64 (by omega) (by omega) ?_; conv => whnf)
        | ((with_reducible refine (atCall 33) ?_); refine Nx.call [] [] rfl rfl rfl rfl rfl (c33) rfl fun v Q hQ => ?_; obtain ⟨rfl, rfl⟩ := hQ)
        | ((with_reducible refine (atCall 34) ?_); refine Nx.call [] [] rfl rfl rfl rfl rfl (c34 _ (by decide)) rfl fun v Q hQ => ?_; obtain ⟨rfl, rfl⟩ := hQ; first | rw [hd110 hk] | rw [hd107 hk] | rw [hd114 hk] | rw [hd119 hk] | rw [hd104 hk] | rw [hd116 hk] | rw [hd97 hk] | rw [hd101 hk])
        | ((with_reducible refine atApp ?_); refine Nx.appendS 3 0 (sz := 1) (by_ := 8) rfl rfl rfl Tryz.underlying25 rfl rfl rfl rfl h1 (one_ints _) (by unfold maxLen; omega) (by omega) fun A' c' => ?_)
        | ((with_reducible refine atOps ?_); refine go 200 ?_; conv => whnf)
        | ((with_reducible refine atPlan ?_); refine Nx.runP (n := 200) rfl (by repeat (first | exact subB.nil _ | refine subB.cons rfl ?_)) ?_; conv => whnf)
        | ((with_reducible refine atAftL ?_); refine Nx.late ?_)
        | ((fail_if_success (with_reducible refine atRet ?_)); (fail_if_success (with_reducible refine atLoop ?_)); (fail_if_success (with_reducible refine atIn ?_)); (fail_if_success (with_reducible refine atDrawn ?_)); (fail_if_success (with_reducible refine atEnd ?_)); (with_reducible refine atRun ?_); refine go 200 ?_; conv => whnf))
      rw [Nat.zero_add, List.nil_append]
      refine Nx.ret [0,1,3,4] Tryz.func18 rfl rfl ?_
      exact fin A' none c' 0
  | 3, hk, c33, c34 =>
    have pl : plainA ⟨((3 : Nat) : Int), wh, ri, nn, tm, wy, af, es⟩ = ⟨3, 0, ri, nn, 0, ⟨wy.kind, if wy.kind = 1 then wy.tries else 0, if wy.kind = 3 then wy.time else 0⟩, af, []⟩ := rfl
    rw [pl]
    by_cases h1k : wy.kind = 1
    · rw [if_pos h1k, if_neg (by omega)]
      have fin := fun A' B' c' d' => @PlPost.mk S1 S2 ⟨3, 0, ri, nn, 0, ⟨wy.kind, wy.tries, 0⟩, af, []⟩ A' B' c' d'
      simp only at fin
      refine FnOk.start Tryz.func18 rfl rfl rfl rfl fun F os tape output => ?_
      refine Nx.give 3 (ownS 3 none 0 0 1 []) (own_nil _ _ _ _) ?_
      refine Nx.give 4 (ownS 72 none 0 0 2 []) (own_nil _ _ _ _) ?_
      refine go 200 ?_
      conv => whnf
      repeat' (first
        | ((with_reducible refine atBr ?_); refine BrM.not (by omega) ?_; conv => whnf)
        | ((with_reducible refine atBr ?_); refine BrM.yes (by omega) ?_; conv => whnf)
        | ((with_reducible refine atBr ?_); (first | refine BrM.t rfl ?_ | refine BrM.f rfl ?_ | refine BrM.dec (fun _ => ?_) (fun _ => ?_) | refine BrM.mk (fun _ => ?_) (fun _ => ?_)) <;> conv => whnf)
        | ((with_reducible refine atAr ?_); refine Ar.i64 (by omega) (by omega) ?_; conv => whnf)
        | ((with_reducible refine (atCall 33) ?_); refine Nx.call [] [] rfl rfl rfl rfl rfl (c33) rfl fun v Q hQ => ?_; obtain ⟨rfl, rfl⟩ := hQ)
        | ((with_reducible refine (atCall 34) ?_); refine Nx.call [] [] rfl rfl rfl rfl rfl (c34 _ (by decide)) rfl fun v Q hQ => ?_; obtain ⟨rfl, rfl⟩ := hQ; first | rw [hd110 hk] | rw [hd107 hk] | rw [hd114 hk] | rw [hd119 hk] | rw [hd104 hk] | rw [hd116 hk] | rw [hd97 hk] | rw [hd101 hk])
        | ((with_reducible refine atApp ?_); refine Nx.appendS 3 0 (sz := 1) (by_ := 8) rfl rfl rfl Tryz.underlying25 rfl rfl rfl rfl h1 (one_ints _) (by unfold maxLen; omega) (by omega) fun A' c' => ?_)
        | ((with_reducible refine atOps ?_); refine go 200 ?_; conv => whnf)
        | ((with_reducible refine atPlan ?_); refine Nx.runP (n := 200) rfl (by repeat (first | exact subB.nil _ | refine subB.cons rfl ?_)) ?_; conv => whnf)
        | ((with_reducible refine atAftL ?_); refine Nx.late ?_)
        | ((fail_if_success (with_reducible refine atRet ?_)); (fail_if_success (with_reducible refine atLoop ?_)); (fail_if_success (with_reducible refine atIn ?_)); (fail_if_success (with_reducible refine atDrawn ?_)); (fail_if_success (with_reducible refine atEnd ?_)); (with_reducible refine atRun ?_); refine go 200 ?_; conv => whnf))
      rw [Nat.zero_add, List.nil_append]
      refine Nx.ret [0,1,3,4] Tryz.func18 rfl rfl ?_
      exact fin A' none c' 0
    by_cases h3k : wy.kind = 3
    · rw [if_neg h1k, if_pos h3k]
      have fin := fun A' B' c' d' => @PlPost.mk S1 S2 ⟨3, 0, ri, nn, 0, ⟨wy.kind, 0, wy.time⟩, af, []⟩ A' B' c' d'
      simp only at fin
      refine FnOk.start Tryz.func18 rfl rfl rfl rfl fun F os tape output => ?_
      refine Nx.give 3 (ownS 3 none 0 0 1 []) (own_nil _ _ _ _) ?_
      refine Nx.give 4 (ownS 72 none 0 0 2 []) (own_nil _ _ _ _) ?_
      refine go 200 ?_
      conv => whnf
      repeat' (first
        | ((with_reducible refine atBr ?_); refine BrM.not (by omega) ?_; conv => whnf)
        | ((with_reducible refine atBr ?_); refine BrM.yes (by omega) ?_; conv => whnf)
        | ((with_reducible refine atBr ?_); (first | refine BrM.t rfl ?_ | refine BrM.f rfl ?_ | refine BrM.dec (fun _ => ?_) (fun _ => ?_) | refine BrM.mk (fun _ => ?_) (fun _ => ?_)) <;> conv => whnf)
        | ((with_reducible refine atAr ?_); refine Ar.i64 (by omega) (by omega) ?_; conv => whnf)
        | ((with_reducible refine (atCall 33) ?_); refine Nx.call [] [] rfl rfl rfl rfl rfl (c33) rfl fun v Q hQ => ?_; obtain ⟨rfl, rfl⟩ := hQ)
        | ((with_reducible refine (atCall 34) ?_); refine Nx.call [] [] rfl rfl rfl rfl rfl (c34 _ (by decide)) rfl fun v Q hQ => ?_; obtain ⟨rfl, rfl⟩ := hQ; first | rw [hd110 hk] | rw [hd107 hk] | rw [hd114 hk] | rw [hd119 hk] | rw [hd104 hk] | rw [hd116 hk] | rw [hd97 hk] | rw [hd101 hk])
        | ((with_reducible refine atApp ?_); refine Nx.appendS 3 0 (sz := 1) (by_ := 8) rfl rfl rfl Tryz.underlying25 rfl rfl rfl rfl h1 (one_ints _) (by unfold maxLen; omega) (by omega) fun A' c' => ?_)
        | ((with_reducible refine atOps ?_); refine go 200 ?_; conv => whnf)
        | ((with_reducible refine atPlan ?_); refine Nx.runP (n := 200) rfl (by repeat (first | exact subB.nil _ | refine subB.cons rfl ?_)) ?_; conv => whnf)
        | ((with_reducible refine atAftL ?_); refine Nx.late ?_)
        | ((fail_if_success (with_reducible refine atRet ?_)); (fail_if_success (with_reducible refine atLoop ?_)); (fail_if_success (with_reducible refine atIn ?_)); (fail_if_success (with_reducible refine atDrawn ?_)); (fail_if_success (with_reducible refine atEnd ?_)); (with_reducible refine atRun ?_); refine go 200 ?_; conv => whnf))
      rw [Nat.zero_add, List.nil_append]
      refine Nx.ret [0,1,3,4] Tryz.func18 rfl rfl ?_
      exact fin A' none c' 0
    · rw [if_neg h1k, if_neg h3k]
      have fin := fun A' B' c' d' => @PlPost.mk S1 S2 ⟨3, 0, ri, nn, 0, ⟨wy.kind, 0, 0⟩, af, []⟩ A' B' c' d'
      simp only at fin
      refine FnOk.start Tryz.func18 rfl rfl rfl rfl fun F os tape output => ?_
      refine Nx.give 3 (ownS 3 none 0 0 1 []) (own_nil _ _ _ _) ?_
      refine Nx.give 4 (ownS 72 none 0 0 2 []) (own_nil _ _ _ _) ?_
      refine go 200 ?_
      conv => whnf
      repeat' (first
        | ((with_reducible refine atBr ?_); refine BrM.not (by omega) ?_; conv => whnf)
        | ((with_reducible refine atBr ?_); refine BrM.yes (by omega) ?_; conv => whnf)
        | ((with_reducible refine atBr ?_); (first | refine BrM.t rfl ?_ | refine BrM.f rfl ?_ | refine BrM.dec (fun _ => ?_) (fun _ => ?_) | refine BrM.mk (fun _ => ?_) (fun _ => ?_)) <;> conv => whnf)
        | ((with_reducible refine atAr ?_); refine Ar.i64 (by omega) (by omega) ?_; conv => whnf)
        | ((with_reducible refine (atCall 33) ?_); refine Nx.call [] [] rfl rfl rfl rfl rfl (c33) rfl fun v Q hQ => ?_; obtain ⟨rfl, rfl⟩ := hQ)
        | ((with_reducible refine (atCall 34) ?_); refine Nx.call [] [] rfl rfl rfl rfl rfl (c34 _ (by decide)) rfl fun v Q hQ => ?_; obtain ⟨rfl, rfl⟩ := hQ; first | rw [hd110 hk] | rw [hd107 hk] | rw [hd114 hk] | rw [hd119 hk] | rw [hd104 hk] | rw [hd116 hk] | rw [hd97 hk] | rw [hd101 hk])
        | ((with_reducible refine atApp ?_); refine Nx.appendS 3 0 (sz := 1) (by_ := 8) rfl rfl rfl Tryz.underlying25 rfl rfl rfl rfl h1 (one_ints _) (by unfold maxLen; omega) (by omega) fun A' c' => ?_)
        | ((with_reducible refine atOps ?_); refine go 200 ?_; conv => whnf)
        | ((with_reducible refine atPlan ?_); refine Nx.runP (n := 200) rfl (by repeat (first | exact subB.nil _ | refine subB.cons rfl ?_)) ?_; conv => whnf)
        | ((with_reducible refine atAftL ?_); refine Nx.late ?_)
        | ((fail_if_success (with_reducible refine atRet ?_)); (fail_if_success (with_reducible refine atLoop ?_)); (fail_if_success (with_reducible refine atIn ?_)); (fail_if_success (with_reducible refine atDrawn ?_)); (fail_if_success (with_reducible refine atEnd ?_)); (with_reducible refine atRun ?_); refine go 200 ?_; conv => whnf))
      rw [Nat.zero_add, List.nil_append]
      refine Nx.ret [0,1,3,4] Tryz.func18 rfl rfl ?_
      exact fin A' none c' 0
  | 4, hk, c33, c34 =>
    have pl : plainA ⟨((4 : Nat) : Int), wh, ri, nn, tm, wy, af, es⟩ = ⟨4, 0, ri, 0, 0, ⟨wy.kind, if wy.kind = 1 then wy.tries else 0, if wy.kind = 3 then wy.time else 0⟩, af, []⟩ := rfl
    rw [pl]
    by_cases h1k : wy.kind = 1
    · rw [if_pos h1k, if_neg (by omega)]
      have fin := fun A' B' c' d' => @PlPost.mk S1 S2 ⟨4, 0, ri, 0, 0, ⟨wy.kind, wy.tries, 0⟩, af, []⟩ A' B' c' d'
      simp only at fin
      refine FnOk.start Tryz.func18 rfl rfl rfl rfl fun F os tape output => ?_
      refine Nx.give 3 (ownS 3 none 0 0 1 []) (own_nil _ _ _ _) ?_
      refine Nx.give 4 (ownS 72 none 0 0 2 []) (own_nil _ _ _ _) ?_
      refine go 200 ?_
      conv => whnf
      repeat' (first
        | ((with_reducible refine atBr ?_); refine BrM.not (by omega) ?_; conv => whnf)
        | ((with_reducible refine atBr ?_); refine BrM.yes (by omega) ?_; conv => whnf)
        | ((with_reducible refine atBr ?_); (first | refine BrM.t rfl ?_ | refine BrM.f rfl ?_ | refine BrM.dec (fun _ => ?_) (fun _ => ?_) | refine BrM.mk (fun _ => ?_) (fun _ => ?_)) <;> conv => whnf)
        | ((with_reducible refine atAr ?_); refine Ar.i64 (by omega) (by omega) ?_; conv => whnf)
        | ((with_reducible refine (atCall 33) ?_); refine Nx.call [] [] rfl rfl rfl rfl rfl (c33) rfl fun v Q hQ => ?_; obtain ⟨rfl, rfl⟩ := hQ)
        | ((with_reducible refine (atCall 34) ?_); refine Nx.call [] [] rfl rfl rfl rfl rfl (c34 _ (by decide)) rfl fun v Q hQ => ?_; obtain ⟨rfl, rfl⟩ := hQ; first | rw [hd110 hk] | rw [hd107 hk] | rw [hd114 hk] | rw [hd119 hk] | rw [hd104 hk] | rw [hd116 hk] | rw [hd97 hk] | rw [hd101 hk])
        | ((with_reducible refine atApp ?_); refine Nx.appendS 3 0 (sz := 1) (by_ := 8) rfl rfl rfl Tryz.underlying25 rfl rfl rfl rfl h1 (one_ints _) (by unfold maxLen; omega) (by omega) fun A' c' => ?_)
        | ((with_reducible refine atOps ?_); refine go 200 ?_; conv => whnf)
        | ((with_reducible refine atPlan ?_); refine Nx.runP (n := 200) rfl (by repeat (first | exact subB.nil _ | refine subB.cons rfl ?_)) ?_; conv => whnf)
        | ((with_reducible refine atAftL ?_); refine Nx.late ?_)
        | ((fail_if_success (with_reducible refine atRet ?_)); (fail_if_success (with_reducible refine atLoop ?_)); (fail_if_success (with_reducible refine atIn ?_)); (fail_if_success (with_reducible refine atDrawn ?_)); (fail_if_success (with_reducible refine atEnd ?_)); (with_reducible refine atRun ?_); refine go 200 ?_; conv => whnf))
      rw [Nat.zero_add, List.nil_append]
      refine Nx.ret [0,1,3,4] Tryz.func18 rfl rfl ?_
      exact fin A' none c' 0
    by_cases h3k : wy.kind = 3
    · rw [if_neg h1k, if_pos h3k]
      have fin := fun A' B' c' d' => @PlPost.mk S1 S2 ⟨4, 0, ri, 0, 0, ⟨wy.kind, 0, wy.time⟩, af, []⟩ A' B' c' d'
      simp only at fin
      refine FnOk.start Tryz.func18 rfl rfl rfl rfl fun F os tape output => ?_
      refine Nx.give 3 (ownS 3 none 0 0 1 []) (own_nil _ _ _ _) ?_
      refine Nx.give 4 (ownS 72 none 0 0 2 []) (own_nil _ _ _ _) ?_
      refine go 200 ?_
      conv => whnf
      repeat' (first
        | ((with_reducible refine atBr ?_); refine BrM.not (by omega) ?_; conv => whnf)
        | ((with_reducible refine atBr ?_); refine BrM.yes (by omega) ?_; conv => whnf)
        | ((with_reducible refine atBr ?_); (first | refine BrM.t rfl ?_ | refine BrM.f rfl ?_ | refine BrM.dec (fun _ => ?_) (fun _ => ?_) | refine BrM.mk (fun _ => ?_) (fun _ => ?_)) <;> conv => whnf)
        | ((with_reducible refine atAr ?_); refine Ar.i64 (by omega) (by omega) ?_; conv => whnf)
        | ((with_reducible refine (atCall 33) ?_); refine Nx.call [] [] rfl rfl rfl rfl rfl (c33) rfl fun v Q hQ => ?_; obtain ⟨rfl, rfl⟩ := hQ)
        | ((with_reducible refine (atCall 34) ?_); refine Nx.call [] [] rfl rfl rfl rfl rfl (c34 _ (by decide)) rfl fun v Q hQ => ?_; obtain ⟨rfl, rfl⟩ := hQ; first | rw [hd110 hk] | rw [hd107 hk] | rw [hd114 hk] | rw [hd119 hk] | rw [hd104 hk] | rw [hd116 hk] | rw [hd97 hk] | rw [hd101 hk])
        | ((with_reducible refine atApp ?_); refine Nx.appendS 3 0 (sz := 1) (by_ := 8) rfl rfl rfl Tryz.underlying25 rfl rfl rfl rfl h1 (one_ints _) (by unfold maxLen; omega) (by omega) fun A' c' => ?_)
        | ((with_reducible refine atOps ?_); refine go 200 ?_; conv => whnf)
        | ((with_reducible refine atPlan ?_); refine Nx.runP (n := 200) rfl (by repeat (first | exact subB.nil _ | refine subB.cons rfl ?_)) ?_; conv => whnf)
        | ((with_reducible refine atAftL ?_); refine Nx.late ?_)
        | ((fail_if_success (with_reducible refine atRet ?_)); (fail_if_success (with_reducible refine atLoop ?_)); (fail_if_success (with_reducible refine atIn ?_)); (fail_if_success (with_reducible refine atDrawn ?_)); (fail_if_success (with_reducible refine atEnd ?_)); (with_reducible refine atRun ?_); refine go 200 ?_; conv => whnf))
      rw [Nat.zero_add, List.nil_append]
      refine Nx.ret [0,1,3,4] Tryz.func18 rfl rfl ?_
      exact fin A' none c' 0
    · rw [if_neg h1k, if_neg h3k]
      have fin := fun A' B' c' d' => @PlPost.mk S1 S2 ⟨4, 0, ri, 0, 0, ⟨wy.kind, 0, 0⟩, af, []⟩ A' B' c' d'
      simp only at fin
      refine FnOk.start Tryz.func18 rfl rfl rfl rfl fun F os tape output => ?_
      refine Nx.give 3 (ownS 3 none 0 0 1 []) (own_nil _ _ _ _) ?_
      refine Nx.give 4 (ownS 72 none 0 0 2 []) (own_nil _ _ _ _) ?_
      refine go 200 ?_
      conv => whnf
      repeat' (first
        | ((with_reducible refine atBr ?_); refine BrM.not (by omega) ?_; conv => whnf)
        | ((with_reducible refine atBr ?_); refine BrM.yes (by omega) ?_; conv => whnf)
        | ((with_reducible refine atBr ?_); (first | refine BrM.t rfl ?_ | refine BrM.f rfl ?_ | refine BrM.dec (fun _ => ?_) (fun _ => ?_) | refine BrM.mk (fun _ => ?_) (fun _ => ?_)) <;> conv => whnf)
        | ((with_reducible refine atAr ?_); refine Ar.i64 (by omega) (by omega) ?_; conv => whnf)
        | ((with_reducible refine (atCall 33) ?_); refine Nx.call [] [] rfl rfl rfl rfl rfl (c33) rfl fun v Q hQ => ?_; obtain ⟨rfl, rfl⟩ := hQ)
        | ((with_reducible refine (atCall 34) ?_); refine Nx.call [] [] rfl rfl rfl rfl rfl (c34 _ (by decide)) rfl fun v Q hQ => ?_; obtain ⟨rfl, rfl⟩ := hQ; first | rw [hd110 hk] | rw [hd107 hk] | rw [hd114 hk] | rw [hd119 hk] | rw [hd104 hk] | rw [hd116 hk] | rw [hd97 hk] | rw [hd101 hk])
        | ((with_reducible refine atApp ?_); refine Nx.appendS 3 0 (sz := 1) (by_ := 8) rfl rfl rfl Tryz.underlying25 rfl rfl rfl rfl h1 (one_ints _) (by unfold maxLen; omega) (by omega) fun A' c' => ?_)
        | ((with_reducible refine atOps ?_); refine go 200 ?_; conv => whnf)
        | ((with_reducible refine atPlan ?_); refine Nx.runP (n := 200) rfl (by repeat (first | exact subB.nil _ | refine subB.cons rfl ?_)) ?_; conv => whnf)
        | ((with_reducible refine atAftL ?_); refine Nx.late ?_)
        | ((fail_if_success (with_reducible refine atRet ?_)); (fail_if_success (with_reducible refine atLoop ?_)); (fail_if_success (with_reducible refine atIn ?_)); (fail_if_success (with_reducible refine atDrawn ?_)); (fail_if_success (with_reducible refine atEnd ?_)); (with_reducible refine atRun ?_); refine go 200 ?_; conv => whnf))
      rw [Nat.zero_add, List.nil_append]
      refine Nx.ret [0,1,3,4] Tryz.func18 rfl rfl ?_
      exact fin A' none c' 0
  | 5, hk, c33, c34 =>
    have pl : plainA ⟨((5 : Nat) : Int), wh, ri, nn, tm, wy, af, es⟩ = ⟨5, 0, 0, 0, 0, ⟨0, 0, 0⟩, af, []⟩ := rfl
    rw [pl]
    have fin := fun A' B' c' d' => @PlPost.mk S1 S2 ⟨5, 0, 0, 0, 0, ⟨0, 0, 0⟩, af, []⟩ A' B' c' d'
    simp only at fin
    refine FnOk.start Tryz.func18 rfl rfl rfl rfl fun F os tape output => ?_
    refine Nx.give 3 (ownS 3 none 0 0 1 []) (own_nil _ _ _ _) ?_
    refine Nx.give 4 (ownS 72 none 0 0 2 []) (own_nil _ _ _ _) ?_
    refine go 200 ?_
    conv => whnf
    repeat' (first
      | ((with_reducible refine atBr ?_); (first | refine BrM.t rfl ?_ | refine BrM.f rfl ?_ | refine BrM.dec (fun _ => ?_) (fun _ => ?_) | refine BrM.mk (fun _ => ?_) (fun _ => ?_)) <;> conv => whnf)
      | ((with_reducible refine atAr ?_); refine Ar.i64 (by omega) (by omega) ?_; conv => whnf)
      | ((with_reducible refine (atCall 33) ?_); refine Nx.call [] [] rfl rfl rfl rfl rfl (c33) rfl fun v Q hQ => ?_; obtain ⟨rfl, rfl⟩ := hQ)
      | ((with_reducible refine (atCall 34) ?_); refine Nx.call [] [] rfl rfl rfl rfl rfl (c34 _ (by decide)) rfl fun v Q hQ => ?_; obtain ⟨rfl, rfl⟩ := hQ; first | rw [hd110 hk] | rw [hd107 hk] | rw [hd114 hk] | rw [hd119 hk] | rw [hd104 hk] | rw [hd116 hk] | rw [hd97 hk] | rw [hd101 hk])
      | ((with_reducible refine atApp ?_); refine Nx.appendS 3 0 (sz := 1) (by_ := 8) rfl rfl rfl Tryz.underlying25 rfl rfl rfl rfl h1 (one_ints _) (by unfold maxLen; omega) (by omega) fun A' c' => ?_)
      | ((with_reducible refine atOps ?_); refine go 200 ?_; conv => whnf)
      | ((with_reducible refine atPlan ?_); refine Nx.runP (n := 200) rfl (by repeat (first | exact subB.nil _ | refine subB.cons rfl ?_)) ?_; conv => whnf)
      | ((with_reducible refine atAftL ?_); refine Nx.late ?_)
      | ((fail_if_success (with_reducible refine atRet ?_)); (fail_if_success (with_reducible refine atLoop ?_)); (fail_if_success (with_reducible refine atIn ?_)); (fail_if_success (with_reducible refine atDrawn ?_)); (fail_if_success (with_reducible refine atEnd ?_)); (with_reducible refine atRun ?_); refine go 200 ?_; conv => whnf))
    rw [Nat.zero_add, List.nil_append]
    refine Nx.ret [0,1,3,4] Tryz.func18 rfl rfl ?_
    exact fin A' none c' 0
  | 6, hk, c33, c34 =>
    have pl : plainA ⟨((6 : Nat) : Int), wh, ri, nn, tm, wy, af, es⟩ = ⟨6, wh, 0, 0, 0, ⟨0, 0, 0⟩, [], es⟩ := rfl
    rw [pl]
    have fin := fun A' B' c' d' => @PlPost.mk S1 S2 ⟨6, wh, 0, 0, 0, ⟨0, 0, 0⟩, [], es⟩ A' B' c' d'
    simp only at fin
    refine FnOk.start Tryz.func18 rfl rfl rfl rfl fun F os tape output => ?_
    refine Nx.give 3 (ownS 3 none 0 0 1 []) (own_nil _ _ _ _) ?_
    refine Nx.give 4 (ownS 72 none 0 0 2 []) (own_nil _ _ _ _) ?_
    refine go 200 ?_
    conv => whnf
    repeat' (first
      | ((with_reducible refine atBr ?_); (first | refine BrM.t rfl ?_ | refine BrM.f rfl ?_ | refine BrM.dec (fun _ => ?_) (fun _ => ?_) | refine BrM.mk (fun _ => ?_) (fun _ => ?_)) <;> conv => whnf)
      | ((with_reducible refine atAr ?_); refine Ar.i64 (by omega) (by omega) ?_; conv => whnf)
      | ((with_reducible refine (atCall 33) ?_); refine Nx.call [] [] rfl rfl rfl rfl rfl (c33) rfl fun v Q hQ => ?_; obtain ⟨rfl, rfl⟩ := hQ)
      | ((with_reducible refine (atCall 34) ?_); refine Nx.call [] [] rfl rfl rfl rfl rfl (c34 _ (by decide)) rfl fun v Q hQ => ?_; obtain ⟨rfl, rfl⟩ := hQ; first | rw [hd110 hk] | rw [hd107 hk] | rw [hd114 hk] | rw [hd119 hk] | rw [hd104 hk] | rw [hd116 hk] | rw [hd97 hk] | rw [hd101 hk])
      | ((with_reducible refine atApp ?_); refine Nx.appendS 4 1 (sz := 2) (by_ := 16) rfl rfl rfl Tryz.underlying26 rfl rfl rfl rfl h2 (one_evs _) (by unfold maxLen; omega) (by omega) fun B' d' => ?_)
      | ((with_reducible refine atOps ?_); refine go 200 ?_; conv => whnf)
      | ((with_reducible refine atPlan ?_); refine Nx.runP (n := 200) rfl (by repeat (first | exact subB.nil _ | refine subB.cons rfl ?_)) ?_; conv => whnf)
      | ((with_reducible refine atAftL ?_); refine Nx.late ?_)
      | ((fail_if_success (with_reducible refine atRet ?_)); (fail_if_success (with_reducible refine atLoop ?_)); (fail_if_success (with_reducible refine atIn ?_)); (fail_if_success (with_reducible refine atDrawn ?_)); (fail_if_success (with_reducible refine atEnd ?_)); (with_reducible refine atRun ?_); refine go 200 ?_; conv => whnf))
    rw [Nat.zero_add, List.nil_append]
    refine Nx.ret [0,1,3,4] Tryz.func18 rfl rfl ?_
    exact fin none B' 0 d'
  | 7, hk, c33, c34 =>
    have pl : plainA ⟨((7 : Nat) : Int), wh, ri, nn, tm, wy, af, es⟩ = ⟨7, wh, 0, 0, 0, ⟨0, 0, 0⟩, [], es⟩ := rfl
    rw [pl]
    have fin := fun A' B' c' d' => @PlPost.mk S1 S2 ⟨7, wh, 0, 0, 0, ⟨0, 0, 0⟩, [], es⟩ A' B' c' d'
    simp only at fin
    refine FnOk.start Tryz.func18 rfl rfl rfl rfl fun F os tape output => ?_
    refine Nx.give 3 (ownS 3 none 0 0 1 []) (own_nil _ _ _ _) ?_
    refine Nx.give 4 (ownS 72 none 0 0 2 []) (own_nil _ _ _ _) ?_
    refine go 200 ?_
    conv => whnf
    repeat' (first
      | ((with_reducible refine atBr ?_); (first | refine BrM.t rfl ?_ | refine BrM.f rfl ?_ | refine BrM.dec (fun _ => ?_) (fun _ => ?_) | refine BrM.mk (fun _ => ?_) (fun _ => ?_)) <;> conv => whnf)
      | ((with_reducible refine atAr ?_); refine Ar.i64 (by omega) (by omega) ?_; conv => whnf)
      | ((with_reducible refine (atCall 33) ?_); refine Nx.call [] [] rfl rfl rfl rfl rfl (c33) rfl fun v Q hQ => ?_; obtain ⟨rfl, rfl⟩ := hQ)
      | ((with_reducible refine (atCall 34) ?_); refine Nx.call [] [] rfl rfl rfl rfl rfl (c34 _ (by decide)) rfl fun v Q hQ => ?_; obtain ⟨rfl, rfl⟩ := hQ; first | rw [hd110 hk] | rw [hd107 hk] | rw [hd114 hk] | rw [hd119 hk] | rw [hd104 hk] | rw [hd116 hk] | rw [hd97 hk] | rw [hd101 hk])
      | ((with_reducible refine atApp ?_); refine Nx.appendS 4 1 (sz := 2) (by_ := 16) rfl rfl rfl Tryz.underlying26 rfl rfl rfl rfl h2 (one_evs _) (by unfold maxLen; omega) (by omega) fun B' d' => ?_)
      | ((with_reducible refine atOps ?_); refine go 200 ?_; conv => whnf)
      | ((with_reducible refine atPlan ?_); refine Nx.runP (n := 200) rfl (by repeat (first | exact subB.nil _ | refine subB.cons rfl ?_)) ?_; conv => whnf)
      | ((with_reducible refine atAftL ?_); refine Nx.late ?_)
      | ((fail_if_success (with_reducible refine atRet ?_)); (fail_if_success (with_reducible refine atLoop ?_)); (fail_if_success (with_reducible refine atIn ?_)); (fail_if_success (with_reducible refine atDrawn ?_)); (fail_if_success (with_reducible refine atEnd ?_)); (with_reducible refine atRun ?_); refine go 200 ?_; conv => whnf))
    rw [Nat.zero_add, List.nil_append]
    refine Nx.ret [0,1,3,4] Tryz.func18 rfl rfl ?_
    exact fin none B' 0 d'
  | 8, hk, c33, c34 =>
    have pl : plainA ⟨((8 : Nat) : Int), wh, ri, nn, tm, wy, af, es⟩ = ⟨8, wh, 0, nn, 0, ⟨0, 0, 0⟩, [], []⟩ := rfl
    rw [pl]
    have fin := fun A' B' c' d' => @PlPost.mk S1 S2 ⟨8, wh, 0, nn, 0, ⟨0, 0, 0⟩, [], []⟩ A' B' c' d'
    simp only at fin
    refine FnOk.start Tryz.func18 rfl rfl rfl rfl fun F os tape output => ?_
    refine Nx.give 3 (ownS 3 none 0 0 1 []) (own_nil _ _ _ _) ?_
    refine Nx.give 4 (ownS 72 none 0 0 2 []) (own_nil _ _ _ _) ?_
    refine go 200 ?_
    conv => whnf
    repeat' (first
      | ((with_reducible refine atBr ?_); (first | refine BrM.t rfl ?_ | refine BrM.f rfl ?_ | refine BrM.dec (fun _ => ?_) (fun _ => ?_) | refine BrM.mk (fun _ => ?_) (fun _ => ?_)) <;> conv => whnf)
      | ((with_reducible refine atAr ?_); refine Ar.i64 (by omega) (by omega) ?_; conv => whnf)
      | ((with_reducible refine (atCall 33) ?_); refine Nx.call [] [] rfl rfl rfl rfl rfl (c33) rfl fun v Q hQ => ?_; obtain ⟨rfl, rfl⟩ := hQ)
      | ((with_reducible refine (atCall 34) ?_); refine Nx.call [] [] rfl rfl rfl rfl rfl (c34 _ (by decide)) rfl fun v Q hQ => ?_; obtain ⟨rfl, rfl⟩ := hQ; first | rw [hd110 hk] | rw [hd107 hk] | rw [hd114 hk] | rw [hd119 hk] | rw [hd104 hk] | rw [hd116 hk] | rw [hd97 hk] | rw [hd101 hk])
      | ((with_reducible refine atOps ?_); refine go 200 ?_; conv => whnf)
      | ((with_reducible refine atPlan ?_); refine Nx.runP (n := 200) rfl (by repeat (first | exact subB.nil _ | refine subB.cons rfl ?_)) ?_; conv => whnf)
      | ((with_reducible refine atAftL ?_); refine Nx.late ?_)
      | ((fail_if_success (with_reducible refine atRet ?_)); (fail_if_success (with_reducible refine atLoop ?_)); (fail_if_success (with_reducible refine atIn ?_)); (fail_if_success (with_reducible refine atDrawn ?_)); (fail_if_success (with_reducible refine atEnd ?_)); (with_reducible refine atRun ?_); refine go 200 ?_; conv => whnf))
    refine Nx.ret [0,1,3,4] Tryz.func18 rfl rfl ?_
    exact fin none none 0 0
  | 9, hk, c33, c34 =>
    have pl : plainA ⟨((9 : Nat) : Int), wh, ri, nn, tm, wy, af, es⟩ = ⟨9, wh, 0, 0, 0, ⟨0, 0, 0⟩, [], []⟩ := rfl
    rw [pl]
    have fin := fun A' B' c' d' => @PlPost.mk S1 S2 ⟨9, wh, 0, 0, 0, ⟨0, 0, 0⟩, [], []⟩ A' B' c' d'
    simp only at fin
    refine FnOk.start Tryz.func18 rfl rfl rfl rfl fun F os tape output => ?_
    refine Nx.give 3 (ownS 3 none 0 0 1 []) (own_nil _ _ _ _) ?_
    refine Nx.give 4 (ownS 72 none 0 0 2 []) (own_nil _ _ _ _) ?_
    refine go 200 ?_
    conv => whnf
    repeat' (first
      | ((with_reducible refine atBr ?_); (first | refine BrM.t rfl ?_ | refine BrM.f rfl ?_ | refine BrM.dec (fun _ => ?_) (fun _ => ?_) | refine BrM.mk (fun _ => ?_) (fun _ => ?_)) <;> conv => whnf)
      | ((with_reducible refine atAr ?_); refine Ar.i64 (by omega) (by omega) ?_; conv => whnf)
      | ((with_reducible refine (atCall 33) ?_); refine Nx.call [] [] rfl rfl rfl rfl rfl (c33) rfl fun v Q hQ => ?_; obtain ⟨rfl, rfl⟩ := hQ)
      | ((with_reducible refine (atCall 34) ?_); refine Nx.call [] [] rfl rfl rfl rfl rfl (c34 _ (by decide)) rfl fun v Q hQ => ?_; obtain ⟨rfl, rfl⟩ := hQ; first | rw [hd110 hk] | rw [hd107 hk] | rw [hd114 hk] | rw [hd119 hk] | rw [hd104 hk] | rw [hd116 hk] | rw [hd97 hk] | rw [hd101 hk])
      | ((with_reducible refine atOps ?_); refine go 200 ?_; conv => whnf)
      | ((with_reducible refine atPlan ?_); refine Nx.runP (n := 200) rfl (by repeat (first | exact subB.nil _ | refine subB.cons rfl ?_)) ?_; conv => whnf)
      | ((with_reducible refine atAftL ?_); refine Nx.late ?_)
      | ((fail_if_success (with_reducible refine atRet ?_)); (fail_if_success (with_reducible refine atLoop ?_)); (fail_if_success (with_reducible refine atIn ?_)); (fail_if_success (with_reducible refine atDrawn ?_)); (fail_if_success (with_reducible refine atEnd ?_)); (with_reducible refine atRun ?_); refine go 200 ?_; conv => whnf))
    refine Nx.ret [0,1,3,4] Tryz.func18 rfl rfl ?_
    exact fin none none 0 0
  | 10, hk, c33, c34 =>
    have pl : plainA ⟨((10 : Nat) : Int), wh, ri, nn, tm, wy, af, es⟩ = ⟨10, wh, 0, nn, 0, ⟨0, 0, 0⟩, [], []⟩ := rfl
    rw [pl]
    have fin := fun A' B' c' d' => @PlPost.mk S1 S2 ⟨10, wh, 0, nn, 0, ⟨0, 0, 0⟩, [], []⟩ A' B' c' d'
    simp only at fin
    refine FnOk.start Tryz.func18 rfl rfl rfl rfl fun F os tape output => ?_
    refine Nx.give 3 (ownS 3 none 0 0 1 []) (own_nil _ _ _ _) ?_
    refine Nx.give 4 (ownS 72 none 0 0 2 []) (own_nil _ _ _ _) ?_
    refine go 200 ?_
    conv => whnf
    repeat' (first
      | ((with_reducible refine atBr ?_); (first | refine BrM.t rfl ?_ | refine BrM.f rfl ?_ | refine BrM.dec (fun _ => ?_) (fun _ => ?_) | refine BrM.mk (fun _ => ?_) (fun _ => ?_)) <;> conv => whnf)
      | ((with_reducible refine atAr ?_); refine Ar.i64 (by omega) (by omega) ?_; conv => whnf)
      | ((with_reducible refine (atCall 33) ?_); refine Nx.call [] [] rfl rfl rfl rfl rfl (c33) rfl fun v Q hQ => ?_; obtain ⟨rfl, rfl⟩ := hQ)
      | ((with_reducible refine (atCall 34) ?_); refine Nx.call [] [] rfl rfl rfl rfl rfl (c34 _ (by decide)) rfl fun v Q hQ => ?_; obtain ⟨rfl, rfl⟩ := hQ; first | rw [hd110 hk] | rw [hd107 hk] | rw [hd114 hk] | rw [hd119 hk] | rw [hd104 hk] | rw [hd116 hk] | rw [hd97 hk] | rw [hd101 hk])
      | ((with_reducible refine atOps ?_); refine go 200 ?_; conv => whnf)
      | ((with_reducible refine atPlan ?_); refine Nx.runP (n := 200) rfl (by repeat (first | exact subB.nil _ | refine subB.cons rfl ?_)) ?_; conv => whnf)
      | ((with_reducible refine atAftL ?_); refine Nx.late ?_)
      | ((fail_if_success (with_reducible refine atRet ?_)); (fail_if_success (with_reducible refine atLoop ?_)); (fail_if_success (with_reducible refine atIn ?_)); (fail_if_success (with_reducible refine atDrawn ?_)); (fail_if_success (with_reducible refine atEnd ?_)); (with_reducible refine atRun ?_); refine go 200 ?_; conv => whnf))
    refine Nx.ret [0,1,3,4] Tryz.func18 rfl rfl ?_
    exact fin none none 0 0
  | 11, hk, c33, c34 =>
    have pl : plainA ⟨((11 : Nat) : Int), wh, ri, nn, tm, wy, af, es⟩ = ⟨11, wh, 0, 0, 0, ⟨0, 0, 0⟩, [], []⟩ := rfl
    rw [pl]
    have fin := fun A' B' c' d' => @PlPost.mk S1 S2 ⟨11, wh, 0, 0, 0, ⟨0, 0, 0⟩, [], []⟩ A' B' c' d'
    simp only at fin
    refine FnOk.start Tryz.func18 rfl rfl rfl rfl fun F os tape output => ?_
    refine Nx.give 3 (ownS 3 none 0 0 1 []) (own_nil _ _ _ _) ?_
    refine Nx.give 4 (ownS 72 none 0 0 2 []) (own_nil _ _ _ _) ?_
    refine go 200 ?_
    conv => whnf
    repeat' (first
      | ((with_reducible refine atBr ?_); (first | refine BrM.t rfl ?_ | refine BrM.f rfl ?_ | refine BrM.dec (fun _ => ?_) (fun _ => ?_) | refine BrM.mk (fun _ => ?_) (fun _ => ?_)) <;> conv => whnf)
      | ((with_reducible refine atAr ?_); refine Ar.i64 (by omega) (by omega) ?_; conv => whnf)
      | ((with_reducible refine (atCall 33) ?_); refine Nx.call [] [] rfl rfl rfl rfl rfl (c33) rfl fun v Q hQ => ?_; obtain ⟨rfl, rfl⟩ := hQ)
      | ((with_reducible refine (atCall 34) ?_); refine Nx.call [] [] rfl rfl rfl rfl rfl (c34 _ (by decide)) rfl fun v Q hQ => ?_; obtain ⟨rfl, rfl⟩ := hQ; first | rw [hd110 hk] | rw [hd107 hk] | rw [hd114 hk] | rw [hd119 hk] | rw [hd104 hk] | rw [hd116 hk] | rw [hd97 hk] | rw [hd101 hk])
      | ((with_reducible refine atOps ?_); refine go 200 ?_; conv => whnf)
      | ((with_reducible refine atPlan ?_); refine Nx.runP (n := 200) rfl (by repeat (first | exact subB.nil _ | refine subB.cons rfl ?_)) ?_; conv => whnf)
      | ((with_reducible refine atAftL ?_); refine Nx.late ?_)
      | ((fail_if_success (with_reducible refine atRet ?_)); (fail_if_success (with_reducible refine atLoop ?_)); (fail_if_success (with_reducible refine atIn ?_)); (fail_if_success (with_reducible refine atDrawn ?_)); (fail_if_success (with_reducible refine atEnd ?_)); (with_reducible refine atRun ?_); refine go 200 ?_; conv => whnf))
    refine Nx.ret [0,1,3,4] Tryz.func18 rfl rfl ?_
    exact fin none none 0 0
  | 12, hk, c33, c34 =>
    have pl : plainA ⟨((12 : Nat) : Int), wh, ri, nn, tm, wy, af, es⟩ = ⟨12, wh, 0, 0, 0, ⟨0, 0, 0⟩, [], []⟩ := rfl
    rw [pl]
    have fin := fun A' B' c' d' => @PlPost.mk S1 S2 ⟨12, wh, 0, 0, 0, ⟨0, 0, 0⟩, [], []⟩ A' B' c' d'
    simp only at fin
    refine FnOk.start Tryz.func18 rfl rfl rfl rfl fun F os tape output => ?_
    refine Nx.give 3 (ownS 3 none 0 0 1 []) (own_nil _ _ _ _) ?_
    refine Nx.give 4 (ownS 72 none 0 0 2 []) (own_nil _ _ _ _) ?_
    refine go 200 ?_
    conv => whnf
    repeat' (first
      | ((with_reducible refine atBr ?_); (first | refine BrM.t rfl ?_ | refine BrM.f rfl ?_ | refine BrM.dec (fun _ => ?_) (fun _ => ?_) | refine BrM.mk (fun _ => ?_) (fun _ => ?_)) <;> conv => whnf)
      | ((with_reducible refine atAr ?_); refine Ar.i64 (by omega) (by omega) ?_; conv => whnf)
      | ((with_reducible refine (atCall 33) ?_); refine Nx.call [] [] rfl rfl rfl rfl rfl (c33) rfl fun v Q hQ => ?_; obtain ⟨rfl, rfl⟩ := hQ)
      | ((with_reducible refine (atCall 34) ?_); refine Nx.call [] [] rfl rfl rfl rfl rfl (c34 _ (by decide)) rfl fun v Q hQ => ?_; obtain ⟨rfl, rfl⟩ := hQ; first | rw [hd110 hk] | rw [hd107 hk] | rw [hd114 hk] | rw [hd119 hk] | rw [hd104 hk] | rw [hd116 hk] | rw [hd97 hk] | rw [hd101 hk])
      | ((with_reducible refine atOps ?_); refine go 200 ?_; conv => whnf)
      | ((with_reducible refine atPlan ?_); refine Nx.runP (n := 200) rfl (by repeat (first | exact subB.nil _ | refine subB.cons rfl ?_)) ?_; conv => whnf)
      | ((with_reducible refine atAftL ?_); refine Nx.late ?_)
      | ((fail_if_success (with_reducible refine atRet ?_)); (fail_if_success (with_reducible refine atLoop ?_)); (fail_if_success (with_reducible refine atIn ?_)); (fail_if_success (with_reducible refine atDrawn ?_)); (fail_if_success (with_reducible refine atEnd ?_)); (with_reducible refine atRun ?_); refine go 200 ?_; conv => whnf))
    refine Nx.ret [0,1,3,4] Tryz.func18 rfl rfl ?_
    exact fin none none 0 0
  | 13, hk, c33, c34 =>
    have pl : plainA ⟨((13 : Nat) : Int), wh, ri, nn, tm, wy, af, es⟩ = ⟨13, wh, 0, 0, 0, ⟨0, 0, 0⟩, [], []⟩ := rfl
    rw [pl]
    have fin := fun A' B' c' d' => @PlPost.mk S1 S2 ⟨13, wh, 0, 0, 0, ⟨0, 0, 0⟩, [], []⟩ A' B' c' d'
    simp only at fin
    refine FnOk.start Tryz.func18 rfl rfl rfl rfl fun F os tape output => ?_
    refine Nx.give 3 (ownS 3 none 0 0 1 []) (own_nil _ _ _ _) ?_
    refine Nx.give 4 (ownS 72 none 0 0 2 []) (own_nil _ _ _ _) ?_
    refine go 200 ?_
    conv => whnf
    repeat' (first
      | ((with_reducible refine atBr ?_); (first | refine BrM.t rfl ?_ | refine BrM.f rfl ?_ | refine BrM.dec (fun _ => ?_) (fun _ => ?_) | refine BrM.mk (fun _ => ?_) (fun _ => ?_)) <;> conv => whnf)
      | ((with_reducible refine atAr ?_); refine Ar.i64 (by omega) (by omega) ?_; conv => whnf)
      | ((with_reducible refine (atCall 33) ?_); refine Nx.call [] [] rfl rfl rfl rfl rfl (c33) rfl fun v Q hQ => ?_; obtain ⟨rfl, rfl⟩ := hQ)
      | ((with_reducible refine (atCall 34) ?_); refine Nx.call [] [] rfl rfl rfl rfl rfl (c34 _ (by decide)) rfl fun v Q hQ => ?_; obtain ⟨rfl, rfl⟩ := hQ; first | rw [hd110 hk] | rw [hd107 hk] | rw [hd114 hk] | rw [hd119 hk] | rw [hd104 hk] | rw [hd116 hk] | rw [hd97 hk] | rw [hd101 hk])
      | ((with_reducible refine atOps ?_); refine go 200 ?_; conv => whnf)
      | ((with_reducible refine atPlan ?_); refine Nx.runP (n := 200) rfl (by repeat (first | exact subB.nil _ | refine subB.cons rfl ?_)) ?_; conv => whnf)
      | ((with_reducible refine atAftL ?_); refine Nx.late ?_)
      | ((fail_if_success (with_reducible refine atRet ?_)); (fail_if_success (with_reducible refine atLoop ?_)); (fail_if_success (with_reducible refine atIn ?_)); (fail_if_success (with_reducible refine atDrawn ?_)); (fail_if_success (with_reducible refine atEnd ?_)); (with_reducible refine atRun ?_); refine go 200 ?_; conv => whnf))
    refine Nx.ret [0,1,3,4] Tryz.func18 rfl rfl ?_
    exact fin none none 0 0
  | 14, hk, c33, c34 =>
    have pl : plainA ⟨((14 : Nat) : Int), wh, ri, nn, tm, wy, af, es⟩ = ⟨14, wh, 0, 0, 0, ⟨0, 0, 0⟩, [], []⟩ := rfl
    rw [pl]
    have fin := fun A' B' c' d' => @PlPost.mk S1 S2 ⟨14, wh, 0, 0, 0, ⟨0, 0, 0⟩, [], []⟩ A' B' c' d'
    simp only at fin
    refine FnOk.start Tryz.func18 rfl rfl rfl rfl fun F os tape output => ?_
    refine Nx.give 3 (ownS 3 none 0 0 1 []) (own_nil _ _ _ _) ?_
    refine Nx.give 4 (ownS 72 none 0 0 2 []) (own_nil _ _ _ _) ?_
    refine go 200 ?_
    conv => whnf
    repeat' (first
      | ((with_reducible refine atBr ?_); (first | refine BrM.t rfl ?_ | refine BrM.f rfl ?_ | refine BrM.dec (fun _ => ?_) (fun _ => ?_) | refine BrM.mk (fun _ => ?_) (fun _ => ?_)) <;> conv => whnf)
      | ((with_reducible refine atAr ?_); refine Ar.i64 (by omega) (by omega) ?_; conv => whnf)
      | ((with_reducible refine (atCall 33) ?_); refine Nx.call [] [] rfl rfl rfl rfl rfl (c33) rfl fun v Q hQ => ?_; obtain ⟨rfl, rfl⟩ := hQ)
      | ((with_reducible refine (atCall 34) ?_); refine Nx.call [] [] rfl rfl rfl rfl rfl (c34 _ (by decide)) rfl fun v Q hQ => ?_; obtain ⟨rfl, rfl⟩ := hQ; first | rw [hd110 hk] | rw [hd107 hk] | rw [hd114 hk] | rw [hd119 hk] | rw [hd104 hk] | rw [hd116 hk] | rw [hd97 hk] | rw [hd101 hk])
      | ((with_reducible refine atOps ?_); refine go 200 ?_; conv => whnf)
      | ((with_reducible refine atPlan ?_); refine Nx.runP (n := 200) rfl (by repeat (first | exact subB.nil _ | refine subB.cons rfl ?_)) ?_; conv => whnf)
      | ((with_reducible refine atAftL ?_); refine Nx.late ?_)
      | ((fail_if_success (with_reducible refine atRet ?_)); (fail_if_success (with_reducible refine atLoop ?_)); (fail_if_success (with_reducible refine atIn ?_)); (fail_if_success (with_reducible refine atDrawn ?_)); (fail_if_success (with_reducible refine atEnd ?_)); (with_reducible refine atRun ?_); refine go 200 ?_; conv => whnf))
    refine Nx.ret [0,1,3,4] Tryz.func18 rfl rfl ?_
    exact fin none none 0 0
  | 15, hk, c33, c34 =>
    have pl : plainA ⟨((15 : Nat) : Int), wh, ri, nn, tm, wy, af, es⟩ = ⟨15, 0, 0, 0, tm, ⟨0, 0, 0⟩, [], []⟩ := rfl
    rw [pl]
    have fin := fun A' B' c' d' => @PlPost.mk S1 S2 ⟨15, 0, 0, 0, tm, ⟨0, 0, 0⟩, [], []⟩ A' B' c' d'
    simp only at fin
    refine FnOk.start Tryz.func18 rfl rfl rfl rfl fun F os tape output => ?_
    refine Nx.give 3 (ownS 3 none 0 0 1 []) (own_nil _ _ _ _) ?_
    refine Nx.give 4 (ownS 72 none 0 0 2 []) (own_nil _ _ _ _) ?_
    refine go 200 ?_
    conv => whnf
    repeat' (first
      | ((with_reducible refine atBr ?_); (first | refine BrM.t rfl ?_ | refine BrM.f rfl ?_ | refine BrM.dec (fun _ => ?_) (fun _ => ?_) | refine BrM.mk (fun _ => ?_) (fun _ => ?_)) <;> conv => whnf)
      | ((with_reducible refine atAr ?_); refine Ar.i64 (by omega) (by omega) ?_; conv => whnf)
      | ((with_reducible refine (atCall 33) ?_); refine Nx.call [] [] rfl rfl rfl rfl rfl (c33) rfl fun v Q hQ => ?_; obtain ⟨rfl, rfl⟩ := hQ)
      | ((with_reducible refine (atCall 34) ?_); refine Nx.call [] [] rfl rfl rfl rfl rfl (c34 _ (by decide)) rfl fun v Q hQ => ?_; obtain ⟨rfl, rfl⟩ := hQ; first | rw [hd110 hk] | rw [hd107 hk] | rw [hd114 hk] | rw [hd119 hk] | rw [hd104 hk] | rw [hd116 hk] | rw [hd97 hk] | rw [hd101 hk])
      | ((with_reducible refine atOps ?_); refine go 200 ?_; conv => whnf)
      | ((with_reducible refine atPlan ?_); refine Nx.runP (n := 200) rfl (by repeat (first | exact subB.nil _ | refine subB.cons rfl ?_)) ?_; conv => whnf)
      | ((with_reducible refine atAftL ?_); refine Nx.late ?_)
      | ((fail_if_success (with_reducible refine atRet ?_)); (fail_if_success (with_reducible refine atLoop ?_)); (fail_if_success (with_reducible refine atIn ?_)); (fail_if_success (with_reducible refine atDrawn ?_)); (fail_if_success (with_reducible refine atEnd ?_)); (with_reducible refine atRun ?_); refine go 200 ?_; conv => whnf))
    refine Nx.ret [0,1,3,4] Tryz.func18 rfl rfl ?_
    exact fin none none 0 0
  | 16, hk, c33, c34 =>
    have pl : plainA ⟨((16 : Nat) : Int), wh, ri, nn, tm, wy, af, es⟩ = ⟨16, 0, 0, nn, 0, ⟨0, 0, 0⟩, [], []⟩ := rfl
    rw [pl]
    have fin := fun A' B' c' d' => @PlPost.mk S1 S2 ⟨16, 0, 0, nn, 0, ⟨0, 0, 0⟩, [], []⟩ A' B' c' d'
    simp only at fin
    refine FnOk.start Tryz.func18 rfl rfl rfl rfl fun F os tape output => ?_
    refine Nx.give 3 (ownS 3 none 0 0 1 []) (own_nil _ _ _ _) ?_
    refine Nx.give 4 (ownS 72 none 0 0 2 []) (own_nil _ _ _ _) ?_
    refine go 200 ?_
    conv => whnf
    repeat' (first
      | ((with_reducible refine atBr ?_); (first | refine BrM.t rfl ?_ | refine BrM.f rfl ?_ | refine BrM.dec (fun _ => ?_) (fun _ => ?_) | refine BrM.mk (fun _ => ?_) (fun _ => ?_)) <;> conv => whnf)
      | ((with_reducible refine atAr ?_); refine Ar.i64 (by omega) (by omega) ?_; conv => whnf)
      | ((with_reducible refine (atCall 33) ?_); refine Nx.call [] [] rfl rfl rfl rfl rfl (c33) rfl fun v Q hQ => ?_; obtain ⟨rfl, rfl⟩ := hQ)
      | ((with_reducible refine (atCall 34) ?_); refine Nx.call [] [] rfl rfl rfl rfl rfl (c34 _ (by decide)) rfl fun v Q hQ => ?_; obtain ⟨rfl, rfl⟩ := hQ; first | rw [hd110 hk] | rw [hd107 hk] | rw [hd114 hk] | rw [hd119 hk] | rw [hd104 hk] | rw [hd116 hk] | rw [hd97 hk] | rw [hd101 hk])
      | ((with_reducible refine atOps ?_); refine go 200 ?_; conv => whnf)
      | ((with_reducible refine atPlan ?_); refine Nx.runP (n := 200) rfl (by repeat (first | exact subB.nil _ | refine subB.cons rfl ?_)) ?_; conv => whnf)
      | ((with_reducible refine atAftL ?_); refine Nx.late ?_)
      | ((fail_if_success (with_reducible refine atRet ?_)); (fail_if_success (with_reducible refine atLoop ?_)); (fail_if_success (with_reducible refine atIn ?_)); (fail_if_success (with_reducible refine atDrawn ?_)); (fail_if_success (with_reducible refine atEnd ?_)); (with_reducible refine atRun ?_); refine go 200 ?_; conv => whnf))
    refine Nx.ret [0,1,3,4] Tryz.func18 rfl rfl ?_
    exact fin none none 0 0
  | k + 17, hk, _, _ => exact absurd hk (by omega)
end Go.Proofs.YtkfnbpbhcnekiaaGreatDoor

/- Plain laws: what is printed is read as it was, and the other way round; ticks. -/
namespace Go.Proofs.YtkfnbpbhcnekiaaGreatDoor
open Go.Lib

def tickW : Str := [116, 105, 99, 107]
theorem split_one {c : UInt8} {s w : Str} (h : splitC c s = [w]) : c ∉ s ∧ w = s := by
  have h1 := joinC_split c s
  have h2 := splitC_no_mem (c := c) (s := s) w (by rw [h]; simp)
  rw [h] at h1
  have h1 : w = s := h1
  subst h1
  exact ⟨h2, rfl⟩
theorem numOf_no32 {s : Str} (h : (32 : UInt8) ∈ s) : numOf s = none := numOf_none fun v _ h2 => by
  rw [← h2] at h
  exact no32 v h
theorem parse_tick (t : Str) (h : t.length ≤ 3000) : parseA (tickW ++ 32 :: t) = match numOf t with | some v => .ok { Ln.zero with deed := 15, at_ := v } | none => .error 6 := by
  have hs : splitC 32 (tickW ++ 32 :: t) = tickW :: splitC 32 t := splitC_append t (by decide)
  have hd : deedOf tickW = some 15 := by decide
  have hsh : shape 15 = [116] := rfl
  unfold parseA
  rw [if_neg (by simp [tickW]; omega), hs]
  simp only [hd, hsh]
  rw [readF_num (by decide) (by decide) (by decide) (by decide)]
  by_cases hm : (32 : UInt8) ∈ t
  · rw [numOf_no32 hm]
    simp only
    cases hsp : splitC 32 t with
    | nil => exact absurd hsp (splitC_ne _ _)
    | cons w r =>
      cases r with
      | nil => exact absurd hm (split_one hsp).1
      | cons u r =>
        simp only [List.headD_cons, List.tail_cons]
        cases numOf w with
        | none => rfl
        | some v => simp only; rw [readF_end, if_neg (by simp)]
  · rw [splitC_no hm]
    simp only [List.headD_cons, List.tail_cons]
    cases numOf t with
    | none => rfl
    | some v => simp only; rw [readF_end, if_pos rfl]; rfl

theorem zero_wf (k : Int) (h : I64n k) : Ln.wf { Ln.zero with deed := k } := by
  refine ⟨h, ?_, ?_, ?_, ?_, ?_, ?_, ?_, ?_, ?_⟩
  any_goals (show I64n 0; unfold I64n; omega)
  · intro x hx; cases hx
  · intro x hx; cases hx
theorem numOf_wf {s : Str} {v : Int} (h : numOf s = some v) : I64n v := (numOf_some h).2
theorem readWay_back {s : Str} {w : Way} (h : readWay s = some w) : wayW w = s ∧ (0 ≤ w.kind ∧ w.kind ≤ 3) ∧ I64n w.kind ∧ I64n w.tries ∧ I64n w.time := by
  have z : I64n 0 := by unfold I64n; omega
  unfold readWay at h
  split at h
  · rename_i e; cases h
    exact ⟨e.symm, by decide, z, z, z⟩
  split at h
  · rename_i e; cases h
    exact ⟨e.symm, by decide, by unfold I64n; decide, z, z⟩
  split at h
  · cases h
  rename_i a b hp
  have hs := (pairC_some.1 hp).1
  split at h
  · cases h
  rename_i n hn
  obtain ⟨h1, h2⟩ := numOf_some hn
  split at h
  · rename_i e; cases h
    refine ⟨?_, (by decide : (0:Int) ≤ 1 ∧ (1:Int) ≤ 3), (by unfold I64n; decide : I64n 1), h2, z⟩
    show yieldW ++ itoa n = s
    rw [h1, hs, e]; rfl
  split at h
  · rename_i e; cases h
    refine ⟨?_, (by decide : (0:Int) ≤ 3 ∧ (3:Int) ≤ 3), (by unfold I64n; decide : I64n 3), z, h2⟩
    show timedW ++ itoa n = s
    rw [h1, hs, e]; rfl
  · cases h
theorem readEv_back {s : Str} {x : Ev} (h : readEv s = some x) : evW x = s ∧ I64n x.key ∧ I64n x.val := by
  unfold readEv at h
  split at h
  · cases h
  rename_i a b hp
  have hs := (pairC_some.1 hp).1
  split at h
  · rename_i x y hx hy
    cases h
    obtain ⟨h1, h2⟩ := numOf_some hx
    obtain ⟨h3, h4⟩ := numOf_some hy
    refine ⟨?_, h2, h4⟩
    show itoa x ++ 58 :: itoa y = s
    rw [h1, h3, hs]
  · cases h
theorem readK_back {s : Str} {r : Int} (h : readK s = some r) : ringName r = s ∧ (r = 0 ∨ r = 1) := by
  unfold readK at h
  split at h
  · rename_i e; cases h; exact ⟨e.symm, .inl rfl⟩
  split at h
  · rename_i e; cases h; exact ⟨e.symm, .inr rfl⟩
  · cases h
/-- What a reader of fields has read. -/
structure Back (k : Nat) (ws : List Str) (o : Ln) : Prop where
  e : o.deed = k
  ws : (shape k).flatMap (fieldW o) = ws
  wf : o.wf
  r : 107 ∈ shape k → o.ring = 0 ∨ o.ring = 1
  w : 119 ∈ shape k → 0 ≤ o.way.kind ∧ o.way.kind ≤ 3
  a : 97 ∈ shape k → o.after.length ≤ 64
  v : 101 ∈ shape k → o.evs.length ≤ 64
  p : plainA o = o
theorem ws_cons {ws : List Str} {x : Str} (h : ws.headD [] = x) (hx : x ≠ []) : ws = x :: ws.tail := by
  cases ws with
  | nil => exact absurd h.symm hx
  | cons a r => rw [List.headD_cons] at h; rw [h]; rfl
theorem step_n {ws : List Str} {n : Int} (h : numOf (ws.headD []) = some n) : ws = itoa n :: ws.tail ∧ I64n n := by
  obtain ⟨h1, h2⟩ := numOf_some h
  exact ⟨ws_cons h1.symm (itoa_ne n), h2⟩
theorem wayW_ne (w : Way) : wayW w ≠ [] := by
  unfold wayW
  split
  · simp [yieldW]
  · split
    · simp [timedW]
    · unfold kindName
      split
      · rename_i h
        have : w.kind.toNat = 0 ∨ w.kind.toNat = 1 ∨ w.kind.toNat = 2 ∨ w.kind.toNat = 3 := by omega
        rcases this with e | e | e | e <;> rw [e] <;> simp [kindL]
      · simp
theorem step_w {ws : List Str} {w : Way} (h : readWay (ws.headD []) = some w) : ws = wayW w :: ws.tail ∧ (0 ≤ w.kind ∧ w.kind ≤ 3) ∧ I64n w.kind ∧ I64n w.tries ∧ I64n w.time := by
  obtain ⟨h1, h2⟩ := readWay_back h
  exact ⟨ws_cons h1.symm (wayW_ne w), h2⟩
theorem step_k {ws : List Str} {r : Int} (h : readK (ws.headD []) = some r) : ws = ringName r :: ws.tail ∧ (r = 0 ∨ r = 1) := by
  obtain ⟨h1, h2⟩ := readK_back h
  refine ⟨ws_cons h1.symm ?_, h2⟩
  rcases h2 with rfl | rfl <;> decide
theorem step_a {ws : List Str} {o o' : Ln} {f : Str} (h : readF o ws (97 :: f) = some o') : ∃ l, o' = { o with after := l } ∧ l.map itoa = ws ∧ l.length ≤ 64 ∧ ∀ x ∈ l, I64n x := by
  rw [readF_a] at h
  split at h
  · cases h
  rename_i h64
  cases hm : ws.mapM numOf with
  | none => rw [hm] at h; cases h
  | some l =>
    rw [hm] at h
    cases h
    have := mapM_len hm
    exact ⟨l, rfl, mapM_back (fun s x hx => (numOf_some hx).1) hm, by omega, mapM_all (fun s x hx => (numOf_some hx).2) hm⟩
theorem step_e {ws : List Str} {o o' : Ln} {f : Str} (h : readF o ws (101 :: f) = some o') : ∃ l, o' = { o with evs := l } ∧ l.map evW = ws ∧ l.length ≤ 64 ∧ ∀ x ∈ l, I64n x.key ∧ I64n x.val := by
  rw [readF_e] at h
  split at h
  · cases h
  rename_i h64
  cases hm : ws.mapM readEv with
  | none => rw [hm] at h; cases h
  | some l =>
    rw [hm] at h
    cases h
    have := mapM_len hm
    exact ⟨l, rfl, mapM_back (fun s x hx => (readEv_back hx).1) hm, by omega, mapM_all (fun s x hx => (readEv_back hx).2) hm⟩
theorem step_end {ws : List Str} {o o' : Ln} (h : readF o ws [] = some o') : ws = [] ∧ o' = o := by
  rw [readF_end] at h
  split at h
  · rename_i e; cases h; exact ⟨e, rfl⟩
  · cases h
theorem step_N {c : UInt8} (h1 : c ≠ 97) (h2 : c ≠ 101) (h3 : c ≠ 107) (h4 : c ≠ 119) {o o' : Ln} {ws : List Str} {f : Str} (h : readF o ws (c :: f) = some o') : ∃ n, ws = itoa n :: ws.tail ∧ I64n n ∧ readF (putN o c n) ws.tail f = some o' := by
  rw [readF_num h1 h2 h3 h4] at h
  cases hn : numOf (ws.headD []) with
  | none => rw [hn] at h; cases h
  | some n => rw [hn] at h; exact ⟨n, (step_n hn).1, (step_n hn).2, h⟩
theorem step_W {o o' : Ln} {ws : List Str} {f : Str} (h : readF o ws (119 :: f) = some o') : ∃ w, (ws = wayW w :: ws.tail ∧ (0 ≤ w.kind ∧ w.kind ≤ 3) ∧ I64n w.kind ∧ I64n w.tries ∧ I64n w.time) ∧ (w.kind ≠ 1 → w.tries = 0) ∧ (w.kind ≠ 3 → w.time = 0) ∧ readF { o with way := w } ws.tail f = some o' := by
  rw [readF_w] at h
  cases hn : readWay (ws.headD []) with
  | none => rw [hn] at h; cases h
  | some w =>
    rw [hn] at h
    refine ⟨w, step_w hn, ?_, ?_, h⟩
    · intro hk
      have h1 := (readWay_back hn).1
      unfold readWay at hn
      split at hn
      · cases hn; rfl
      split at hn
      · cases hn; rfl
      split at hn
      · cases hn
      split at hn
      · cases hn
      split at hn
      · cases hn; exact absurd rfl hk
      split at hn
      · cases hn; rfl
      · cases hn
    · intro hk
      unfold readWay at hn
      split at hn
      · cases hn; rfl
      split at hn
      · cases hn; rfl
      split at hn
      · cases hn
      split at hn
      · cases hn
      split at hn
      · cases hn; rfl
      split at hn
      · cases hn; exact absurd rfl hk
      · cases hn
theorem step_K {o o' : Ln} {ws : List Str} {f : Str} (h : readF o ws (107 :: f) = some o') : ∃ r, ws = ringName r :: ws.tail ∧ (r = 0 ∨ r = 1) ∧ readF { o with ring := r } ws.tail f = some o' := by
  rw [readF_k] at h
  cases hn : readK (ws.headD []) with
  | none => rw [hn] at h; cases h
  | some r => rw [hn] at h; exact ⟨r, (step_k hn).1, (step_k hn).2, h⟩
theorem plain_way {w : Way} (h1 : w.kind ≠ 1 → w.tries = 0) (h3 : w.kind ≠ 3 → w.time = 0) : (⟨w.kind, if w.kind = 1 then w.tries else 0, if w.kind = 3 then w.time else 0⟩ : Way) = w := by
  obtain ⟨a, b, c⟩ := w
  simp only at h1 h3 ⊢
  congr 1
  · split
    · rfl
    · rename_i h; exact (h1 h).symm
  · split
    · rfl
    · rename_i h; exact (h3 h).symm
theorem read_back {k : Nat} (hk : k < 17) {ws : List Str} {o : Ln} (h : readF { Ln.zero with deed := k } ws (shape k) = some o) : Back k ws o := by
  have z : I64n 0 := by unfold I64n; omega
  have zk : I64n k := by unfold I64n; omega
  have zl : ∀ x ∈ ([] : List Int), I64n x := fun x hx => by cases hx
  have ze : ∀ x ∈ ([] : List Ev), I64n x.key ∧ I64n x.val := fun x hx => by cases hx
  match k, hk, h, zk with
  | 0, _, h, zk =>
    have hsh : shape 0 = [110, 107] := rfl
    rw [hsh] at h
    obtain ⟨x1, e1, b1, h⟩ := step_N (by decide) (by decide) (by decide) (by decide) h
    obtain ⟨r, e2, hr, h⟩ := step_K h
    obtain ⟨e3, ho⟩ := step_end h
    have ho : o = ⟨((0 : Nat) : Int), 0, r, x1, 0, ⟨0, 0, 0⟩, [], []⟩ := ho
    subst ho
    have hfm : ∀ o : Ln, (shape 0).flatMap (fieldW o) = [itoa o.n] ++ ([ringName o.ring] ++ []) := fun o => rfl
    refine ⟨rfl, ?_, ⟨zk, z, (show I64n r by unfold I64n; omega), b1, z, z, z, z, zl, ze⟩, fun _ => hr, fun hm => absurd hm (by decide), fun hm => absurd hm (by decide), fun hm => absurd hm (by decide), ?_⟩
    · rw [hfm]; simp only [List.append_nil, List.cons_append, List.nil_append]; conv => rhs; rw [e1, e2, e3]
    · rfl
  | 1, _, h, zk =>
    have hsh : shape 1 = [114, 119] := rfl
    rw [hsh] at h
    obtain ⟨x1, e1, b1, h⟩ := step_N (by decide) (by decide) (by decide) (by decide) h
    obtain ⟨w, ⟨e2, hk, w1, w2, w3⟩, p1, p3, h⟩ := step_W h
    obtain ⟨e3, ho⟩ := step_end h
    have ho : o = ⟨((1 : Nat) : Int), 0, x1, 0, 0, w, [], []⟩ := ho
    subst ho
    have hfm : ∀ o : Ln, (shape 1).flatMap (fieldW o) = [itoa o.ring] ++ ([wayW o.way] ++ []) := fun o => rfl
    refine ⟨rfl, ?_, ⟨zk, z, b1, z, z, w1, w2, w3, zl, ze⟩, fun hm => absurd hm (by decide), fun _ => hk, fun hm => absurd hm (by decide), fun hm => absurd hm (by decide), ?_⟩
    · rw [hfm]; simp only [List.append_nil, List.cons_append, List.nil_append]; conv => rhs; rw [e1, e2, e3]
    · refine Eq.trans (b := { Ln.zero with deed := 1, ring := x1, n := 0, way := ⟨w.kind, if w.kind = 1 then w.tries else 0, if w.kind = 3 then w.time else 0⟩, after := [] }) rfl ?_
      rw [plain_way p1 p3]; rfl
  | 2, _, h, zk =>
    have hsh : shape 2 = [114, 119, 110, 97] := rfl
    rw [hsh] at h
    obtain ⟨x1, e1, b1, h⟩ := step_N (by decide) (by decide) (by decide) (by decide) h
    obtain ⟨w, ⟨e2, hk, w1, w2, w3⟩, p1, p3, h⟩ := step_W h
    obtain ⟨x3, e3, b3, h⟩ := step_N (by decide) (by decide) (by decide) (by decide) h
    obtain ⟨l, ho, e4, hl, bl⟩ := step_a h
    have ho : o = ⟨((2 : Nat) : Int), 0, x1, x3, 0, w, l, []⟩ := ho
    subst ho
    have hfm : ∀ o : Ln, (shape 2).flatMap (fieldW o) = [itoa o.ring] ++ ([wayW o.way] ++ ([itoa o.n] ++ (o.after.map itoa ++ []))) := fun o => rfl
    refine ⟨rfl, ?_, ⟨zk, z, b1, b3, z, w1, w2, w3, bl, ze⟩, fun hm => absurd hm (by decide), fun _ => hk, fun _ => hl, fun hm => absurd hm (by decide), ?_⟩
    · rw [hfm]; simp only [List.append_nil, List.cons_append, List.nil_append]; rw [e4]; conv => rhs; rw [e1, e2, e3]
    · refine Eq.trans (b := { Ln.zero with deed := 2, ring := x1, n := x3, way := ⟨w.kind, if w.kind = 1 then w.tries else 0, if w.kind = 3 then w.time else 0⟩, after := l }) rfl ?_
      rw [plain_way p1 p3]; rfl
  | 3, _, h, zk =>
    have hsh : shape 3 = [114, 119, 110, 97] := rfl
    rw [hsh] at h
    obtain ⟨x1, e1, b1, h⟩ := step_N (by decide) (by decide) (by decide) (by decide) h
    obtain ⟨w, ⟨e2, hk, w1, w2, w3⟩, p1, p3, h⟩ := step_W h
    obtain ⟨x3, e3, b3, h⟩ := step_N (by decide) (by decide) (by decide) (by decide) h
    obtain ⟨l, ho, e4, hl, bl⟩ := step_a h
    have ho : o = ⟨((3 : Nat) : Int), 0, x1, x3, 0, w, l, []⟩ := ho
    subst ho
    have hfm : ∀ o : Ln, (shape 3).flatMap (fieldW o) = [itoa o.ring] ++ ([wayW o.way] ++ ([itoa o.n] ++ (o.after.map itoa ++ []))) := fun o => rfl
    refine ⟨rfl, ?_, ⟨zk, z, b1, b3, z, w1, w2, w3, bl, ze⟩, fun hm => absurd hm (by decide), fun _ => hk, fun _ => hl, fun hm => absurd hm (by decide), ?_⟩
    · rw [hfm]; simp only [List.append_nil, List.cons_append, List.nil_append]; rw [e4]; conv => rhs; rw [e1, e2, e3]
    · refine Eq.trans (b := { Ln.zero with deed := 3, ring := x1, n := x3, way := ⟨w.kind, if w.kind = 1 then w.tries else 0, if w.kind = 3 then w.time else 0⟩, after := l }) rfl ?_
      rw [plain_way p1 p3]; rfl
  | 4, _, h, zk =>
    have hsh : shape 4 = [114, 119, 97] := rfl
    rw [hsh] at h
    obtain ⟨x1, e1, b1, h⟩ := step_N (by decide) (by decide) (by decide) (by decide) h
    obtain ⟨w, ⟨e2, hk, w1, w2, w3⟩, p1, p3, h⟩ := step_W h
    obtain ⟨l, ho, e3, hl, bl⟩ := step_a h
    have ho : o = ⟨((4 : Nat) : Int), 0, x1, 0, 0, w, l, []⟩ := ho
    subst ho
    have hfm : ∀ o : Ln, (shape 4).flatMap (fieldW o) = [itoa o.ring] ++ ([wayW o.way] ++ (o.after.map itoa ++ [])) := fun o => rfl
    refine ⟨rfl, ?_, ⟨zk, z, b1, z, z, w1, w2, w3, bl, ze⟩, fun hm => absurd hm (by decide), fun _ => hk, fun _ => hl, fun hm => absurd hm (by decide), ?_⟩
    · rw [hfm]; simp only [List.append_nil, List.cons_append, List.nil_append]; rw [e3]; conv => rhs; rw [e1, e2]
    · refine Eq.trans (b := { Ln.zero with deed := 4, ring := x1, n := 0, way := ⟨w.kind, if w.kind = 1 then w.tries else 0, if w.kind = 3 then w.time else 0⟩, after := l }) rfl ?_
      rw [plain_way p1 p3]; rfl
  | 5, _, h, zk =>
    have hsh : shape 5 = [97] := rfl
    rw [hsh] at h
    obtain ⟨l, ho, e1, hl, bl⟩ := step_a h
    have ho : o = ⟨((5 : Nat) : Int), 0, 0, 0, 0, ⟨0, 0, 0⟩, l, []⟩ := ho
    subst ho
    have hfm : ∀ o : Ln, (shape 5).flatMap (fieldW o) = o.after.map itoa ++ [] := fun o => rfl
    refine ⟨rfl, ?_, ⟨zk, z, z, z, z, z, z, z, bl, ze⟩, fun hm => absurd hm (by decide), fun hm => absurd hm (by decide), fun _ => hl, fun hm => absurd hm (by decide), ?_⟩
    · rw [hfm]; simp only [List.append_nil, List.cons_append, List.nil_append]; rw [e1]
    · rfl
  | 6, _, h, zk =>
    have hsh : shape 6 = [104, 101] := rfl
    rw [hsh] at h
    obtain ⟨x1, e1, b1, h⟩ := step_N (by decide) (by decide) (by decide) (by decide) h
    obtain ⟨l, ho, e2, hl, bl⟩ := step_e h
    have ho : o = ⟨((6 : Nat) : Int), x1, 0, 0, 0, ⟨0, 0, 0⟩, [], l⟩ := ho
    subst ho
    have hfm : ∀ o : Ln, (shape 6).flatMap (fieldW o) = [itoa o.who] ++ (o.evs.map evW ++ []) := fun o => rfl
    refine ⟨rfl, ?_, ⟨zk, b1, z, z, z, z, z, z, zl, bl⟩, fun hm => absurd hm (by decide), fun hm => absurd hm (by decide), fun hm => absurd hm (by decide), fun _ => hl, ?_⟩
    · rw [hfm]; simp only [List.append_nil, List.cons_append, List.nil_append]; rw [e2]; conv => rhs; rw [e1]
    · rfl
  | 7, _, h, zk =>
    have hsh : shape 7 = [104, 101] := rfl
    rw [hsh] at h
    obtain ⟨x1, e1, b1, h⟩ := step_N (by decide) (by decide) (by decide) (by decide) h
    obtain ⟨l, ho, e2, hl, bl⟩ := step_e h
    have ho : o = ⟨((7 : Nat) : Int), x1, 0, 0, 0, ⟨0, 0, 0⟩, [], l⟩ := ho
    subst ho
    have hfm : ∀ o : Ln, (shape 7).flatMap (fieldW o) = [itoa o.who] ++ (o.evs.map evW ++ []) := fun o => rfl
    refine ⟨rfl, ?_, ⟨zk, b1, z, z, z, z, z, z, zl, bl⟩, fun hm => absurd hm (by decide), fun hm => absurd hm (by decide), fun hm => absurd hm (by decide), fun _ => hl, ?_⟩
    · rw [hfm]; simp only [List.append_nil, List.cons_append, List.nil_append]; rw [e2]; conv => rhs; rw [e1]
    · rfl
  | 8, _, h, zk =>
    have hsh : shape 8 = [104, 110] := rfl
    rw [hsh] at h
    obtain ⟨x1, e1, b1, h⟩ := step_N (by decide) (by decide) (by decide) (by decide) h
    obtain ⟨x2, e2, b2, h⟩ := step_N (by decide) (by decide) (by decide) (by decide) h
    obtain ⟨e3, ho⟩ := step_end h
    have ho : o = ⟨((8 : Nat) : Int), x1, 0, x2, 0, ⟨0, 0, 0⟩, [], []⟩ := ho
    subst ho
    have hfm : ∀ o : Ln, (shape 8).flatMap (fieldW o) = [itoa o.who] ++ ([itoa o.n] ++ []) := fun o => rfl
    refine ⟨rfl, ?_, ⟨zk, b1, z, b2, z, z, z, z, zl, ze⟩, fun hm => absurd hm (by decide), fun hm => absurd hm (by decide), fun hm => absurd hm (by decide), fun hm => absurd hm (by decide), ?_⟩
    · rw [hfm]; simp only [List.append_nil, List.cons_append, List.nil_append]; conv => rhs; rw [e1, e2, e3]
    · rfl
  | 9, _, h, zk =>
    have hsh : shape 9 = [104] := rfl
    rw [hsh] at h
    obtain ⟨x1, e1, b1, h⟩ := step_N (by decide) (by decide) (by decide) (by decide) h
    obtain ⟨e2, ho⟩ := step_end h
    have ho : o = ⟨((9 : Nat) : Int), x1, 0, 0, 0, ⟨0, 0, 0⟩, [], []⟩ := ho
    subst ho
    have hfm : ∀ o : Ln, (shape 9).flatMap (fieldW o) = [itoa o.who] ++ [] := fun o => rfl
    refine ⟨rfl, ?_, ⟨zk, b1, z, z, z, z, z, z, zl, ze⟩, fun hm => absurd hm (by decide), fun hm => absurd hm (by decide), fun hm => absurd hm (by decide), fun hm => absurd hm (by decide), ?_⟩
    · rw [hfm]; simp only [List.append_nil, List.cons_append, List.nil_append]; conv => rhs; rw [e1, e2]
    · rfl
  | 10, _, h, zk =>
    have hsh : shape 10 = [104, 110] := rfl
    rw [hsh] at h
    obtain ⟨x1, e1, b1, h⟩ := step_N (by decide) (by decide) (by decide) (by decide) h
    obtain ⟨x2, e2, b2, h⟩ := step_N (by decide) (by decide) (by decide) (by decide) h
    obtain ⟨e3, ho⟩ := step_end h
    have ho : o = ⟨((10 : Nat) : Int), x1, 0, x2, 0, ⟨0, 0, 0⟩, [], []⟩ := ho
    subst ho
    have hfm : ∀ o : Ln, (shape 10).flatMap (fieldW o) = [itoa o.who] ++ ([itoa o.n] ++ []) := fun o => rfl
    refine ⟨rfl, ?_, ⟨zk, b1, z, b2, z, z, z, z, zl, ze⟩, fun hm => absurd hm (by decide), fun hm => absurd hm (by decide), fun hm => absurd hm (by decide), fun hm => absurd hm (by decide), ?_⟩
    · rw [hfm]; simp only [List.append_nil, List.cons_append, List.nil_append]; conv => rhs; rw [e1, e2, e3]
    · rfl
  | 11, _, h, zk =>
    have hsh : shape 11 = [104] := rfl
    rw [hsh] at h
    obtain ⟨x1, e1, b1, h⟩ := step_N (by decide) (by decide) (by decide) (by decide) h
    obtain ⟨e2, ho⟩ := step_end h
    have ho : o = ⟨((11 : Nat) : Int), x1, 0, 0, 0, ⟨0, 0, 0⟩, [], []⟩ := ho
    subst ho
    have hfm : ∀ o : Ln, (shape 11).flatMap (fieldW o) = [itoa o.who] ++ [] := fun o => rfl
    refine ⟨rfl, ?_, ⟨zk, b1, z, z, z, z, z, z, zl, ze⟩, fun hm => absurd hm (by decide), fun hm => absurd hm (by decide), fun hm => absurd hm (by decide), fun hm => absurd hm (by decide), ?_⟩
    · rw [hfm]; simp only [List.append_nil, List.cons_append, List.nil_append]; conv => rhs; rw [e1, e2]
    · rfl
  | 12, _, h, zk =>
    have hsh : shape 12 = [104] := rfl
    rw [hsh] at h
    obtain ⟨x1, e1, b1, h⟩ := step_N (by decide) (by decide) (by decide) (by decide) h
    obtain ⟨e2, ho⟩ := step_end h
    have ho : o = ⟨((12 : Nat) : Int), x1, 0, 0, 0, ⟨0, 0, 0⟩, [], []⟩ := ho
    subst ho
    have hfm : ∀ o : Ln, (shape 12).flatMap (fieldW o) = [itoa o.who] ++ [] := fun o => rfl
    refine ⟨rfl, ?_, ⟨zk, b1, z, z, z, z, z, z, zl, ze⟩, fun hm => absurd hm (by decide), fun hm => absurd hm (by decide), fun hm => absurd hm (by decide), fun hm => absurd hm (by decide), ?_⟩
    · rw [hfm]; simp only [List.append_nil, List.cons_append, List.nil_append]; conv => rhs; rw [e1, e2]
    · rfl
  | 13, _, h, zk =>
    have hsh : shape 13 = [104] := rfl
    rw [hsh] at h
    obtain ⟨x1, e1, b1, h⟩ := step_N (by decide) (by decide) (by decide) (by decide) h
    obtain ⟨e2, ho⟩ := step_end h
    have ho : o = ⟨((13 : Nat) : Int), x1, 0, 0, 0, ⟨0, 0, 0⟩, [], []⟩ := ho
    subst ho
    have hfm : ∀ o : Ln, (shape 13).flatMap (fieldW o) = [itoa o.who] ++ [] := fun o => rfl
    refine ⟨rfl, ?_, ⟨zk, b1, z, z, z, z, z, z, zl, ze⟩, fun hm => absurd hm (by decide), fun hm => absurd hm (by decide), fun hm => absurd hm (by decide), fun hm => absurd hm (by decide), ?_⟩
    · rw [hfm]; simp only [List.append_nil, List.cons_append, List.nil_append]; conv => rhs; rw [e1, e2]
    · rfl
  | 14, _, h, zk =>
    have hsh : shape 14 = [104] := rfl
    rw [hsh] at h
    obtain ⟨x1, e1, b1, h⟩ := step_N (by decide) (by decide) (by decide) (by decide) h
    obtain ⟨e2, ho⟩ := step_end h
    have ho : o = ⟨((14 : Nat) : Int), x1, 0, 0, 0, ⟨0, 0, 0⟩, [], []⟩ := ho
    subst ho
    have hfm : ∀ o : Ln, (shape 14).flatMap (fieldW o) = [itoa o.who] ++ [] := fun o => rfl
    refine ⟨rfl, ?_, ⟨zk, b1, z, z, z, z, z, z, zl, ze⟩, fun hm => absurd hm (by decide), fun hm => absurd hm (by decide), fun hm => absurd hm (by decide), fun hm => absurd hm (by decide), ?_⟩
    · rw [hfm]; simp only [List.append_nil, List.cons_append, List.nil_append]; conv => rhs; rw [e1, e2]
    · rfl
  | 15, _, h, zk =>
    have hsh : shape 15 = [116] := rfl
    rw [hsh] at h
    obtain ⟨x1, e1, b1, h⟩ := step_N (by decide) (by decide) (by decide) (by decide) h
    obtain ⟨e2, ho⟩ := step_end h
    have ho : o = ⟨((15 : Nat) : Int), 0, 0, 0, x1, ⟨0, 0, 0⟩, [], []⟩ := ho
    subst ho
    have hfm : ∀ o : Ln, (shape 15).flatMap (fieldW o) = [itoa o.at_] ++ [] := fun o => rfl
    refine ⟨rfl, ?_, ⟨zk, z, z, z, b1, z, z, z, zl, ze⟩, fun hm => absurd hm (by decide), fun hm => absurd hm (by decide), fun hm => absurd hm (by decide), fun hm => absurd hm (by decide), ?_⟩
    · rw [hfm]; simp only [List.append_nil, List.cons_append, List.nil_append]; conv => rhs; rw [e1, e2]
    · rfl
  | 16, _, h, zk =>
    have hsh : shape 16 = [110] := rfl
    rw [hsh] at h
    obtain ⟨x1, e1, b1, h⟩ := step_N (by decide) (by decide) (by decide) (by decide) h
    obtain ⟨e2, ho⟩ := step_end h
    have ho : o = ⟨((16 : Nat) : Int), 0, 0, x1, 0, ⟨0, 0, 0⟩, [], []⟩ := ho
    subst ho
    have hfm : ∀ o : Ln, (shape 16).flatMap (fieldW o) = [itoa o.n] ++ [] := fun o => rfl
    refine ⟨rfl, ?_, ⟨zk, z, z, b1, z, z, z, z, zl, ze⟩, fun hm => absurd hm (by decide), fun hm => absurd hm (by decide), fun hm => absurd hm (by decide), fun hm => absurd hm (by decide), ?_⟩
    · rw [hfm]; simp only [List.append_nil, List.cons_append, List.nil_append]; conv => rhs; rw [e1, e2]
    · rfl
  | k + 17, hk, _, _ => exact absurd hk (by omega)
/-- What is read is printed as it was. -/
theorem parse_back {s : Str} {o : Ln} (h : parseA s = .ok o) : ∃ k, k < 17 ∧ s = joinC 32 (lineW o) ∧ ∃ ws, Back k ws o := by
  unfold parseA at h
  split at h
  · cases h
  split at h
  · cases h
  rename_i w ws hs
  split at h
  · cases h
  rename_i k hd
  split at h
  · cases h
  rename_i o' hr
  cases h
  obtain ⟨hk, hw⟩ := word_deed hd
  have hb := read_back hk hr
  refine ⟨k, hk, ?_, ws, hb⟩
  have e : o.deed.toNat = k := by rw [hb.e]; rfl
  have h1 := joinC_split 32 s
  rw [hs] at h1
  unfold lineW
  rw [e, hb.ws, hw, h1]
end Go.Proofs.YtkfnbpbhcnekiaaGreatDoor

/- Small functions of the statements; awake. -/
namespace Go.Proofs.YtkfnbpbhcnekiaaGreatDoor
open Go.RowKit Go.Lib
attribute [local irreducible] Nx Ar BrM
set_option maxRecDepth 20000
set_option maxHeartbeats 2000000

theorem To_ok (o : Ln) (A B : Option Addr) (c d : Nat) : FnOk Tryz.prog 12 [lnV o A c B d] [] (fun v Q => v = lnV o A c B d ∧ Q = []) := by
  refine FnOk.start Tryz.func12 rfl rfl rfl rfl fun F os tape output => ?_
  refine go 200 ?_
  conv => whnf
  repeat' (first
    | ((with_reducible refine atBr ?_); (first | refine BrM.t rfl ?_ | refine BrM.f rfl ?_ | refine BrM.dec (fun _ => ?_) (fun _ => ?_) | refine BrM.mk (fun _ => ?_) (fun _ => ?_)) <;> conv => whnf)
    | ((with_reducible refine atAr ?_); refine Ar.i64 (by omega) (by omega) ?_; conv => whnf)
    | ((with_reducible refine atRet ?_); refine Nx.ret [] Tryz.func12 rfl rfl ?_; (exact ⟨rfl, rfl⟩))
    | ((with_reducible refine atOps ?_); refine go 200 ?_; conv => whnf)
    | ((with_reducible refine atPlan ?_); refine Nx.runP (n := 200) rfl (by repeat (first | exact subB.nil _ | refine subB.cons rfl ?_)) ?_; conv => whnf)
    | ((with_reducible refine atAftL ?_); refine Nx.late ?_)
    | ((fail_if_success (with_reducible refine atRet ?_)); (fail_if_success (with_reducible refine atLoop ?_)); (fail_if_success (with_reducible refine atIn ?_)); (fail_if_success (with_reducible refine atDrawn ?_)); (fail_if_success (with_reducible refine atEnd ?_)); (with_reducible refine atRun ?_); refine go 200 ?_; conv => whnf))
theorem Of_ok (o : Ln) (A B : Option Addr) (c d : Nat) : FnOk Tryz.prog 14 [lnV o A c B d] [] (fun v Q => v = lnV o A c B d ∧ Q = []) := by
  refine FnOk.start Tryz.func14 rfl rfl rfl rfl fun F os tape output => ?_
  refine go 200 ?_
  conv => whnf
  repeat' (first
    | ((with_reducible refine atBr ?_); (first | refine BrM.t rfl ?_ | refine BrM.f rfl ?_ | refine BrM.dec (fun _ => ?_) (fun _ => ?_) | refine BrM.mk (fun _ => ?_) (fun _ => ?_)) <;> conv => whnf)
    | ((with_reducible refine atAr ?_); refine Ar.i64 (by omega) (by omega) ?_; conv => whnf)
    | ((with_reducible refine atDrawn ?_); refine Nx.bind (l := 1) (fun _ => ?_) rfl; refine Nx.bind (l := 2) (fun _ => ?_) rfl; refine Nx.drawn0 [] [.pure 0, .held 1, .pure 2, .held 3, .pure 4, .held 5, .pure 6, .held 7, .pure 8, .held 9, .pure 10, .held 11, .pure 13, .held 14, .pure 15, .held 16, .ex 12 true, .pure 17, .ex 18 false] rfl (by kernel_rfl) rfl (by kernel_rfl) rfl (by repeat (first | exact subB.nil _ | refine subB.cons rfl ?_)) rfl ?_)
    | ((with_reducible refine (atCall 37) ?_); refine Nx.call [] [] rfl rfl rfl rfl rfl ((Way15_ok o.way.kind o.way.tries o.way.time)) rfl fun v Q hQ => ?_; obtain ⟨rfl, rfl⟩ := hQ)
    | ((with_reducible refine atAftK ?_); refine Nx.keepN [] rfl (by repeat (first | exact subB.nil _ | refine subB.cons rfl ?_)) (by repeat (first | exact subM.nil _ | refine subM.cons rfl rfl rfl ?_)) rfl ?_)
    | ((with_reducible refine atRet ?_); refine Nx.ret [] Tryz.func14 rfl rfl ?_; (exact ⟨rfl, rfl⟩))
    | ((with_reducible refine atOps ?_); refine go 200 ?_; conv => whnf)
    | ((with_reducible refine atPlan ?_); refine Nx.runP (n := 200) rfl (by repeat (first | exact subB.nil _ | refine subB.cons rfl ?_)) ?_; conv => whnf)
    | ((with_reducible refine atAftL ?_); refine Nx.late ?_)
    | ((fail_if_success (with_reducible refine atRet ?_)); (fail_if_success (with_reducible refine atLoop ?_)); (fail_if_success (with_reducible refine atIn ?_)); (fail_if_success (with_reducible refine atDrawn ?_)); (fail_if_success (with_reducible refine atEnd ?_)); (with_reducible refine atRun ?_); refine go 200 ?_; conv => whnf))
theorem light_ok (o : Ln) (A B : Option Addr) (c d : Nat) : FnOk Tryz.prog 9 [lnV o A c B d] [] (fun v Q => v = .bool (decide (o.after.length ≤ 100 ∧ o.evs.length ≤ 100)) ∧ Q = []) := by
  refine FnOk.start Tryz.func9 rfl rfl rfl rfl fun F os tape output => ?_
  refine go 200 ?_
  conv => whnf
  repeat' (first
    | ((with_reducible refine atBr ?_); (first | refine BrM.t rfl ?_ | refine BrM.f rfl ?_ | refine BrM.dec (fun _ => ?_) (fun _ => ?_) | refine BrM.mk (fun _ => ?_) (fun _ => ?_)) <;> conv => whnf)
    | ((with_reducible refine atAr ?_); refine Ar.i64 (by omega) (by omega) ?_; conv => whnf)
    | ((with_reducible refine atRet ?_); refine Nx.ret [] Tryz.func9 rfl rfl ?_; (refine ⟨?_, rfl⟩; first | (show Value.bool (decide ((o.evs.length : Int) ≤ 100)) = _; congr 1; rw [decide_eq_decide]; omega) | (show Value.bool false = _; rw [decide_eq_false (by omega)])))
    | ((with_reducible refine atOps ?_); refine go 200 ?_; conv => whnf)
    | ((with_reducible refine atPlan ?_); refine Nx.runP (n := 200) rfl (by repeat (first | exact subB.nil _ | refine subB.cons rfl ?_)) ?_; conv => whnf)
    | ((with_reducible refine atAftL ?_); refine Nx.late ?_)
    | ((fail_if_success (with_reducible refine atRet ?_)); (fail_if_success (with_reducible refine atLoop ?_)); (fail_if_success (with_reducible refine atIn ?_)); (fail_if_success (with_reducible refine atDrawn ?_)); (fail_if_success (with_reducible refine atEnd ?_)); (with_reducible refine atRun ?_); refine go 200 ?_; conv => whnf))
theorem nil_sees (S : SP) (A : Option Addr) (sz : Nat) : Sees S A 0 sz [] := fun r h d hs => ⟨by simp, fun h => absurd h (by omega)⟩
theorem zero_ok (S1 S2 : SP) (o : Ln) (A B : Option Addr) (c d : Nat) (h1 : Sees S1 A o.after.length 1 (intsV o.after)) (h2 : Sees S2 B o.evs.length 2 (evsV o.evs)) (l1 : o.after.length ≤ 1000000) (l2 : o.evs.length ≤ 1000000) :
    FnOk Tryz.prog 20 [lnV o A c B d] [S1, S2] (fun v Q => v = .bool (decide (o = Ln.zero)) ∧ Q = [S1, S2]) := by
  refine FnOk.start Tryz.func20 rfl rfl rfl rfl fun F os tape output => ?_
  refine Nx.give 3 (ownS 3 none 0 0 1 []) (own_nil _ _ _ _) ?_
  refine Nx.give 4 (ownS 72 none 0 0 2 []) (own_nil _ _ _ _) ?_
  refine go 200 ?_
  conv => whnf
  repeat' (first
    | ((with_reducible refine atBr ?_); (first | refine BrM.t rfl ?_ | refine BrM.f rfl ?_ | refine BrM.dec (fun _ => ?_) (fun _ => ?_) | refine BrM.mk (fun _ => ?_) (fun _ => ?_)) <;> conv => whnf)
    | ((with_reducible refine atAr ?_); refine Ar.i64 (by omega) (by omega) ?_; conv => whnf)
    | ((with_reducible refine (atCall 17) ?_); refine Nx.call [0,1,3,4] [0,1,3,4] rfl rfl rfl rfl rfl ((same_ok S1 S2 (ownS 3 none 0 0 1 []) (ownS 72 none 0 0 2 []) o Ln.zero A B none none c d 0 0 h1 h2 (nil_sees _ _ _) (nil_sees _ _ _) l1 l2)) rfl fun v Q hQ => ?_; obtain ⟨rfl, rfl⟩ := hQ)
    | ((with_reducible refine atRet ?_); refine Nx.ret [0,1] Tryz.func20 rfl rfl ?_; (exact ⟨rfl, rfl⟩))
    | ((with_reducible refine atOps ?_); refine go 200 ?_; conv => whnf)
    | ((with_reducible refine atPlan ?_); refine Nx.runP (n := 200) rfl (by repeat (first | exact subB.nil _ | refine subB.cons rfl ?_)) ?_; conv => whnf)
    | ((with_reducible refine atAftL ?_); refine Nx.late ?_)
    | ((fail_if_success (with_reducible refine atRet ?_)); (fail_if_success (with_reducible refine atLoop ?_)); (fail_if_success (with_reducible refine atIn ?_)); (fail_if_success (with_reducible refine atDrawn ?_)); (fail_if_success (with_reducible refine atEnd ?_)); (with_reducible refine atRun ?_); refine go 200 ?_; conv => whnf))
theorem blkS_sees (b n sz : Nat) (t : TypeId) (cs : List Value) (h : cs.length = n * sz) : Sees (blk b (.cells cs.toArray t (0, 0))) (some ⟨b, 0, none⟩) n sz cs := fun r m d hs =>
  ⟨h, fun _ => ⟨b, 0, _, _, _, rfl, PH.le_un_right d _ _ (show m b = _ from hs), fun j hj => by simp⟩⟩
def exLn : Ln := ⟨6, 1, 0, 0, 0, ⟨0, 0, 0⟩, [], [⟨7, -3⟩]⟩
theorem exLn_wf : exLn.wf := by
  have h : ∀ n : Int, -100 ≤ n → n ≤ 100 → I64n n := fun n h1 h2 => by unfold I64n; omega
  refine ⟨h _ (by decide) (by decide), h _ (by decide) (by decide), h _ (by decide) (by decide), h _ (by decide) (by decide), h _ (by decide) (by decide), h _ (by decide) (by decide), h _ (by decide) (by decide), h _ (by decide) (by decide), ?_, ?_⟩
  · intro x hx; cases hx
  · intro x hx
    have : x = ⟨7, -3⟩ := by simpa [exLn] using hx
    subst this
    exact ⟨h _ (by decide) (by decide), h _ (by decide) (by decide)⟩
theorem exLn_print : printA exLn = .ok [115, 101, 110, 100, 32, 49, 32, 55, 58, 45, 51] := by
  have i1 : itoa 1 = [49] := by rw [itoa_pos (by decide)]; exact decDigits_small (by decide)
  have i7 : itoa 7 = [55] := by rw [itoa_pos (by decide)]; exact decDigits_small (by decide)
  have i3 : itoa (-3) = [45, 51] := by rw [itoa_neg (by decide)]; exact congrArg _ (decDigits_small (by decide))
  have hl : lineW exLn = [word 6, itoa 1, evW ⟨7, -3⟩] := rfl
  have hp : printA exLn = .ok (joinC 32 (lineW exLn)) := rfl
  rw [hp, hl, evW, i1, i7, i3]
  rfl
theorem ex_parse : parseA [116, 105, 99, 107, 32, 48, 55] = .error 6 := by
  have := parse_tick [48, 55] (by decide)
  have hn : numOf [48, 55] = none := num_bad2 (by decide) (by decide)
  rw [hn] at this
  exact this
theorem awake_ok {m : PH} (hG : Glo m) : FnOk Tryz.prog 10 [] [roAll m] (fun v Q => v = .bool true ∧ Q = [roAll m]) := by
  have hP := fun b => Print_ok hG (ownS 3 none 0 0 1 []) (blk b (.cells #[.int .i64 7, .int .i64 (-3)] 72 (0, 0))) exLn exLn_wf none (some ⟨b, 0, none⟩) 0 1 (nil_sees _ _ _) (blkS_sees b 1 2 72 [.int .i64 7, .int .i64 (-3)] rfl) (by decide) (by decide)
  rw [exLn_print] at hP
  have hQ2 := Parse_ok hG [116, 105, 99, 107, 32, 48, 55] (by decide)
  rw [ex_parse] at hQ2
  refine FnOk.start Tryz.func10 rfl rfl rfl rfl fun F os tape output => ?_
  refine Nx.give 3 (ownS 3 none 0 0 1 []) (own_nil _ _ _ _) ?_
  refine go 200 ?_
  conv => whnf
  repeat' (first
    | ((with_reducible refine atBr ?_); (first | refine BrM.t rfl ?_ | refine BrM.f rfl ?_ | refine BrM.dec (fun _ => ?_) (fun _ => ?_) | refine BrM.mk (fun _ => ?_) (fun _ => ?_)) <;> conv => whnf)
    | ((with_reducible refine atAr ?_); refine Ar.i64 (by omega) (by omega) ?_; conv => whnf)
    | ((with_reducible refine atEsc ?_); intro _; refine Nx.out 7 rfl rfl rfl rfl ?_)
    | ((with_reducible refine atOps ?_); refine go 200 ?_; conv => whnf)
    | ((with_reducible refine atPlan ?_); refine Nx.runP (n := 200) rfl (by repeat (first | exact subB.nil _ | refine subB.cons rfl ?_)) ?_; conv => whnf)
    | ((with_reducible refine atAftL ?_); refine Nx.late ?_)
    | ((fail_if_success (with_reducible refine atRet ?_)); (fail_if_success (with_reducible refine atLoop ?_)); (fail_if_success (with_reducible refine atIn ?_)); (fail_if_success (with_reducible refine atDrawn ?_)); (fail_if_success (with_reducible refine atEnd ?_)); (with_reducible refine atRun ?_); refine go 200 ?_; conv => whnf))
  refine Nx.call [0,3,7] [0,3,7] rfl rfl rfl rfl rfl (hP _) rfl fun v Q hQ => ?_
  obtain ⟨rfl, rfl⟩ := hQ
  repeat' (first
    | ((with_reducible refine atBr ?_); (first | refine BrM.t rfl ?_ | refine BrM.f rfl ?_ | refine BrM.dec (fun _ => ?_) (fun _ => ?_) | refine BrM.mk (fun _ => ?_) (fun _ => ?_)) <;> conv => whnf)
    | ((with_reducible refine atAr ?_); refine Ar.i64 (by omega) (by omega) ?_; conv => whnf)
    | (fail)
    | ((with_reducible refine atOps ?_); refine go 200 ?_; conv => whnf)
    | ((with_reducible refine atPlan ?_); refine Nx.runP (n := 200) rfl (by repeat (first | exact subB.nil _ | refine subB.cons rfl ?_)) ?_; conv => whnf)
    | ((with_reducible refine atAftL ?_); refine Nx.late ?_)
    | ((fail_if_success (with_reducible refine atRet ?_)); (fail_if_success (with_reducible refine atLoop ?_)); (fail_if_success (with_reducible refine atIn ?_)); (fail_if_success (with_reducible refine atDrawn ?_)); (fail_if_success (with_reducible refine atEnd ?_)); (with_reducible refine atRun ?_); refine go 200 ?_; conv => whnf))
  refine Nx.call [0] [0,9] rfl rfl rfl rfl rfl (hQ2) rfl fun v Q hQ => ?_
  obtain ⟨b, q, rfl, rfl⟩ := hQ
  repeat' (first
    | ((with_reducible refine atBr ?_); refine BrM.yes (rfl) ?_; conv => whnf)
    | ((with_reducible refine atBr ?_); (first | refine BrM.t rfl ?_ | refine BrM.f rfl ?_ | refine BrM.dec (fun _ => ?_) (fun _ => ?_) | refine BrM.mk (fun _ => ?_) (fun _ => ?_)) <;> conv => whnf)
    | ((with_reducible refine atAr ?_); refine Ar.i64 (by omega) (by omega) ?_; conv => whnf)
    | ((with_reducible refine (atCall 15) ?_); refine Nx.call [9] [9] rfl rfl rfl rfl rfl ((Is_err b q 6 6 (by decide))) rfl fun v Q hQ => ?_; obtain ⟨rfl, rfl⟩ := hQ)
    | ((with_reducible refine atRet ?_); refine Nx.ret [0] Tryz.func10 rfl rfl ?_; (exact ⟨rfl, rfl⟩))
    | ((with_reducible refine atOps ?_); refine go 200 ?_; conv => whnf)
    | ((with_reducible refine atPlan ?_); refine Nx.runP (n := 200) rfl (by repeat (first | exact subB.nil _ | refine subB.cons rfl ?_)) ?_; conv => whnf)
    | ((with_reducible refine atAftL ?_); refine Nx.late ?_)
    | ((fail_if_success (with_reducible refine atRet ?_)); (fail_if_success (with_reducible refine atLoop ?_)); (fail_if_success (with_reducible refine atIn ?_)); (fail_if_success (with_reducible refine atDrawn ?_)); (fail_if_success (with_reducible refine atEnd ?_)); (with_reducible refine atRun ?_); refine go 200 ?_; conv => whnf))
theorem print_parse {o : Ln} {k : Nat} (hf : Fine o k) (hw : o.wf) : parseA (joinC 32 (lineW o)) = .ok (plainA o) := by
  have hk := hf.lt
  have he := hf.e
  have e : o.deed.toNat = k := by omega
  have h1 := hf.join hw
  have hlen : (joinC 32 (lineW o)).length ≤ 4000 := by
    have h2 := joinC_len (c := 32) (lineW_len hw (by omega))
    have h3 : (lineW o).length * (41 + 1) ≤ 68 * 42 := Nat.mul_le_mul hf.len (Nat.le_refl _)
    omega
  have hs : splitC 32 (joinC 32 (lineW o)) = lineW o := split_joinC (by unfold lineW; simp) (lineW_no32 (by omega))
  have hd : lineW o = word k :: (shape k).flatMap (fieldW o) := by unfold lineW; rw [e]
  have hsk := shape_k k hk
  have hr := readF_fields hw (fun h => hf.r (hsk.1.1 (e ▸ h))) (fun h => hf.w (hsk.2.1.1 (e ▸ h))) (fun h => hf.a (hsk.2.2.1.1 (e ▸ h))) (fun h => hf.v (hsk.2.2.2.1 (e ▸ h))) hk he
  rw [he] at hr
  unfold parseA
  rw [if_neg (by omega), hs, hd]
  simp only [deedOf_word k hk]
  rw [hr]
theorem Back.fine {k : Nat} {ws : List Str} {o : Ln} (hb : Back k ws o) (hk : k < 17) : wrongA o = 0 := by
  have he := hb.e
  obtain ⟨s1, s2, s3, s4⟩ := shape_k k hk
  have h1 := fun h => hb.r (s1.2 h)
  have h2 := fun h => hb.w (s2.2 h)
  have h3 := fun h => hb.a (s3.2 h)
  have h4 := fun h => hb.v (s4.2 h)
  unfold wrongA
  rw [if_neg (by unfold wA; omega), if_neg (by unfold wB; intro h; have := h1 (by omega); omega), if_neg (by unfold wC; intro h; have := h2 (by omega); omega), if_neg (fun hD => ?_)]
  unfold wD at hD
  rcases hD with h | h
  · have := h3 (by omega)
    omega
  · have := h4 (by omega)
    omega
theorem parse_fine {s : Str} {o : Ln} (h : parseA s = .ok o) : o.wf ∧ printA o = .ok s ∧ wrongA o = 0 := by
  obtain ⟨k, hk, hs, ws, hb⟩ := parse_back h
  have h0 := hb.fine hk
  obtain ⟨k', hf⟩ := print_fine h0
  exact ⟨hb.wf, by rw [hf.p, ← hs], h0⟩
end Go.Proofs.YtkfnbpbhcnekiaaGreatDoor

/- What the rows give: the variables as they are laid; arguments opened. -/
namespace Go.Proofs.YtkfnbpbhcnekiaaGreatDoor
open Go.ChangeShapes Go.WideShapes Go.ChangeAt Go.RowKit Go.Deep
set_option maxRecDepth 100000

theorem own0 : ownKnob Tryz.prog.godebug = none := by kernel_rfl
theorem laid0 : laidOutB Tryz.prog = true := by kernel_rfl
theorem chk0 : Tryz.checked.prog = Tryz.prog := rfl
theorem strs_block {W : World} {n : String} {d : DataW Unit} {g t k : Nat} {zs : List Str} (h : Lib.VarReads Tryz.prog W n d) (hg : Tryz.prog.globalNamed n = some g) (ht : (Tryz.prog.globals[g]?).map (·.type) = some t)
    (hu : Tryz.prog.underlying t = some (.array k 9)) (hc : Tryz.prog.cellsOf t = k) (hd : d = .agg (zs.map fun z => .lit (.string z))) : cellsAt (hw W) g (strs zs) := by
  subst hd
  obtain ⟨cs, tt, fr, fuel, p, hb, hr⟩ := reads_block h hg ht
  have := strs_of_tab hu Tryz.underlying9 (by kernel_rfl) hc hr
  refine ⟨cs, tt, fr, hb, fun j hj => ?_⟩
  rw [← Array.getElem?_toList, this]
theorem iface_block {W : World} {n : String} {d : DataW Unit} {g : Nat} {s : String} (h : Lib.VarReads Tryz.prog W n (.iface s d)) (hg : Tryz.prog.globalNamed n = some g) (ht : (Tryz.prog.globals[g]?).map (·.type) = some 32) : ∃ te pe, cellsAt (hw W) g [.iface te pe] := by
  obtain ⟨cs, tt, fr, fuel, p, hb, hr⟩ := reads_block h hg ht
  obtain ⟨u, v, he⟩ := iface_of Tryz.underlying32 hr
  refine ⟨u, v, cs, tt, fr, hb, fun j hj => ?_⟩
  rw [← Array.getElem?_toList, he]
abbrev laidL : List (String × DataW Unit) := [("internal/strconv.uint64pow10", Rows.laid_internal_strconv_uint64pow10), ("strconv.ErrRange", Rows.laid_strconv_ErrRange), ("strconv.ErrSyntax", Rows.laid_strconv_ErrSyntax), ("noria/wait.names", Rows.laid_noria_wait_names), ("noria/script.words", Rows.laid_noria_script_words), ("noria/script.kinds", Rows.laid_noria_script_kinds)]
theorem glo_of {W : World} (hsh : W.ShapedOpen Tryz.prog) (rd : ∀ x ∈ laidL, Lib.VarReads Tryz.prog W x.1 x.2) : Glo (hw W) := by
  refine ⟨strs_block (rd ("noria/script.words", Rows.laid_noria_script_words) (by simp)) (by kernel_rfl) (by kernel_rfl) Tryz.underlying74 (by kernel_rfl) rfl,
    strs_block (rd ("noria/script.kinds", Rows.laid_noria_script_kinds) (by simp)) (by kernel_rfl) (by kernel_rfl) Tryz.underlying75 (by kernel_rfl) rfl,
    strs_block (rd ("noria/wait.names", Rows.laid_noria_wait_names) (by simp)) (by kernel_rfl) (by kernel_rfl) Tryz.underlying129 (by kernel_rfl) rfl, ?_, ?_,
    iface_block (rd ("strconv.ErrSyntax", Rows.laid_strconv_ErrSyntax) (by simp)) (by kernel_rfl) (by kernel_rfl),
    iface_block (rd ("strconv.ErrRange", Rows.laid_strconv_ErrRange) (by simp)) (by kernel_rfl) (by kernel_rfl)⟩
  · obtain ⟨cs, tt, fr, fuel, p, hb, hr⟩ := reads_block (g := 3) (t := 163) (rd ("internal/strconv.uint64pow10", Rows.laid_internal_strconv_uint64pow10) (by simp)) (by kernel_rfl) (by kernel_rfl)
    have := Lib.cells_of_tab (zs := Lib.pow10Tab) (k := .u64) Tryz.underlying163 (by kernel_rfl) (by kernel_rfl) (by kernel_rfl) hr
    refine ⟨tt, fr, ?_⟩
    rw [hb]
    congr 2
    rw [← this]
  · obtain ⟨m, hm⟩ := cell_of_shapedOpen_int (g := 4) (t := 3) (zero := #[.int .i64 0]) (k := .i64) hsh (of_decide_eq_true (by kernel_rfl)) (by kernel_rfl) rfl (by kernel_rfl) (by kernel_rfl) Tryz.underlying3
    refine ⟨m, ?_⟩
    unfold World.cell? at hm
    split at hm
    · rename_i cs t fr hb
      simp only [if_true] at hm
      exact ⟨cs, t, fr, hb, fun j hj => by
        have : j = 0 := by simpa using hj
        subst this
        exact hm⟩
    · cases hm
/-- A line among the arguments. -/
theorem open_ln {H : Type} {enc : TypeId × Value → H} {W : World} {base : Nat} {sp : Nat → Bool} {held : Bool} {r : Reach} {b0 : Nat} {v : Value} {d : DataW H} {p : List MemPlace} (hval : Value.okWide Tryz.prog W r b0 28 v) (h : DataW.Trod enc Tryz.prog W base sp held 28 v d p) :
    ∃ o A c B e, v = lnV o A c B e ∧ o.wf ∧ Rd (hw W) A o.after.length 1 (intsV o.after) ∧ Rd (hw W) B o.evs.length 2 (evsV o.evs) := by
  obtain ⟨cs, rfl, hsz⟩ := okWide_struct Tryz.underlying28 hval
  obtain ⟨fuel, hf⟩ := h
  have hf : DataW.trod enc Tryz.prog W base sp held fuel 28 cs.toList = some (d, p) := hf
  obtain ⟨xs, n, _, _, hlen, hxl, hfld⟩ := DataW.trod_struct Tryz.underlying28 hf
  have hxl : xs.length = 8 := hxl
  have hlen : cs.toList.length = 10 := hlen.trans (by kernel_rfl)
  have at_ : ∀ i, i < 8 → ∃ z, xs[i]? = some z := fun i hi => ⟨_, List.getElem?_eq_getElem (by omega)⟩
  have c1 : Tryz.prog.cellsOf 3 = 1 := by kernel_rfl
  have c2 : Tryz.prog.cellsOf 2 = 1 := by kernel_rfl
  have c24 : Tryz.prog.cellsOf 24 = 3 := by kernel_rfl
  have c25 : Tryz.prog.cellsOf 25 = 1 := by kernel_rfl
  have c26 : Tryz.prog.cellsOf 26 = 1 := by kernel_rfl
  have c72 : Tryz.prog.cellsOf 72 = 2 := by kernel_rfl
  have g0 : DataW.trod enc Tryz.prog W base sp held n 3 ((cs.toList.drop 0).take (Tryz.prog.cellsOf 3)) = xs[0]? := hfld 0 _ rfl
  rw [c1] at g0
  have g1 : DataW.trod enc Tryz.prog W base sp held n 3 ((cs.toList.drop 1).take (Tryz.prog.cellsOf 3)) = xs[1]? := hfld 1 _ rfl
  rw [c1] at g1
  have g2 : DataW.trod enc Tryz.prog W base sp held n 3 ((cs.toList.drop 2).take (Tryz.prog.cellsOf 3)) = xs[2]? := hfld 2 _ rfl
  rw [c1] at g2
  have g3 : DataW.trod enc Tryz.prog W base sp held n 3 ((cs.toList.drop 3).take (Tryz.prog.cellsOf 3)) = xs[3]? := hfld 3 _ rfl
  rw [c1] at g3
  have g4 : DataW.trod enc Tryz.prog W base sp held n 2 ((cs.toList.drop 4).take (Tryz.prog.cellsOf 2)) = xs[4]? := hfld 4 _ rfl
  rw [c2] at g4
  have g5 : DataW.trod enc Tryz.prog W base sp held n 24 ((cs.toList.drop 5).take (Tryz.prog.cellsOf 24)) = xs[5]? := hfld 5 _ rfl
  rw [c24] at g5
  have g6 : DataW.trod enc Tryz.prog W base sp held n 25 ((cs.toList.drop 8).take (Tryz.prog.cellsOf 25)) = xs[6]? := hfld 6 _ rfl
  rw [c25] at g6
  have g7 : DataW.trod enc Tryz.prog W base sp held n 26 ((cs.toList.drop 9).take (Tryz.prog.cellsOf 26)) = xs[7]? := hfld 7 _ rfl
  rw [c26] at g7
  obtain ⟨z0, e0⟩ := at_ 0 (by omega)
  obtain ⟨z1, e1⟩ := at_ 1 (by omega)
  obtain ⟨z2, e2⟩ := at_ 2 (by omega)
  obtain ⟨z3, e3⟩ := at_ 3 (by omega)
  obtain ⟨z4, e4⟩ := at_ 4 (by omega)
  obtain ⟨z5, e5⟩ := at_ 5 (by omega)
  obtain ⟨z6, e6⟩ := at_ 6 (by omega)
  obtain ⟨z7, e7⟩ := at_ 7 (by omega)
  rw [e0] at g0
  rw [e1] at g1
  rw [e2] at g2
  rw [e3] at g3
  rw [e4] at g4
  rw [e5] at g5
  rw [e6] at g6
  rw [e7] at g7
  obtain ⟨n0, q0, _, w0⟩ := DataW.trod_int Tryz.underlying3 g0
  obtain ⟨n1, q1, _, w1⟩ := DataW.trod_int Tryz.underlying3 g1
  obtain ⟨n2, q2, _, w2⟩ := DataW.trod_int Tryz.underlying3 g2
  obtain ⟨n3, q3, _, w3⟩ := DataW.trod_int Tryz.underlying3 g3
  obtain ⟨n4, q4, _, w4⟩ := DataW.trod_int Tryz.underlying2 g4
  obtain ⟨l5, q5, w5⟩ := trod_ints 4 (t := 24) (by kernel_rfl) g5
  obtain ⟨A, la, ca, q6, r6, w6, _, _⟩ := open_cells (encA := fun n => [Value.int .i64 n]) (Q := I64) Tryz.underlying25 c1 (by omega) (fun n cs y hy => by
    obtain ⟨k, hk, _, hw⟩ := DataW.trod_int Tryz.underlying3 hy
    exact ⟨k, hk, I64.of_wf hw⟩) (fun _ => rfl) g6
  obtain ⟨B, le, ce, q7, r7, w7, _, _⟩ := open_cells (encA := evC) (Q := fun x => I64 x.key ∧ I64 x.val) Tryz.underlying26 c72 (by omega) (fun n cs y hy => by
    obtain ⟨l, hl, hw⟩ := trod_ints 4 (t := 72) (by kernel_rfl) hy
    have hl2 : cs.length = 2 := by
      obtain ⟨_, _, _, _, hlen, _⟩ := DataW.trod_struct Tryz.underlying72 hy
      exact hlen.trans c72
    rw [hl] at hl2
    match l, hl2, hl, hw with
    | [a, b], _, hl, hw => exact ⟨⟨a, b⟩, hl, hw a (by simp), hw b (by simp)⟩) (fun _ => rfl) g7
  obtain ⟨l⟩ := cs
  match l, hlen with
  | [a0, a1, a2, a3, a4, a5, a6, a7, a8, a9], _ =>
    simp at q0 q1 q2 q3 q4 q6 q7
    have q5 : [a5, a6, a7] = ints64 l5 := q5
    match l5, q5, w5 with
    | [k, t, u], q5, w5 =>
      simp at q5
      obtain ⟨rfl, rfl, rfl⟩ := q5
      subst q0 q1 q2 q3 q4 q6 q7
      have hI := fun n (h : I64 n) => (show I64n n from h)
      refine ⟨⟨n0, n1, n2, n3, n4, ⟨k, t, u⟩, la, le⟩, A, ca, B, ce, rfl, ⟨I64.of_wf w0, I64.of_wf w1, I64.of_wf w2, I64.of_wf w3, I64.of_wf w4, w5 k (by simp), w5 t (by simp), w5 u (by simp), w6, w7⟩, ?_, r7⟩
      rw [← ints_flat]; exact r6
theorem open_str {H : Type} {enc : TypeId × Value → H} {W : World} {base : Nat} {sp : Nat → Bool} {held : Bool} {r : Reach} {b0 : Nat} {v : Value} {d : DataW H} {p : List MemPlace} (hval : Value.okWide Tryz.prog W r b0 9 v) (h : DataW.Trod enc Tryz.prog W base sp held 9 v d p) :
    ∃ s : Str, v = str s := by
  obtain ⟨s, rfl, _⟩ := Go.ChangeMaps.open_string Tryz.underlying9 hval h
  exact ⟨s.data.toList, by obtain ⟨a⟩ := s; simp⟩
theorem open_bytes {H : Type} {enc : TypeId × Value → H} {W : World} {base : Nat} {sp : Nat → Bool} {held : Bool} {r : Reach} {b0 : Nat} {v : Value} {d : DataW H} {p : List MemPlace} (hval : Value.okWide Tryz.prog W r b0 66 v) (h : DataW.Trod enc Tryz.prog W base sp held 66 v d p) :
    ∃ (A : Option Addr) (l : List UInt8) (c : Nat), v = .slice A l.length c ∧ Rd (hw W) A l.length 1 (u8s l) ∧ l.length ≤ c := by
  obtain ⟨A, l, c, h1, h2, _, h4, _⟩ := open_flat (encA := fun b : UInt8 => [Value.int .u8 b.toNat]) (Q := fun _ => True) Tryz.underlying66 (show Tryz.prog.cellsOf 5 = 1 by kernel_rfl) (by omega) (fun n cs y hy => by
    obtain ⟨k, hk, _, hw⟩ := DataW.trod_int Tryz.underlying5 hy
    have hb : 0 ≤ k ∧ k ≤ 255 := by simpa [Lit.wf, IntKind.min, IntKind.max, IntKind.signed, IntKind.bits] using hw
    refine ⟨UInt8.ofNat k.toNat, ?_, trivial⟩
    rw [hk, UInt8.toNat_ofNat']
    congr 2
    omega) (fun _ => rfl) hval h
  refine ⟨A, l, c, h1, ?_, h4⟩
  have e : (l.flatMap fun b : UInt8 => [Value.int .u8 b.toNat]) = u8s l := by
    clear h1 h2 h4
    induction l with
    | nil => rfl
    | cons x l ih => simp [ih]
  rw [← e]; exact h2
end Go.Proofs.YtkfnbpbhcnekiaaGreatDoor

/- ScriptPrints and ScriptReads, walked. -/
namespace Go.Proofs.YtkfnbpbhcnekiaaGreatDoor
open Go.RowKit Go.Lib
attribute [local irreducible] Nx Ar BrM
set_option maxRecDepth 20000
set_option maxHeartbeats 4000000

theorem pers_dup (m : PH) : ∀ r h, roAll m r h → roAll m r PH.em := fun _ _ h => h
theorem light_yes (o : Ln) (A B : Option Addr) (c d : Nat) (h : o.after.length ≤ 100 ∧ o.evs.length ≤ 100) : FnOk Tryz.prog 9 [lnV o A c B d] [] (fun v Q => v = .bool true ∧ Q = []) := by
  have := light_ok o A B c d
  rwa [decide_eq_true h] at this
theorem light_no (o : Ln) (A B : Option Addr) (c d : Nat) (h : ¬ (o.after.length ≤ 100 ∧ o.evs.length ≤ 100)) : FnOk Tryz.prog 9 [lnV o A c B d] [] (fun v Q => v = .bool false ∧ Q = []) := by
  have := light_ok o A B c d
  rwa [decide_eq_false h] at this
theorem plain_after (o : Ln) : (plainA o).after.length ≤ o.after.length := by
  unfold plainA
  show (if 97 ∈ _ then _ else _ : List Int).length ≤ _
  split <;> simp
theorem plain_evs (o : Ln) : (plainA o).evs.length ≤ o.evs.length := by
  unfold plainA
  show (if 101 ∈ _ then _ else _ : List Ev).length ≤ _
  split <;> simp
theorem same_yes (S1 S2 S3 S4 : SP) (o : Ln) (A B A' B' : Option Addr) (c d c' d' : Nat) (h1 : Sees S1 A o.after.length 1 (intsV o.after)) (h2 : Sees S2 B o.evs.length 2 (evsV o.evs)) (h3 : Sees S3 A' o.after.length 1 (intsV o.after)) (h4 : Sees S4 B' o.evs.length 2 (evsV o.evs))
    (l1 : o.after.length ≤ 1000000) (l2 : o.evs.length ≤ 1000000) :
    FnOk Tryz.prog 17 [lnV o A c B d, lnV o A' c' B' d'] [S1, S2, S3, S4] (fun v Q => v = .bool true ∧ Q = [S1, S2, S3, S4]) := by
  have := same_ok S1 S2 S3 S4 o o A B A' B' c d c' d' h1 h2 h3 h4 l1 l2
  rwa [decide_eq_true rfl] at this
theorem Prints_ok {m : PH} (hG : Glo m) (o : Ln) (hw : o.wf) (A B : Option Addr) (c d : Nat) (h1 : Sees (roAll m) A o.after.length 1 (intsV o.after)) (h2 : Sees (roAll m) B o.evs.length 2 (evsV o.evs)) :
    FnOk Tryz.prog 3 [lnV o A c B d] [roAll m] (fun v Q => v = .bool true ∧ Q = [roAll m]) := by
  refine FnOk.start Tryz.func3 rfl rfl rfl rfl fun F os tape output => ?_
  refine Nx.also 0 1 (roAll m) rfl (pers_dup m) ?_
  refine Nx.also 0 2 (roAll m) rfl (pers_dup m) ?_
  refine go 200 ?_
  conv => whnf
  by_cases hl : o.after.length ≤ 100 ∧ o.evs.length ≤ 100
  · have hly := light_yes o A B c d hl
    obtain ⟨l1, l2⟩ := hl
    have hP := Print_ok hG (roAll m) (roAll m) o hw A B c d h1 h2 (by omega) (by omega)
    have hR := PrintR_ok (roAll m) (roAll m) o hw A B c d h1 h2 (by omega) (by omega)
    by_cases hwr : wrongA o = 0
    · obtain ⟨k, hf⟩ := print_fine hwr
      have hpp := print_parse hf hw
      have hlen := hf.join hw
      have hPl := Plain_ok (roAll m) (roAll m) o k hf.lt hf.e A B c d h1 h2 (by omega) (by omega)
      rw [hf.p] at hP hR
      obtain ⟨t, ht⟩ : ∃ t, t = joinC 32 (lineW o) := ⟨_, rfl⟩
      rw [← ht] at hP hR hpp hlen
      clear ht
      have hPa := Parse_ok hG t (by omega)
      rw [hpp] at hPa
      have hpa := plain_after o
      have hpe := plain_evs o
      obtain ⟨p, hp⟩ : ∃ p, p = plainA o := ⟨_, rfl⟩
      rw [← hp] at hPa hPl hpa hpe
      clear hp hpp
      repeat' (first
        | ((with_reducible refine atBr ?_); refine BrM.not (fun h => h rfl) ?_; conv => whnf)
        | ((with_reducible refine atBr ?_); refine BrM.not (by omega) ?_; conv => whnf)
        | ((with_reducible refine atBr ?_); (first | refine BrM.t rfl ?_ | refine BrM.f rfl ?_ | refine BrM.dec (fun _ => ?_) (fun _ => ?_) | refine BrM.mk (fun _ => ?_) (fun _ => ?_)) <;> conv => whnf)
        | ((with_reducible refine atAr ?_); refine Ar.i64 (by omega) (by omega) ?_; conv => whnf)
        | ((with_reducible refine (atCall 9) ?_); refine Nx.call [] [] rfl rfl rfl rfl rfl (hly) rfl fun v Q hQ => ?_; obtain ⟨rfl, rfl⟩ := hQ)
        | ((with_reducible refine (atCall 12) ?_); refine Nx.call [] [] rfl rfl rfl rfl rfl ((To_ok o A B c d)) rfl fun v Q hQ => ?_; obtain ⟨rfl, rfl⟩ := hQ)
        | ((with_reducible refine (atCall 11) ?_); refine Nx.call [0,1,2] [0,1,2] rfl rfl rfl rfl rfl (hP) rfl fun v Q hQ => ?_; obtain ⟨rfl, rfl⟩ := hQ)
        | ((with_reducible refine (atCall 14) ?_); refine Nx.call [] [] rfl rfl rfl rfl rfl ((Of_ok o A B c d)) rfl fun v Q hQ => ?_; obtain ⟨rfl, rfl⟩ := hQ)
        | ((with_reducible refine (atCall 13) ?_); refine Nx.call [1,2] [1,2] rfl rfl rfl rfl rfl (hR) rfl fun v Q hQ => ?_; obtain ⟨rfl, rfl⟩ := hQ)
        | ((with_reducible refine (atCall 15) ?_); refine Nx.call [] [] rfl rfl rfl rfl rfl ((Is_nil 0)) rfl fun v Q hQ => ?_; obtain ⟨rfl, rfl⟩ := hQ)
        | ((with_reducible refine atOps ?_); refine go 200 ?_; conv => whnf)
        | ((with_reducible refine atPlan ?_); refine Nx.runP (n := 200) rfl (by repeat (first | exact subB.nil _ | refine subB.cons rfl ?_)) ?_; conv => whnf)
        | ((with_reducible refine atAftL ?_); refine Nx.late ?_)
        | ((fail_if_success (with_reducible refine atRet ?_)); (fail_if_success (with_reducible refine atLoop ?_)); (fail_if_success (with_reducible refine atIn ?_)); (fail_if_success (with_reducible refine atDrawn ?_)); (fail_if_success (with_reducible refine atEnd ?_)); (with_reducible refine atRun ?_); refine go 200 ?_; conv => whnf))
      refine Nx.call [0] [0,3,4] rfl rfl rfl rfl rfl (hPa) rfl fun v Q hQ => ?_
      obtain ⟨A3, c3, B3, d3, rfl, rfl⟩ := hQ
      repeat' (first
        | ((with_reducible refine atBr ?_); (first | refine BrM.t rfl ?_ | refine BrM.f rfl ?_ | refine BrM.dec (fun _ => ?_) (fun _ => ?_) | refine BrM.mk (fun _ => ?_) (fun _ => ?_)) <;> conv => whnf)
        | ((with_reducible refine atAr ?_); refine Ar.i64 (by omega) (by omega) ?_; conv => whnf)
        | ((with_reducible refine atDrawn ?_); refine Nx.bind (l := 1) (fun _ => ?_) rfl; refine Nx.bind (l := 7) (fun _ => ?_) rfl; refine Nx.drawn0 [] [.ex 0 true, .pure 1, .pure 2, .pure 3, .pure 4, .pure 5, .held 6, .held 7, .ex 8 true, .ex 9 true, .ex 10 true, .pure 11, .pure 12] rfl (by kernel_rfl) rfl (by kernel_rfl) rfl (by repeat (first | exact subB.nil _ | refine subB.cons rfl ?_)) rfl ?_)
        | ((with_reducible refine atAftK ?_); refine Nx.keepN [] rfl (by repeat (first | exact subB.nil _ | refine subB.cons rfl ?_)) (by repeat (first | exact subM.nil _ | refine subM.cons rfl rfl rfl ?_)) rfl ?_)
        | ((with_reducible refine (atCall 10) ?_); refine Nx.call [0] [0] rfl rfl rfl rfl rfl ((awake_ok hG)) rfl fun v Q hQ => ?_; obtain ⟨rfl, rfl⟩ := hQ)
        | ((with_reducible refine (atCall 14) ?_); refine Nx.call [] [] rfl rfl rfl rfl rfl ((Of_ok o A B c d)) rfl fun v Q hQ => ?_; obtain ⟨rfl, rfl⟩ := hQ)
        | ((with_reducible refine atOps ?_); refine go 200 ?_; conv => whnf)
        | ((with_reducible refine atPlan ?_); refine Nx.runP (n := 200) rfl (by repeat (first | exact subB.nil _ | refine subB.cons rfl ?_)) ?_; conv => whnf)
        | ((with_reducible refine atAftL ?_); refine Nx.late ?_)
        | ((fail_if_success (with_reducible refine atRet ?_)); (fail_if_success (with_reducible refine atLoop ?_)); (fail_if_success (with_reducible refine atIn ?_)); (fail_if_success (with_reducible refine atDrawn ?_)); (fail_if_success (with_reducible refine atEnd ?_)); (with_reducible refine atRun ?_); refine go 200 ?_; conv => whnf))
      refine Nx.call [1,2] [1,2,13,14] rfl rfl rfl rfl rfl (hPl) rfl fun v Q hQ => ?_
      obtain ⟨A4, c4, B4, d4, rfl, rfl⟩ := hQ
      repeat' (first
        | ((with_reducible refine atBr ?_); (first | refine BrM.t rfl ?_ | refine BrM.f rfl ?_ | refine BrM.dec (fun _ => ?_) (fun _ => ?_) | refine BrM.mk (fun _ => ?_) (fun _ => ?_)) <;> conv => whnf)
        | ((with_reducible refine atAr ?_); refine Ar.i64 (by omega) (by omega) ?_; conv => whnf)
        | ((with_reducible refine atAftK ?_); refine Nx.keepN [] rfl (by repeat (first | exact subB.nil _ | refine subB.cons rfl ?_)) (by repeat (first | exact subM.nil _ | refine subM.cons rfl rfl rfl ?_)) rfl ?_)
        | ((with_reducible refine (atCall 17) ?_); refine Nx.call [3,4,13,14] [3,4,13,14] rfl rfl rfl rfl rfl ((same_yes _ _ _ _ p A3 B3 A4 B4 c3 d3 c4 d4 (ownS_sees 3 A3 p.after.length c3 1 _) (ownS_sees 72 B3 p.evs.length d3 2 _) (ownS_sees 3 A4 p.after.length c4 1 _) (ownS_sees 72 B4 p.evs.length d4 2 _) (by omega) (by omega))) rfl fun v Q hQ => ?_; obtain ⟨rfl, rfl⟩ := hQ)
        | ((with_reducible refine atRet ?_); refine Nx.ret [0] Tryz.func3 rfl rfl ?_; (exact ⟨rfl, rfl⟩))
        | ((with_reducible refine atOps ?_); refine go 200 ?_; conv => whnf)
        | ((with_reducible refine atPlan ?_); refine Nx.runP (n := 200) rfl (by repeat (first | exact subB.nil _ | refine subB.cons rfl ?_)) ?_; conv => whnf)
        | ((with_reducible refine atAftL ?_); refine Nx.late ?_)
        | ((fail_if_success (with_reducible refine atRet ?_)); (fail_if_success (with_reducible refine atLoop ?_)); (fail_if_success (with_reducible refine atIn ?_)); (fail_if_success (with_reducible refine atDrawn ?_)); (fail_if_success (with_reducible refine atEnd ?_)); (with_reducible refine atRun ?_); refine go 200 ?_; conv => whnf))
    · have hpr := print_wrong hwr
      rw [hpr] at hP hR
      obtain ⟨e, he⟩ : ∃ e, e = wrongA o := ⟨_, rfl⟩
      rw [← he] at hP hR hwr
      clear he hpr
      repeat' (first
        | ((with_reducible refine atBr ?_); (first | refine BrM.t rfl ?_ | refine BrM.f rfl ?_ | refine BrM.dec (fun _ => ?_) (fun _ => ?_) | refine BrM.mk (fun _ => ?_) (fun _ => ?_)) <;> conv => whnf)
        | ((with_reducible refine atAr ?_); refine Ar.i64 (by omega) (by omega) ?_; conv => whnf)
        | ((with_reducible refine (atCall 9) ?_); refine Nx.call [] [] rfl rfl rfl rfl rfl (hly) rfl fun v Q hQ => ?_; obtain ⟨rfl, rfl⟩ := hQ)
        | ((with_reducible refine (atCall 12) ?_); refine Nx.call [] [] rfl rfl rfl rfl rfl ((To_ok o A B c d)) rfl fun v Q hQ => ?_; obtain ⟨rfl, rfl⟩ := hQ)
        | ((with_reducible refine atOps ?_); refine go 200 ?_; conv => whnf)
        | ((with_reducible refine atPlan ?_); refine Nx.runP (n := 200) rfl (by repeat (first | exact subB.nil _ | refine subB.cons rfl ?_)) ?_; conv => whnf)
        | ((with_reducible refine atAftL ?_); refine Nx.late ?_)
        | ((fail_if_success (with_reducible refine atRet ?_)); (fail_if_success (with_reducible refine atLoop ?_)); (fail_if_success (with_reducible refine atIn ?_)); (fail_if_success (with_reducible refine atDrawn ?_)); (fail_if_success (with_reducible refine atEnd ?_)); (with_reducible refine atRun ?_); refine go 200 ?_; conv => whnf))
      refine Nx.call [0,1,2] [0,1,2,9] rfl rfl rfl rfl rfl (hP) rfl fun v Q hQ => ?_
      obtain ⟨b, q, rfl, rfl⟩ := hQ
      have hI := Is_err b q e e hwr
      rw [decide_eq_true rfl] at hI
      repeat' (first
        | ((with_reducible refine atBr ?_); refine BrM.not (fun h => h rfl) ?_; conv => whnf)
        | ((with_reducible refine atBr ?_); refine BrM.yes (by omega) ?_; conv => whnf)
        | ((with_reducible refine atBr ?_); (first | refine BrM.t rfl ?_ | refine BrM.f rfl ?_ | refine BrM.dec (fun _ => ?_) (fun _ => ?_) | refine BrM.mk (fun _ => ?_) (fun _ => ?_)) <;> conv => whnf)
        | ((with_reducible refine atAr ?_); refine Ar.i64 (by omega) (by omega) ?_; conv => whnf)
        | ((with_reducible refine (atCall 14) ?_); refine Nx.call [] [] rfl rfl rfl rfl rfl ((Of_ok o A B c d)) rfl fun v Q hQ => ?_; obtain ⟨rfl, rfl⟩ := hQ)
        | ((with_reducible refine (atCall 13) ?_); refine Nx.call [1,2] [1,2] rfl rfl rfl rfl rfl (hR) rfl fun v Q hQ => ?_; obtain ⟨rfl, rfl⟩ := hQ)
        | ((with_reducible refine (atCall 15) ?_); refine Nx.call [9] [9] rfl rfl rfl rfl rfl (hI) rfl fun v Q hQ => ?_; obtain ⟨rfl, rfl⟩ := hQ)
        | ((with_reducible refine (atCall 10) ?_); refine Nx.call [0] [0] rfl rfl rfl rfl rfl ((awake_ok hG)) rfl fun v Q hQ => ?_; obtain ⟨rfl, rfl⟩ := hQ)
        | ((with_reducible refine atRet ?_); refine Nx.ret [0] Tryz.func3 rfl rfl ?_; (exact ⟨rfl, rfl⟩))
        | ((with_reducible refine atOps ?_); refine go 200 ?_; conv => whnf)
        | ((with_reducible refine atPlan ?_); refine Nx.runP (n := 200) rfl (by repeat (first | exact subB.nil _ | refine subB.cons rfl ?_)) ?_; conv => whnf)
        | ((with_reducible refine atAftL ?_); refine Nx.late ?_)
        | ((fail_if_success (with_reducible refine atRet ?_)); (fail_if_success (with_reducible refine atLoop ?_)); (fail_if_success (with_reducible refine atIn ?_)); (fail_if_success (with_reducible refine atDrawn ?_)); (fail_if_success (with_reducible refine atEnd ?_)); (with_reducible refine atRun ?_); refine go 200 ?_; conv => whnf))
  · have hln := light_no o A B c d hl
    repeat' (first
      | ((with_reducible refine atBr ?_); (first | refine BrM.t rfl ?_ | refine BrM.f rfl ?_ | refine BrM.dec (fun _ => ?_) (fun _ => ?_) | refine BrM.mk (fun _ => ?_) (fun _ => ?_)) <;> conv => whnf)
      | ((with_reducible refine atAr ?_); refine Ar.i64 (by omega) (by omega) ?_; conv => whnf)
      | ((with_reducible refine (atCall 9) ?_); refine Nx.call [] [] rfl rfl rfl rfl rfl (hln) rfl fun v Q hQ => ?_; obtain ⟨rfl, rfl⟩ := hQ)
      | ((with_reducible refine (atCall 10) ?_); refine Nx.call [0] [0] rfl rfl rfl rfl rfl ((awake_ok hG)) rfl fun v Q hQ => ?_; obtain ⟨rfl, rfl⟩ := hQ)
      | ((with_reducible refine atRet ?_); refine Nx.ret [0] Tryz.func3 rfl rfl ?_; (exact ⟨rfl, rfl⟩))
      | ((with_reducible refine atOps ?_); refine go 200 ?_; conv => whnf)
      | ((with_reducible refine atPlan ?_); refine Nx.runP (n := 200) rfl (by repeat (first | exact subB.nil _ | refine subB.cons rfl ?_)) ?_; conv => whnf)
      | ((with_reducible refine atAftL ?_); refine Nx.late ?_)
      | ((fail_if_success (with_reducible refine atRet ?_)); (fail_if_success (with_reducible refine atLoop ?_)); (fail_if_success (with_reducible refine atIn ?_)); (fail_if_success (with_reducible refine atDrawn ?_)); (fail_if_success (with_reducible refine atEnd ?_)); (with_reducible refine atRun ?_); refine go 200 ?_; conv => whnf))
end Go.Proofs.YtkfnbpbhcnekiaaGreatDoor

/- ScriptReads, walked. -/
namespace Go.Proofs.YtkfnbpbhcnekiaaGreatDoor
open Go.RowKit Go.Lib
attribute [local irreducible] Nx Ar BrM
set_option maxRecDepth 20000
set_option maxHeartbeats 4000000

theorem parse_err {s : Str} {e : Int} (h : parseA s = .error e) : e ≠ 0 := by
  unfold parseA at h
  split at h
  · cases h; decide
  split at h
  · cases h; decide
  split at h
  · cases h; decide
  split at h
  · cases h; decide
  · cases h
theorem parse_len {s : Str} {o : Ln} (h : parseA s = .ok o) : o.after.length ≤ 64 ∧ o.evs.length ≤ 64 := by
  obtain ⟨k, hk, _, ws, hb⟩ := parse_back h
  have he := hb.e
  have e : o.deed.toNat = k := by omega
  have h1 : (plainA o).after = if 97 ∈ shape k then o.after else [] := by rw [← e]; rfl
  have h2 : (plainA o).evs = if 101 ∈ shape k then o.evs else [] := by rw [← e]; rfl
  rw [hb.p] at h1 h2
  constructor
  · by_cases h : (97 : UInt8) ∈ shape k
    · exact hb.a h
    · rw [if_neg h] at h1; rw [h1]; simp
  · by_cases h : (101 : UInt8) ∈ shape k
    · exact hb.v h
    · rw [if_neg h] at h2; rw [h2]; simp
theorem zero_yes (S1 S2 : SP) : FnOk Tryz.prog 20 [lnV Ln.zero none 0 none 0] [S1, S2] (fun v Q => v = .bool true ∧ Q = [S1, S2]) := by
  have := zero_ok S1 S2 Ln.zero none none 0 0 (nil_sees _ _ _) (nil_sees _ _ _) (by decide) (by decide)
  rwa [decide_eq_true rfl] at this
theorem Reads_ok {m : PH} (hG : Glo m) (s : Str) : FnOk Tryz.prog 4 [str s] [roAll m] (fun v Q => v = .bool true ∧ Q = [roAll m]) := by
  have hsz : (⟨s.toArray⟩ : ByteArray).size = s.length := by simp [ByteArray.size]
  refine FnOk.start Tryz.func4 rfl rfl rfl rfl fun F os tape output => ?_
  refine go 200 ?_
  conv => whnf
  by_cases h5 : 5000 < s.length
  · repeat' (first
      | ((with_reducible refine atBr ?_); refine BrM.yes (by omega) ?_; conv => whnf)
      | ((with_reducible refine atBr ?_); (first | refine BrM.t rfl ?_ | refine BrM.f rfl ?_ | refine BrM.dec (fun _ => ?_) (fun _ => ?_) | refine BrM.mk (fun _ => ?_) (fun _ => ?_)) <;> conv => whnf)
      | ((with_reducible refine atAr ?_); refine Ar.i64 (by omega) (by omega) ?_; conv => whnf)
      | ((with_reducible refine (atCall 10) ?_); refine Nx.call [0] [0] rfl rfl rfl rfl rfl ((awake_ok hG)) rfl fun v Q hQ => ?_; obtain ⟨rfl, rfl⟩ := hQ)
      | ((with_reducible refine atRet ?_); refine Nx.ret [0] Tryz.func4 rfl rfl ?_; (exact ⟨rfl, rfl⟩))
      | ((with_reducible refine atOps ?_); refine go 200 ?_; conv => whnf)
      | ((with_reducible refine atPlan ?_); refine Nx.runP (n := 200) rfl (by repeat (first | exact subB.nil _ | refine subB.cons rfl ?_)) ?_; conv => whnf)
      | ((with_reducible refine atAftL ?_); refine Nx.late ?_)
      | ((fail_if_success (with_reducible refine atRet ?_)); (fail_if_success (with_reducible refine atLoop ?_)); (fail_if_success (with_reducible refine atIn ?_)); (fail_if_success (with_reducible refine atDrawn ?_)); (fail_if_success (with_reducible refine atEnd ?_)); (with_reducible refine atRun ?_); refine go 200 ?_; conv => whnf))
  · have hPa := Parse_ok hG s (by omega)
    have hPr := ParseR_ok s (by omega)
    cases hp : parseA s with
    | error e =>
      have he := parse_err hp
      rw [hp] at hPa hPr
      repeat' (first
        | ((with_reducible refine atBr ?_); refine BrM.not (by omega) ?_; conv => whnf)
        | ((with_reducible refine atBr ?_); (first | refine BrM.t rfl ?_ | refine BrM.f rfl ?_ | refine BrM.dec (fun _ => ?_) (fun _ => ?_) | refine BrM.mk (fun _ => ?_) (fun _ => ?_)) <;> conv => whnf)
        | ((with_reducible refine atAr ?_); refine Ar.i64 (by omega) (by omega) ?_; conv => whnf)
        | ((with_reducible refine atOps ?_); refine go 200 ?_; conv => whnf)
        | ((with_reducible refine atPlan ?_); refine Nx.runP (n := 200) rfl (by repeat (first | exact subB.nil _ | refine subB.cons rfl ?_)) ?_; conv => whnf)
        | ((with_reducible refine atAftL ?_); refine Nx.late ?_)
        | ((fail_if_success (with_reducible refine atRet ?_)); (fail_if_success (with_reducible refine atLoop ?_)); (fail_if_success (with_reducible refine atIn ?_)); (fail_if_success (with_reducible refine atDrawn ?_)); (fail_if_success (with_reducible refine atEnd ?_)); (with_reducible refine atRun ?_); refine go 200 ?_; conv => whnf))
      refine Nx.call [0] [0,9] rfl rfl rfl rfl rfl (hPa) rfl fun v Q hQ => ?_
      obtain ⟨b, q, rfl, rfl⟩ := hQ
      repeat' (first
        | ((with_reducible refine atBr ?_); (first | refine BrM.t rfl ?_ | refine BrM.f rfl ?_ | refine BrM.dec (fun _ => ?_) (fun _ => ?_) | refine BrM.mk (fun _ => ?_) (fun _ => ?_)) <;> conv => whnf)
        | ((with_reducible refine atAr ?_); refine Ar.i64 (by omega) (by omega) ?_; conv => whnf)
        | (fail)
        | ((with_reducible refine atOps ?_); refine go 200 ?_; conv => whnf)
        | ((with_reducible refine atPlan ?_); refine Nx.runP (n := 200) rfl (by repeat (first | exact subB.nil _ | refine subB.cons rfl ?_)) ?_; conv => whnf)
        | ((with_reducible refine atAftL ?_); refine Nx.late ?_)
        | ((fail_if_success (with_reducible refine atRet ?_)); (fail_if_success (with_reducible refine atLoop ?_)); (fail_if_success (with_reducible refine atIn ?_)); (fail_if_success (with_reducible refine atDrawn ?_)); (fail_if_success (with_reducible refine atEnd ?_)); (with_reducible refine atRun ?_); refine go 200 ?_; conv => whnf))
      refine Nx.call [] [13,14] rfl rfl rfl rfl rfl (hPr) rfl fun v Q hQ => ?_
      obtain ⟨o', A', B', c', d', e', rfl, rfl, hm⟩ := hQ
      obtain ⟨rfl, rfl⟩ := hm
      have hI := Is_err b q e' e' he
      rw [decide_eq_true rfl] at hI
      refine Nx.give 3 (ownS 3 none 0 0 1 []) (own_nil _ _ _ _) ?_
      refine Nx.give 4 (ownS 72 none 0 0 2 []) (own_nil _ _ _ _) ?_
      repeat' (first
        | ((with_reducible refine atBr ?_); refine BrM.yes (by omega) ?_; conv => whnf)
        | ((with_reducible refine atBr ?_); (first | refine BrM.t rfl ?_ | refine BrM.f rfl ?_ | refine BrM.dec (fun _ => ?_) (fun _ => ?_) | refine BrM.mk (fun _ => ?_) (fun _ => ?_)) <;> conv => whnf)
        | ((with_reducible refine atAr ?_); refine Ar.i64 (by omega) (by omega) ?_; conv => whnf)
        | ((with_reducible refine (atCall 15) ?_); refine Nx.call [9] [9] rfl rfl rfl rfl rfl (hI) rfl fun v Q hQ => ?_; obtain ⟨rfl, rfl⟩ := hQ)
        | ((with_reducible refine (atCall 17) ?_); refine Nx.call [3,4,13,14] [3,4,13,14] rfl rfl rfl rfl rfl ((same_yes _ _ _ _ Ln.zero none none A' B' 0 0 c' d' (nil_sees _ _ _) (nil_sees _ _ _) (nil_sees _ _ _) (nil_sees _ _ _) (by decide) (by decide))) rfl fun v Q hQ => ?_; obtain ⟨rfl, rfl⟩ := hQ)
        | ((with_reducible refine (atCall 10) ?_); refine Nx.call [0] [0] rfl rfl rfl rfl rfl ((awake_ok hG)) rfl fun v Q hQ => ?_; obtain ⟨rfl, rfl⟩ := hQ)
        | ((with_reducible refine (atCall 20) ?_); refine Nx.call [3,4] [3,4] rfl rfl rfl rfl rfl ((zero_yes _ _)) rfl fun v Q hQ => ?_; obtain ⟨rfl, rfl⟩ := hQ)
        | ((with_reducible refine atRet ?_); refine Nx.ret [0] Tryz.func4 rfl rfl ?_; (exact ⟨rfl, rfl⟩))
        | ((with_reducible refine atOps ?_); refine go 200 ?_; conv => whnf)
        | ((with_reducible refine atPlan ?_); refine Nx.runP (n := 200) rfl (by repeat (first | exact subB.nil _ | refine subB.cons rfl ?_)) ?_; conv => whnf)
        | ((with_reducible refine atAftL ?_); refine Nx.late ?_)
        | ((fail_if_success (with_reducible refine atRet ?_)); (fail_if_success (with_reducible refine atLoop ?_)); (fail_if_success (with_reducible refine atIn ?_)); (fail_if_success (with_reducible refine atDrawn ?_)); (fail_if_success (with_reducible refine atEnd ?_)); (with_reducible refine atRun ?_); refine go 200 ?_; conv => whnf))
    | ok o =>
      obtain ⟨hwf, hpo, _⟩ := parse_fine hp
      obtain ⟨l1, l2⟩ := parse_len hp
      rw [hp] at hPa hPr
      repeat' (first
        | ((with_reducible refine atBr ?_); refine BrM.not (by omega) ?_; conv => whnf)
        | ((with_reducible refine atBr ?_); (first | refine BrM.t rfl ?_ | refine BrM.f rfl ?_ | refine BrM.dec (fun _ => ?_) (fun _ => ?_) | refine BrM.mk (fun _ => ?_) (fun _ => ?_)) <;> conv => whnf)
        | ((with_reducible refine atAr ?_); refine Ar.i64 (by omega) (by omega) ?_; conv => whnf)
        | ((with_reducible refine atOps ?_); refine go 200 ?_; conv => whnf)
        | ((with_reducible refine atPlan ?_); refine Nx.runP (n := 200) rfl (by repeat (first | exact subB.nil _ | refine subB.cons rfl ?_)) ?_; conv => whnf)
        | ((with_reducible refine atAftL ?_); refine Nx.late ?_)
        | ((fail_if_success (with_reducible refine atRet ?_)); (fail_if_success (with_reducible refine atLoop ?_)); (fail_if_success (with_reducible refine atIn ?_)); (fail_if_success (with_reducible refine atDrawn ?_)); (fail_if_success (with_reducible refine atEnd ?_)); (with_reducible refine atRun ?_); refine go 200 ?_; conv => whnf))
      refine Nx.call [0] [0,3,4] rfl rfl rfl rfl rfl (hPa) rfl fun v Q hQ => ?_
      obtain ⟨A, c, B, d, rfl, rfl⟩ := hQ
      have hP := Print_ok hG (ownS 3 A o.after.length c 1 (intsV o.after)) (ownS 72 B o.evs.length d 2 (evsV o.evs)) o hwf A B c d (ownS_sees 3 A o.after.length c 1 _) (ownS_sees 72 B o.evs.length d 2 _) (by omega) (by omega)
      rw [hpo] at hP
      repeat' (first
        | ((with_reducible refine atBr ?_); (first | refine BrM.t rfl ?_ | refine BrM.f rfl ?_ | refine BrM.dec (fun _ => ?_) (fun _ => ?_) | refine BrM.mk (fun _ => ?_) (fun _ => ?_)) <;> conv => whnf)
        | ((with_reducible refine atAr ?_); refine Ar.i64 (by omega) (by omega) ?_; conv => whnf)
        | (fail)
        | ((with_reducible refine atOps ?_); refine go 200 ?_; conv => whnf)
        | ((with_reducible refine atPlan ?_); refine Nx.runP (n := 200) rfl (by repeat (first | exact subB.nil _ | refine subB.cons rfl ?_)) ?_; conv => whnf)
        | ((with_reducible refine atAftL ?_); refine Nx.late ?_)
        | ((fail_if_success (with_reducible refine atRet ?_)); (fail_if_success (with_reducible refine atLoop ?_)); (fail_if_success (with_reducible refine atIn ?_)); (fail_if_success (with_reducible refine atDrawn ?_)); (fail_if_success (with_reducible refine atEnd ?_)); (with_reducible refine atRun ?_); refine go 200 ?_; conv => whnf))
      refine Nx.call [] [13,14] rfl rfl rfl rfl rfl (hPr) rfl fun v Q hQ => ?_
      obtain ⟨o', A', B', c', d', e', rfl, rfl, hm⟩ := hQ
      obtain ⟨rfl, rfl⟩ := hm
      repeat' (first
        | ((with_reducible refine atBr ?_); refine BrM.not (by omega) ?_; conv => whnf)
        | ((with_reducible refine atBr ?_); refine BrM.yes (rfl) ?_; conv => whnf)
        | ((with_reducible refine atBr ?_); (first | refine BrM.t rfl ?_ | refine BrM.f rfl ?_ | refine BrM.dec (fun _ => ?_) (fun _ => ?_) | refine BrM.mk (fun _ => ?_) (fun _ => ?_)) <;> conv => whnf)
        | ((with_reducible refine atAr ?_); refine Ar.i64 (by omega) (by omega) ?_; conv => whnf)
        | ((with_reducible refine (atCall 15) ?_); refine Nx.call [] [] rfl rfl rfl rfl rfl ((Is_nil 0)) rfl fun v Q hQ => ?_; obtain ⟨rfl, rfl⟩ := hQ)
        | ((with_reducible refine (atCall 17) ?_); refine Nx.call [3,4,13,14] [3,4,13,14] rfl rfl rfl rfl rfl ((same_yes _ _ _ _ o' A B A' B' c d c' d' (ownS_sees 3 A o'.after.length c 1 _) (ownS_sees 72 B o'.evs.length d 2 _) (ownS_sees 3 A' o'.after.length c' 1 _) (ownS_sees 72 B' o'.evs.length d' 2 _) (by omega) (by omega))) rfl fun v Q hQ => ?_; obtain ⟨rfl, rfl⟩ := hQ)
        | ((with_reducible refine (atCall 11) ?_); refine Nx.call [0,3,4] [0,3,4] rfl rfl rfl rfl rfl (hP) rfl fun v Q hQ => ?_; obtain ⟨rfl, rfl⟩ := hQ)
        | ((with_reducible refine (atCall 10) ?_); refine Nx.call [0] [0] rfl rfl rfl rfl rfl ((awake_ok hG)) rfl fun v Q hQ => ?_; obtain ⟨rfl, rfl⟩ := hQ)
        | ((with_reducible refine atRet ?_); refine Nx.ret [0] Tryz.func4 rfl rfl ?_; (exact ⟨by rw [decide_eq_true rfl]; rfl, rfl⟩))
        | ((with_reducible refine atOps ?_); refine go 200 ?_; conv => whnf)
        | ((with_reducible refine atPlan ?_); refine Nx.runP (n := 200) rfl (by repeat (first | exact subB.nil _ | refine subB.cons rfl ?_)) ?_; conv => whnf)
        | ((with_reducible refine atAftL ?_); refine Nx.late ?_)
        | ((fail_if_success (with_reducible refine atRet ?_)); (fail_if_success (with_reducible refine atLoop ?_)); (fail_if_success (with_reducible refine atIn ?_)); (fail_if_success (with_reducible refine atDrawn ?_)); (fail_if_success (with_reducible refine atEnd ?_)); (with_reducible refine atRun ?_); refine go 200 ?_; conv => whnf))
end Go.Proofs.YtkfnbpbhcnekiaaGreatDoor

/- ScriptNumbers, walked. -/
namespace Go.Proofs.YtkfnbpbhcnekiaaGreatDoor
open Go.RowKit Go.Lib
attribute [local irreducible] Nx Ar BrM
set_option maxRecDepth 20000
set_option maxHeartbeats 4000000

theorem numOf_noc {s : Str} {c : UInt8} (h1 : c ≠ 45) (h2 : ¬ isDig c) (h : c ∈ s) : numOf s = none := numOf_none fun v _ hv => by
  rw [← hv] at h
  exact itoa_no h1 h2 h
def ill (d : Str) : List Str := [[48] ++ d, [43] ++ d, d ++ [32], [32] ++ d, d ++ [120], d ++ [58, 48], [45, 48] ++ d, []]
theorem ill_none {d : Str} (hd : d ≠ []) : ∀ t ∈ ill d, numOf t = none := by
  have hl := List.length_pos_iff.2 hd
  intro t ht
  simp only [ill, List.mem_cons, List.not_mem_nil, or_false] at ht
  rcases ht with rfl | rfl | rfl | rfl | rfl | rfl | rfl | rfl
  · have hm : minusB ([48] ++ d) = false := by simp [minusB]
    exact num_bad2 (by rw [magn_plain hm]; simp; omega) (by rw [magn_plain hm]; rfl)
  · exact numOf_noc (c := 43) (by decide) (by unfold isDig; decide) (by simp)
  · exact numOf_noc (c := 32) (by decide) (by unfold isDig; decide) (by simp)
  · exact numOf_noc (c := 32) (by decide) (by unfold isDig; decide) (by simp)
  · exact numOf_noc (c := 120) (by decide) (by unfold isDig; decide) (by simp)
  · exact numOf_noc (c := 58) (by decide) (by unfold isDig; decide) (by simp)
  · have hm : magn ([45, 48] ++ d) = [48] ++ d := by simp [magn, minusB]
    exact num_bad2 (by rw [hm]; simp; omega) (by rw [hm]; rfl)
  · rfl
theorem ill_len {d : Str} (hd : d.length ≤ 100) : ∀ t ∈ ill d, t.length ≤ 200 := by
  intro t ht
  simp only [ill, List.mem_cons, List.not_mem_nil, or_false] at ht
  rcases ht with rfl | rfl | rfl | rfl | rfl | rfl | rfl | rfl <;> simp <;> omega
theorem tick_err {m : PH} (hG : Glo m) (t : Str) (hl : t.length ≤ 3000) (hn : numOf t = none) : FnOk Tryz.prog 16 [str ([116, 105, 99, 107, 32] ++ t)] [roAll m] (ParsePost m (.error 6)) := by
  have h := Parse_ok hG ([116, 105, 99, 107, 32] ++ t) (by simp; omega)
  have hp := parse_tick t hl
  rw [hn] at hp
  have e : tickW ++ 32 :: t = [116, 105, 99, 107, 32] ++ t := rfl
  rw [e] at hp
  rwa [hp] at h
theorem tick_ok {m : PH} (hG : Glo m) (t : Str) (n : Int) (hl : t.length ≤ 3000) (hn : numOf t = some n) : FnOk Tryz.prog 16 [str ([116, 105, 99, 107, 32] ++ t)] [roAll m] (ParsePost m (.ok ⟨15, 0, 0, 0, n, ⟨0, 0, 0⟩, [], []⟩)) := by
  have h := Parse_ok hG ([116, 105, 99, 107, 32] ++ t) (by simp; omega)
  have hp := parse_tick t hl
  rw [hn] at hp
  have e : tickW ++ 32 :: t = [116, 105, 99, 107, 32] ++ t := rfl
  rw [e] at hp
  rw [hp] at h
  exact h
theorem Numbers_ok {m : PH} (hG : Glo m) (n : Int) (hn : I64n n) (s : Str) : FnOk Tryz.prog 5 [.int .i64 n, str s] [roAll m] (fun v Q => v = .bool true ∧ Q = [roAll m]) := by
  have hsz : (⟨s.toArray⟩ : ByteArray).size = s.length := by simp [ByteArray.size]
  refine FnOk.start Tryz.func5 rfl rfl rfl rfl fun F os tape output => ?_
  refine go 200 ?_
  conv => whnf
  by_cases h5 : 30 < s.length
  · repeat' (first
      | ((with_reducible refine atBr ?_); refine BrM.yes (by omega) ?_; conv => whnf)
      | ((with_reducible refine atBr ?_); (first | refine BrM.t rfl ?_ | refine BrM.f rfl ?_ | refine BrM.dec (fun _ => ?_) (fun _ => ?_) | refine BrM.mk (fun _ => ?_) (fun _ => ?_)) <;> conv => whnf)
      | ((with_reducible refine atAr ?_); refine Ar.i64 (by omega) (by omega) ?_; conv => whnf)
      | ((with_reducible refine (atCall 10) ?_); refine Nx.call [0] [0] rfl rfl rfl rfl rfl ((awake_ok hG)) rfl fun v Q hQ => ?_; obtain ⟨rfl, rfl⟩ := hQ)
      | ((with_reducible refine atRet ?_); refine Nx.ret [0] Tryz.func5 rfl rfl ?_; (exact ⟨rfl, rfl⟩))
      | ((with_reducible refine atOps ?_); refine go 200 ?_; conv => whnf)
      | ((with_reducible refine atPlan ?_); refine Nx.runP (n := 200) rfl (by repeat (first | exact subB.nil _ | refine subB.cons rfl ?_)) ?_; conv => whnf)
      | ((with_reducible refine atAftL ?_); refine Nx.late ?_)
      | ((fail_if_success (with_reducible refine atRet ?_)); (fail_if_success (with_reducible refine atLoop ?_)); (fail_if_success (with_reducible refine atIn ?_)); (fail_if_success (with_reducible refine atDrawn ?_)); (fail_if_success (with_reducible refine atEnd ?_)); (with_reducible refine atRun ?_); refine go 200 ?_; conv => whnf))
  · have hdl := itoa_len hn
    have hdn := itoa_ne n
    have hnd := numOf_itoa hn
    obtain ⟨d, hd⟩ : ∃ d, d = itoa n := ⟨_, rfl⟩
    have hDg := Digits_ok n hn
    rw [← hd] at hdl hdn hnd hDg
    clear hd
    have h1 := ill_none hdn
    have h2 := ill_len (d := d) (by omega)
    have hPd := tick_ok hG d n (by omega) hnd
    repeat' (first
      | ((with_reducible refine atBr ?_); refine BrM.not (by omega) ?_; conv => whnf)
      | ((with_reducible refine atBr ?_); (first | refine BrM.t rfl ?_ | refine BrM.f rfl ?_ | refine BrM.dec (fun _ => ?_) (fun _ => ?_) | refine BrM.mk (fun _ => ?_) (fun _ => ?_)) <;> conv => whnf)
      | ((with_reducible refine atAr ?_); refine Ar.i64 (by omega) (by omega) ?_; conv => whnf)
      | ((with_reducible refine (atCall 21) ?_); refine Nx.call [] [] rfl rfl rfl rfl rfl (hDg) rfl fun v Q hQ => ?_; obtain ⟨rfl, rfl⟩ := hQ)
      | ((with_reducible refine atAdd ?_); refine Nx.cat rfl rfl rfl rfl ((by simp; omega)) ?_)
      | ((with_reducible refine atOps ?_); refine go 200 ?_; conv => whnf)
      | ((with_reducible refine atPlan ?_); refine Nx.runP (n := 200) rfl (by repeat (first | exact subB.nil _ | refine subB.cons rfl ?_)) ?_; conv => whnf)
      | ((with_reducible refine atAftL ?_); refine Nx.late ?_)
      | ((fail_if_success (with_reducible refine atRet ?_)); (fail_if_success (with_reducible refine atLoop ?_)); (fail_if_success (with_reducible refine atIn ?_)); (fail_if_success (with_reducible refine atDrawn ?_)); (fail_if_success (with_reducible refine atEnd ?_)); (with_reducible refine atRun ?_); refine go 200 ?_; conv => whnf))
    refine Nx.call [0] [0,3,4] rfl rfl rfl rfl rfl (hPd) rfl fun v Q hQ => ?_
    obtain ⟨A, c, B, e, rfl, rfl⟩ := hQ
    repeat' (first
      | ((with_reducible refine atBr ?_); refine BrM.not (fun h => h rfl) ?_; conv => whnf)
      | ((with_reducible refine atBr ?_); refine BrM.not (by omega) ?_; conv => whnf)
      | ((with_reducible refine atBr ?_); (first | refine BrM.t rfl ?_ | refine BrM.f rfl ?_ | refine BrM.dec (fun _ => ?_) (fun _ => ?_) | refine BrM.mk (fun _ => ?_) (fun _ => ?_)) <;> conv => whnf)
      | ((with_reducible refine atAr ?_); refine Ar.i64 (by omega) (by omega) ?_; conv => whnf)
      | ((with_reducible refine atAdd ?_); refine Nx.cat rfl rfl rfl rfl ((by simp; omega)) ?_)
      | ((with_reducible refine atOps ?_); refine go 200 ?_; conv => whnf)
      | ((with_reducible refine atPlan ?_); refine Nx.runP (n := 200) rfl (by repeat (first | exact subB.nil _ | refine subB.cons rfl ?_)) ?_; conv => whnf)
      | ((with_reducible refine atAftL ?_); refine Nx.late ?_)
      | ((fail_if_success (with_reducible refine atRet ?_)); (fail_if_success (with_reducible refine atLoop ?_)); (fail_if_success (with_reducible refine atIn ?_)); (fail_if_success (with_reducible refine atDrawn ?_)); (fail_if_success (with_reducible refine atEnd ?_)); (with_reducible refine atRun ?_); refine go 200 ?_; conv => whnf))
    refine Nx.loop (X := Nat) (fun k => k ≤ 8) (fun k => 8 - k)
      (fun k => [(1, sv s), (5, sv d), (50, .c (.locs 50 0 8 8)), (51, iv 8), (52, iv k)]) (fun _ => [(50, 9, (strs (ill d)).map .v)]) [] (fun _ => [(0, roAll m)]) 0 (Nat.zero_le _) ?_ ?_ ?_ ?_ ?_
    · repeat (first | exact subE.nil _ | refine subE.cons rfl rfl ?_ | refine subE.cons' rfl (fun _ => rfl) ?_)
    · repeat (first | exact subM.nil _ | refine subM.cons rfl rfl rfl ?_)
    · repeat (first | exact subB.nil _ | refine subB.cons rfl ?_)
    · repeat (first | exact subR.nil _ | refine subR.cons rfl rfl ?_)
    intro k hk ih
    by_cases hlt : k < 8
    · have hkl : k < (ill d).length := hlt
      have hmem : (ill d)[k] ∈ ill d := List.getElem_mem hkl
      have hrow : ((strs (ill d)).map Ce.v)[k]? = some (.v (str (ill d)[k])) := by simp [hkl]
      have hl := h2 _ hmem
      have hT := tick_err hG (ill d)[k] (by omega) (h1 _ hmem)
      generalize (ill d)[k] = t at hrow hT hl
      repeat' (first
        | ((with_reducible refine atBr ?_); refine BrM.yes (by omega) ?_; conv => whnf)
        | ((with_reducible refine atBr ?_); (first | refine BrM.t rfl ?_ | refine BrM.f rfl ?_ | refine BrM.dec (fun _ => ?_) (fun _ => ?_) | refine BrM.mk (fun _ => ?_) (fun _ => ?_)) <;> conv => whnf)
        | ((with_reducible refine atAr ?_); refine Ar.i64 (by omega) (by omega) ?_; conv => whnf)
        | ((with_reducible refine atIdx ?_); refine Nx.bind (l := 50) (fun _ => ?_) rfl; refine Nx.lidx (q := k) (sz := 1) rfl rfl rfl rfl Tryz.underlying56 rfl rfl (by omega) (by omega) (by omega) ?_)
        | ((with_reducible refine atLoad ?_); refine Nx.loadAt 50 rfl rfl rfl rfl rfl rfl (hrow) ?_)
        | ((with_reducible refine atAdd ?_); refine Nx.cat rfl rfl rfl rfl ((by simp; omega)) ?_)
        | ((with_reducible refine atOps ?_); refine go 200 ?_; conv => whnf)
        | ((with_reducible refine atPlan ?_); refine Nx.runP (n := 200) rfl (by repeat (first | exact subB.nil _ | refine subB.cons rfl ?_)) ?_; conv => whnf)
        | ((with_reducible refine atAftL ?_); refine Nx.late ?_)
        | ((fail_if_success (with_reducible refine atRet ?_)); (fail_if_success (with_reducible refine atLoop ?_)); (fail_if_success (with_reducible refine atIn ?_)); (fail_if_success (with_reducible refine atDrawn ?_)); (fail_if_success (with_reducible refine atEnd ?_)); (with_reducible refine atRun ?_); refine go 200 ?_; conv => whnf))
      refine Nx.call [0] [0,9] rfl rfl rfl rfl rfl (hT) rfl fun v Q hQ => ?_
      obtain ⟨b, q, rfl, rfl⟩ := hQ
      have hI := Is_err b q 6 6 (by decide)
      rw [decide_eq_true rfl] at hI
      repeat' (first
        | ((with_reducible refine atAr ?_); refine Ar.to (k := .i64) (((k+1:Nat):Int)) (by omega) ⟨by omega, by omega⟩ ?_; conv => whnf)
        | ((with_reducible refine atBr ?_); (first | refine BrM.t rfl ?_ | refine BrM.f rfl ?_ | refine BrM.dec (fun _ => ?_) (fun _ => ?_) | refine BrM.mk (fun _ => ?_) (fun _ => ?_)) <;> conv => whnf)
        | ((with_reducible refine atAr ?_); refine Ar.i64 (by omega) (by omega) ?_; conv => whnf)
        | ((with_reducible refine (atCall 15) ?_); refine Nx.call [9] [9] rfl rfl rfl rfl rfl (hI) rfl fun v Q hQ => ?_; obtain ⟨rfl, rfl⟩ := hQ)
        | ((with_reducible refine atIn ?_); refine Nx.weak ((ih (k + 1) hlt (by omega))) ?_ ?_ ?_ ?_ <;> (first | exact subM.nil _ | exact subB.nil _ | exact subR.nil _ | ((repeat (first | exact subE.nil _ | refine subE.cons rfl rfl ?_ | refine subE.cons' rfl (fun _ => rfl) ?_ | (refine subE.cons rfl ?_ ?_; · (simp; done)))); done) | ((repeat (first | exact subM.nil _ | refine subM.cons rfl rfl rfl ?_)); done) | ((repeat (first | exact subB.nil _ | refine subB.cons rfl ?_)); done) | ((repeat (first | exact subR.nil _ | refine subR.cons rfl rfl ?_)); done) | omega | (dsimp only; omega) | (skip) | skip))
        | ((with_reducible refine atOps ?_); refine go 200 ?_; conv => whnf)
        | ((with_reducible refine atPlan ?_); refine Nx.runP (n := 200) rfl (by repeat (first | exact subB.nil _ | refine subB.cons rfl ?_)) ?_; conv => whnf)
        | ((with_reducible refine atAftL ?_); refine Nx.late ?_)
        | ((fail_if_success (with_reducible refine atRet ?_)); (fail_if_success (with_reducible refine atLoop ?_)); (fail_if_success (with_reducible refine atIn ?_)); (fail_if_success (with_reducible refine atDrawn ?_)); (fail_if_success (with_reducible refine atEnd ?_)); (with_reducible refine atRun ?_); refine go 200 ?_; conv => whnf))
    · clear ih
      repeat' (first
        | ((with_reducible refine atBr ?_); refine BrM.not (by omega) ?_; conv => whnf)
        | ((with_reducible refine atBr ?_); (first | refine BrM.t rfl ?_ | refine BrM.f rfl ?_ | refine BrM.dec (fun _ => ?_) (fun _ => ?_) | refine BrM.mk (fun _ => ?_) (fun _ => ?_)) <;> conv => whnf)
        | ((with_reducible refine atAr ?_); refine Ar.i64 (by omega) (by omega) ?_; conv => whnf)
        | ((with_reducible refine atOps ?_); refine go 200 ?_; conv => whnf)
        | ((with_reducible refine atPlan ?_); refine Nx.runP (n := 200) rfl (by repeat (first | exact subB.nil _ | refine subB.cons rfl ?_)) ?_; conv => whnf)
        | ((with_reducible refine atAftL ?_); refine Nx.late ?_)
        | ((fail_if_success (with_reducible refine atRet ?_)); (fail_if_success (with_reducible refine atLoop ?_)); (fail_if_success (with_reducible refine atIn ?_)); (fail_if_success (with_reducible refine atDrawn ?_)); (fail_if_success (with_reducible refine atEnd ?_)); (with_reducible refine atRun ?_); refine go 200 ?_; conv => whnf))
      refine Nx.call [] [] rfl rfl rfl rfl rfl (Number_ok s (by omega)) rfl fun v Q hQ => ?_
      obtain ⟨rfl, rfl⟩ := hQ
      cases hns : numOf s with
      | none =>
        have hnv : numV s = .tuple #[.int .i64 0, .bool false] := by unfold numV; rw [hns]
        rw [hnv]
        have hT := tick_err hG s (by omega) hns
        repeat' (first
          | ((with_reducible refine atBr ?_); (first | refine BrM.t rfl ?_ | refine BrM.f rfl ?_ | refine BrM.dec (fun _ => ?_) (fun _ => ?_) | refine BrM.mk (fun _ => ?_) (fun _ => ?_)) <;> conv => whnf)
          | ((with_reducible refine atAr ?_); refine Ar.i64 (by omega) (by omega) ?_; conv => whnf)
          | ((with_reducible refine atAdd ?_); refine Nx.cat rfl rfl rfl rfl ((by simp; omega)) ?_)
          | ((with_reducible refine atOps ?_); refine go 200 ?_; conv => whnf)
          | ((with_reducible refine atPlan ?_); refine Nx.runP (n := 200) rfl (by repeat (first | exact subB.nil _ | refine subB.cons rfl ?_)) ?_; conv => whnf)
          | ((with_reducible refine atAftL ?_); refine Nx.late ?_)
          | ((fail_if_success (with_reducible refine atRet ?_)); (fail_if_success (with_reducible refine atLoop ?_)); (fail_if_success (with_reducible refine atIn ?_)); (fail_if_success (with_reducible refine atDrawn ?_)); (fail_if_success (with_reducible refine atEnd ?_)); (with_reducible refine atRun ?_); refine go 200 ?_; conv => whnf))
        refine Nx.call [0] [0,9] rfl rfl rfl rfl rfl (hT) rfl fun v Q hQ => ?_
        obtain ⟨b, q, rfl, rfl⟩ := hQ
        repeat' (first
          | ((with_reducible refine atBr ?_); refine BrM.yes (rfl) ?_; conv => whnf)
          | ((with_reducible refine atBr ?_); (first | refine BrM.t rfl ?_ | refine BrM.f rfl ?_ | refine BrM.dec (fun _ => ?_) (fun _ => ?_) | refine BrM.mk (fun _ => ?_) (fun _ => ?_)) <;> conv => whnf)
          | ((with_reducible refine atAr ?_); refine Ar.i64 (by omega) (by omega) ?_; conv => whnf)
          | ((with_reducible refine (atCall 10) ?_); refine Nx.call [0] [0] rfl rfl rfl rfl rfl ((awake_ok hG)) rfl fun v Q hQ => ?_; obtain ⟨rfl, rfl⟩ := hQ)
          | ((with_reducible refine atRet ?_); refine Nx.ret [0] Tryz.func5 rfl rfl ?_; (exact ⟨congrArg Value.bool (decide_eq_true rfl), rfl⟩))
          | ((with_reducible refine atOps ?_); refine go 200 ?_; conv => whnf)
          | ((with_reducible refine atPlan ?_); refine Nx.runP (n := 200) rfl (by repeat (first | exact subB.nil _ | refine subB.cons rfl ?_)) ?_; conv => whnf)
          | ((with_reducible refine atAftL ?_); refine Nx.late ?_)
          | ((fail_if_success (with_reducible refine atRet ?_)); (fail_if_success (with_reducible refine atLoop ?_)); (fail_if_success (with_reducible refine atIn ?_)); (fail_if_success (with_reducible refine atDrawn ?_)); (fail_if_success (with_reducible refine atEnd ?_)); (with_reducible refine atRun ?_); refine go 200 ?_; conv => whnf))
      | some v =>
        have hnv : numV s = .tuple #[.int .i64 v, .bool true] := by unfold numV; rw [hns]
        rw [hnv]
        have hT := tick_ok hG s v (by omega) hns
        repeat' (first
          | ((with_reducible refine atBr ?_); (first | refine BrM.t rfl ?_ | refine BrM.f rfl ?_ | refine BrM.dec (fun _ => ?_) (fun _ => ?_) | refine BrM.mk (fun _ => ?_) (fun _ => ?_)) <;> conv => whnf)
          | ((with_reducible refine atAr ?_); refine Ar.i64 (by omega) (by omega) ?_; conv => whnf)
          | ((with_reducible refine atAdd ?_); refine Nx.cat rfl rfl rfl rfl ((by simp; omega)) ?_)
          | ((with_reducible refine atOps ?_); refine go 200 ?_; conv => whnf)
          | ((with_reducible refine atPlan ?_); refine Nx.runP (n := 200) rfl (by repeat (first | exact subB.nil _ | refine subB.cons rfl ?_)) ?_; conv => whnf)
          | ((with_reducible refine atAftL ?_); refine Nx.late ?_)
          | ((fail_if_success (with_reducible refine atRet ?_)); (fail_if_success (with_reducible refine atLoop ?_)); (fail_if_success (with_reducible refine atIn ?_)); (fail_if_success (with_reducible refine atDrawn ?_)); (fail_if_success (with_reducible refine atEnd ?_)); (with_reducible refine atRun ?_); refine go 200 ?_; conv => whnf))
        refine Nx.call [0] [0,3,4] rfl rfl rfl rfl rfl (hT) rfl fun v Q hQ => ?_
        obtain ⟨A2, c2, B2, e2, rfl, rfl⟩ := hQ
        repeat' (first
          | ((with_reducible refine atBr ?_); refine BrM.yes (rfl) ?_; conv => whnf)
          | ((with_reducible refine atBr ?_); (first | refine BrM.t rfl ?_ | refine BrM.f rfl ?_ | refine BrM.dec (fun _ => ?_) (fun _ => ?_) | refine BrM.mk (fun _ => ?_) (fun _ => ?_)) <;> conv => whnf)
          | ((with_reducible refine atAr ?_); refine Ar.i64 (by omega) (by omega) ?_; conv => whnf)
          | ((with_reducible refine (atCall 10) ?_); refine Nx.call [0] [0] rfl rfl rfl rfl rfl ((awake_ok hG)) rfl fun v Q hQ => ?_; obtain ⟨rfl, rfl⟩ := hQ)
          | ((with_reducible refine atRet ?_); refine Nx.ret [0] Tryz.func5 rfl rfl ?_; (exact ⟨congrArg Value.bool (decide_eq_true rfl), rfl⟩))
          | ((with_reducible refine atOps ?_); refine go 200 ?_; conv => whnf)
          | ((with_reducible refine atPlan ?_); refine Nx.runP (n := 200) rfl (by repeat (first | exact subB.nil _ | refine subB.cons rfl ?_)) ?_; conv => whnf)
          | ((with_reducible refine atAftL ?_); refine Nx.late ?_)
          | ((fail_if_success (with_reducible refine atRet ?_)); (fail_if_success (with_reducible refine atLoop ?_)); (fail_if_success (with_reducible refine atIn ?_)); (fail_if_success (with_reducible refine atDrawn ?_)); (fail_if_success (with_reducible refine atEnd ?_)); (with_reducible refine atRun ?_); refine go 200 ?_; conv => whnf))
end Go.Proofs.YtkfnbpbhcnekiaaGreatDoor
