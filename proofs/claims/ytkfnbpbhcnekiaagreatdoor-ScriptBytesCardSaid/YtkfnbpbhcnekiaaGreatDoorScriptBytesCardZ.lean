/- ScriptBytes: the statement's tied card holds: for all bytes the law returns true, and they read as they did, where the listed package-level variables hold what the program's text lays. -/
import Derived.Test.YtkfnbpbhcnekiaaGreatDoorScriptBytesCarda
import Derived.Test.YtkfnbpbhcnekiaaGreatDoorCards
import Derived.Test.YtkfnbpbhcnekiaaGreatDoorTie
set_option linter.unusedSimpArgs false
set_option linter.unusedVariables false
/- The lines that bytes tell: the document's. -/
namespace Go.Proofs.YtkfnbpbhcnekiaaGreatDoor
open Go.RowKit Go.Lib
attribute [local irreducible] Nx Ar BrM Int.tmod Int.tdiv
set_option maxRecDepth 20000
set_option maxHeartbeats 4000000

theorem tm1 (a k : Nat) : ((a : Int)).tmod (k : Int) = ((a % k : Nat) : Int) := tm a k
theorem fourR_0 (c a b d : Nat) (hc : c < 256) (ha : a < 256) (hb : b < 256) (hd : d < 256) (hk : c % 32 = 0) (hK : fourK c = 0) : FnOk Tryz.prog 26 [.int .i64 c, .int .i64 a, .int .i64 b, .int .i64 d] [] (FoPost (fourA c a b d)) := by
  have hf : fourA c a b d = ⟨0, 0, ((b % 2 : Nat) : Int), ((2 ^ (a % 7) : Nat) : Int), 0, ⟨0, 0, 0⟩, [], []⟩ := by unfold fourA; rw [hK]; rfl
  rw [hf]
  have fin := fun A B c' d' => @FoPost.mk ⟨0, 0, ((b % 2 : Nat) : Int), ((2 ^ (a % 7) : Nat) : Int), 0, ⟨0, 0, 0⟩, [], []⟩ A B c' d'
  simp only at fin
  have c33 := Shape_ok 0 (by decide)
  rw [show ((0 : Nat) : Int) = ((c % 32 : Nat) : Int) by rw [hk]] at c33
  refine FnOk.start Tryz.func26 rfl rfl rfl rfl fun F os tape output => ?_
  refine Nx.give 3 (ownS 3 none 0 0 1 []) (own_nil _ _ _ _) ?_
  refine Nx.give 4 (ownS 72 none 0 0 2 []) (own_nil _ _ _ _) ?_
  refine go 200 ?_
  conv => whnf
  repeat' (first
    | ((with_reducible refine atBr ?_); refine BrM.not (by omega) ?_; conv => whnf)
    | ((with_reducible refine atBr ?_); refine BrM.yes (by omega) ?_; conv => whnf)
    | ((with_reducible refine atBr ?_); (first | refine BrM.t rfl ?_ | refine BrM.f rfl ?_ | refine BrM.dec (fun _ => ?_) (fun _ => ?_) | refine BrM.mk (fun _ => ?_) (fun _ => ?_)) <;> conv => whnf)
    | ((with_reducible refine atAr ?_); refine Ar.i64 (by omega) (by omega) ?_; conv => whnf)
    | ((with_reducible refine atRem ?_); refine Nx.divI rfl (.inl ⟨rfl, (tm c 32)⟩) rfl rfl (by decide) rfl ?_)
    | ((with_reducible refine atRem ?_); refine Nx.divI rfl (.inl ⟨rfl, (tm a 7)⟩) rfl rfl (by decide) rfl ?_)
    | ((with_reducible refine atRem ?_); refine Nx.divI rfl (.inl ⟨rfl, (tm a 8)⟩) rfl rfl (by decide) rfl ?_)
    | ((with_reducible refine atRem ?_); refine Nx.divI rfl (.inl ⟨rfl, (tm a 64)⟩) rfl rfl (by decide) rfl ?_)
    | ((with_reducible refine atRem ?_); refine Nx.divI rfl (.inl ⟨rfl, (tm b 2)⟩) rfl rfl (by decide) rfl ?_)
    | ((with_reducible refine atRem ?_); refine Nx.divI rfl (.inl ⟨rfl, (tm b 4)⟩) rfl rfl (by decide) rfl ?_)
    | ((with_reducible refine atRem ?_); refine Nx.divI rfl (.inl ⟨rfl, (tm d 8)⟩) rfl rfl (by decide) rfl ?_)
    | ((with_reducible refine atRem ?_); refine Nx.divI rfl (.inl ⟨rfl, (tm d 64)⟩) rfl rfl (by decide) rfl ?_)
    | ((with_reducible refine atQuo ?_); refine Nx.divI rfl (.inr ⟨rfl, (td b 4 (by omega))⟩) rfl rfl (by decide) rfl ?_)
    | ((with_reducible refine (atCall 33) ?_); refine Nx.call [] [] rfl rfl rfl rfl rfl (c33) rfl fun v Q hQ => ?_; obtain ⟨rfl, rfl⟩ := hQ)
    | ((with_reducible refine (atCall 34) ?_); refine Nx.call [] [] rfl rfl rfl rfl rfl (has_n (k := 0) (by decide) _ (by decide)) rfl fun v Q hQ => ?_; obtain ⟨rfl, rfl⟩ := hQ; first | rw [hd110 (k := 0) (by decide)] | rw [hd119 (k := 0) (by decide)] | rw [hd104 (k := 0) (by decide)] | rw [hd97 (k := 0) (by decide)])
    | ((with_reducible refine atOps ?_); refine go 200 ?_; conv => whnf)
    | ((with_reducible refine atPlan ?_); refine Nx.runP (n := 200) rfl (by repeat (first | exact subB.nil _ | refine subB.cons rfl ?_)) ?_; conv => whnf)
    | ((with_reducible refine atAftL ?_); refine Nx.late ?_)
    | ((fail_if_success (with_reducible refine atRet ?_)); (fail_if_success (with_reducible refine atLoop ?_)); (fail_if_success (with_reducible refine atIn ?_)); (fail_if_success (with_reducible refine atDrawn ?_)); (fail_if_success (with_reducible refine atEnd ?_)); (with_reducible refine atRun ?_); refine go 200 ?_; conv => whnf))
  refine Nx.loop (X := Nat) (fun j => j ≤ a % 7) (fun j => a % 7 - j)
    (fun j => [(1, iv a), (2, iv b), (8, .c (.loc 8 0)), (9, .c (.loc 9 0)), (11, iv j)]) (fun j => [(9, 44, (lnE 0 0 0 ((2 ^ j : Nat) : Int) 0 ⟨0, 0, 0⟩ 0 none 0 0 none 0).map .v), (8, 44, (lnC Ln.zero none 0 none 0).map .v)]) [] (fun _ => [(3, ownS 3 none 0 0 1 []), (4, ownS 72 none 0 0 2 [])]) 0 (Nat.zero_le _) ?_ ?_ ?_ ?_ ?_
  · repeat (first | exact subE.nil _ | refine subE.cons rfl rfl ?_ | refine subE.cons' rfl (fun _ => rfl) ?_)
  · exact .cons rfl (by rw [hk]; rfl) rfl (.cons rfl rfl rfl (.nil _))
  · repeat (first | exact subB.nil _ | refine subB.cons rfl ?_)
  · repeat (first | exact subR.nil _ | refine subR.cons rfl rfl ?_)
  intro j hj ih
  have b7 : a % 7 < 7 := Nat.mod_lt _ (by decide)
  by_cases hlt : j < a % 7
  · have hp := pow7 (q := j) (by omega)
    have hs : 2 ^ (j + 1) = 2 ^ j * 2 := Nat.pow_succ 2 j
    repeat' (first
      | ((with_reducible refine atBr ?_); refine BrM.yes (by omega) ?_; conv => whnf)
      | ((with_reducible refine atAr ?_); refine Ar.to (k := .i64) (((2^(j+1):Nat):Int)) (by omega) ⟨by omega, by omega⟩ ?_; conv => whnf)
      | ((with_reducible refine atAr ?_); refine Ar.to (k := .i64) (((j+1:Nat):Int)) (by omega) ⟨by omega, by omega⟩ ?_; conv => whnf)
      | ((with_reducible refine atBr ?_); (first | refine BrM.t rfl ?_ | refine BrM.f rfl ?_ | refine BrM.dec (fun _ => ?_) (fun _ => ?_) | refine BrM.mk (fun _ => ?_) (fun _ => ?_)) <;> conv => whnf)
      | ((with_reducible refine atAr ?_); refine Ar.i64 (by omega) (by omega) ?_; conv => whnf)
      | ((with_reducible refine atRem ?_); refine Nx.divI rfl (.inl ⟨rfl, (tm a 7)⟩) rfl rfl (by decide) rfl ?_)
      | ((with_reducible refine atIn ?_); refine Nx.weak ((ih (j + 1) hlt (by omega))) ?_ ?_ ?_ ?_ <;> (first | exact subM.nil _ | exact subB.nil _ | exact subR.nil _ | ((repeat (first | exact subE.nil _ | refine subE.cons rfl rfl ?_ | refine subE.cons' rfl (fun _ => rfl) ?_ | (refine subE.cons rfl ?_ ?_; · (simp; done)))); done) | ((repeat (first | exact subM.nil _ | refine subM.cons rfl rfl rfl ?_)); done) | ((repeat (first | exact subB.nil _ | refine subB.cons rfl ?_)); done) | ((repeat (first | exact subR.nil _ | refine subR.cons rfl rfl ?_)); done) | omega | (dsimp only; omega) | (skip) | skip))
      | ((with_reducible refine atOps ?_); refine go 200 ?_; conv => whnf)
      | ((with_reducible refine atPlan ?_); refine Nx.runP (n := 200) rfl (by repeat (first | exact subB.nil _ | refine subB.cons rfl ?_)) ?_; conv => whnf)
      | ((with_reducible refine atAftL ?_); refine Nx.late ?_)
      | ((fail_if_success (with_reducible refine atRet ?_)); (fail_if_success (with_reducible refine atLoop ?_)); (fail_if_success (with_reducible refine atIn ?_)); (fail_if_success (with_reducible refine atDrawn ?_)); (fail_if_success (with_reducible refine atEnd ?_)); (with_reducible refine atRun ?_); refine go 200 ?_; conv => whnf))
  · have e7 : j = a % 7 := by omega
    subst e7
    clear ih
    repeat' (first
      | ((with_reducible refine atBr ?_); refine BrM.not (by omega) ?_; conv => whnf)
      | ((with_reducible refine atBr ?_); (first | refine BrM.t rfl ?_ | refine BrM.f rfl ?_ | refine BrM.dec (fun _ => ?_) (fun _ => ?_) | refine BrM.mk (fun _ => ?_) (fun _ => ?_)) <;> conv => whnf)
      | ((with_reducible refine atAr ?_); refine Ar.i64 (by omega) (by omega) ?_; conv => whnf)
      | ((with_reducible refine atRem ?_); refine Nx.divI rfl (.inl ⟨rfl, (tm a 7)⟩) rfl rfl (by decide) rfl ?_)
      | ((with_reducible refine atRem ?_); refine Nx.divI rfl (.inl ⟨rfl, (tm b 2)⟩) rfl rfl (by decide) rfl ?_)
      | ((with_reducible refine atOps ?_); refine go 200 ?_; conv => whnf)
      | ((with_reducible refine atPlan ?_); refine Nx.runP (n := 200) rfl (by repeat (first | exact subB.nil _ | refine subB.cons rfl ?_)) ?_; conv => whnf)
      | ((with_reducible refine atAftL ?_); refine Nx.late ?_)
      | ((fail_if_success (with_reducible refine atRet ?_)); (fail_if_success (with_reducible refine atLoop ?_)); (fail_if_success (with_reducible refine atIn ?_)); (fail_if_success (with_reducible refine atDrawn ?_)); (fail_if_success (with_reducible refine atEnd ?_)); (with_reducible refine atRun ?_); refine go 200 ?_; conv => whnf))
    refine Nx.ret [3,4] Tryz.func26 rfl rfl ?_
    exact fin none none 0 0
theorem fourR_1 (c a b d : Nat) (hc : c < 256) (ha : a < 256) (hb : b < 256) (hd : d < 256) (hk : c % 32 = 1) (hK : fourK c = 1) : FnOk Tryz.prog 26 [.int .i64 c, .int .i64 a, .int .i64 b, .int .i64 d] [] (FoPost (fourA c a b d)) := by
  have hf : fourA c a b d = ⟨1, 0, ((a % 8 : Nat) : Int), 0, 0, wayN b, [], []⟩ := by unfold fourA; rw [hK]; rfl
  rw [hf]
  have fin := fun A B c' d' => @FoPost.mk ⟨1, 0, ((a % 8 : Nat) : Int), 0, 0, wayN b, [], []⟩ A B c' d'
  simp only at fin
  have c33 := Shape_ok 1 (by decide)
  rw [show ((1 : Nat) : Int) = ((c % 32 : Nat) : Int) by rw [hk]] at c33
  have hw : wayN b = ⟨((b % 4 : Nat) : Int), if b % 4 = 1 then ((b / 4 : Nat) : Int) else 0, if b % 4 = 3 then ((b / 4 : Nat) : Int) + 1 else 0⟩ := rfl
  rw [hw] at fin ⊢
  by_cases h1 : b % 4 = 1
  · rw [if_pos h1, if_neg (by omega)] at fin ⊢
    refine FnOk.start Tryz.func26 rfl rfl rfl rfl fun F os tape output => ?_
    refine Nx.give 3 (ownS 3 none 0 0 1 []) (own_nil _ _ _ _) ?_
    refine Nx.give 4 (ownS 72 none 0 0 2 []) (own_nil _ _ _ _) ?_
    refine go 200 ?_
    conv => whnf
    repeat' (first
      | ((with_reducible refine atBr ?_); refine BrM.not (by omega) ?_; conv => whnf)
      | ((with_reducible refine atBr ?_); refine BrM.yes (by omega) ?_; conv => whnf)
      | ((with_reducible refine atBr ?_); (first | refine BrM.t rfl ?_ | refine BrM.f rfl ?_ | refine BrM.dec (fun _ => ?_) (fun _ => ?_) | refine BrM.mk (fun _ => ?_) (fun _ => ?_)) <;> conv => whnf)
      | ((with_reducible refine atAr ?_); refine Ar.i64 (by omega) (by omega) ?_; conv => whnf)
      | ((with_reducible refine atRem ?_); refine Nx.divI rfl (.inl ⟨rfl, (tm c 32)⟩) rfl rfl (by decide) rfl ?_)
      | ((with_reducible refine atRem ?_); refine Nx.divI rfl (.inl ⟨rfl, (tm a 7)⟩) rfl rfl (by decide) rfl ?_)
      | ((with_reducible refine atRem ?_); refine Nx.divI rfl (.inl ⟨rfl, (tm a 8)⟩) rfl rfl (by decide) rfl ?_)
      | ((with_reducible refine atRem ?_); refine Nx.divI rfl (.inl ⟨rfl, (tm a 64)⟩) rfl rfl (by decide) rfl ?_)
      | ((with_reducible refine atRem ?_); refine Nx.divI rfl (.inl ⟨rfl, (tm b 2)⟩) rfl rfl (by decide) rfl ?_)
      | ((with_reducible refine atRem ?_); refine Nx.divI rfl (.inl ⟨rfl, (tm b 4)⟩) rfl rfl (by decide) rfl ?_)
      | ((with_reducible refine atRem ?_); refine Nx.divI rfl (.inl ⟨rfl, (tm d 8)⟩) rfl rfl (by decide) rfl ?_)
      | ((with_reducible refine atRem ?_); refine Nx.divI rfl (.inl ⟨rfl, (tm d 64)⟩) rfl rfl (by decide) rfl ?_)
      | ((with_reducible refine atQuo ?_); refine Nx.divI rfl (.inr ⟨rfl, (td b 4 (by omega))⟩) rfl rfl (by decide) rfl ?_)
      | ((with_reducible refine (atCall 33) ?_); refine Nx.call [] [] rfl rfl rfl rfl rfl (c33) rfl fun v Q hQ => ?_; obtain ⟨rfl, rfl⟩ := hQ)
      | ((with_reducible refine (atCall 34) ?_); refine Nx.call [] [] rfl rfl rfl rfl rfl (has_n (k := 1) (by decide) _ (by decide)) rfl fun v Q hQ => ?_; obtain ⟨rfl, rfl⟩ := hQ; first | rw [hd110 (k := 1) (by decide)] | rw [hd119 (k := 1) (by decide)] | rw [hd104 (k := 1) (by decide)] | rw [hd97 (k := 1) (by decide)])
      | ((with_reducible refine atOps ?_); refine go 200 ?_; conv => whnf)
      | ((with_reducible refine atPlan ?_); refine Nx.runP (n := 200) rfl (by repeat (first | exact subB.nil _ | refine subB.cons rfl ?_)) ?_; conv => whnf)
      | ((with_reducible refine atAftL ?_); refine Nx.late ?_)
      | ((fail_if_success (with_reducible refine atRet ?_)); (fail_if_success (with_reducible refine atLoop ?_)); (fail_if_success (with_reducible refine atIn ?_)); (fail_if_success (with_reducible refine atDrawn ?_)); (fail_if_success (with_reducible refine atEnd ?_)); (with_reducible refine atRun ?_); refine go 200 ?_; conv => whnf))
    refine Nx.ret [3,4] Tryz.func26 rfl rfl ?_
    rw [hk]
    exact fin none none 0 0
  by_cases h3 : b % 4 = 3
  · rw [if_neg h1, if_pos h3] at fin ⊢
    refine FnOk.start Tryz.func26 rfl rfl rfl rfl fun F os tape output => ?_
    refine Nx.give 3 (ownS 3 none 0 0 1 []) (own_nil _ _ _ _) ?_
    refine Nx.give 4 (ownS 72 none 0 0 2 []) (own_nil _ _ _ _) ?_
    refine go 200 ?_
    conv => whnf
    repeat' (first
      | ((with_reducible refine atBr ?_); refine BrM.not (by omega) ?_; conv => whnf)
      | ((with_reducible refine atBr ?_); refine BrM.yes (by omega) ?_; conv => whnf)
      | ((with_reducible refine atBr ?_); (first | refine BrM.t rfl ?_ | refine BrM.f rfl ?_ | refine BrM.dec (fun _ => ?_) (fun _ => ?_) | refine BrM.mk (fun _ => ?_) (fun _ => ?_)) <;> conv => whnf)
      | ((with_reducible refine atAr ?_); refine Ar.i64 (by omega) (by omega) ?_; conv => whnf)
      | ((with_reducible refine atRem ?_); refine Nx.divI rfl (.inl ⟨rfl, (tm c 32)⟩) rfl rfl (by decide) rfl ?_)
      | ((with_reducible refine atRem ?_); refine Nx.divI rfl (.inl ⟨rfl, (tm a 7)⟩) rfl rfl (by decide) rfl ?_)
      | ((with_reducible refine atRem ?_); refine Nx.divI rfl (.inl ⟨rfl, (tm a 8)⟩) rfl rfl (by decide) rfl ?_)
      | ((with_reducible refine atRem ?_); refine Nx.divI rfl (.inl ⟨rfl, (tm a 64)⟩) rfl rfl (by decide) rfl ?_)
      | ((with_reducible refine atRem ?_); refine Nx.divI rfl (.inl ⟨rfl, (tm b 2)⟩) rfl rfl (by decide) rfl ?_)
      | ((with_reducible refine atRem ?_); refine Nx.divI rfl (.inl ⟨rfl, (tm b 4)⟩) rfl rfl (by decide) rfl ?_)
      | ((with_reducible refine atRem ?_); refine Nx.divI rfl (.inl ⟨rfl, (tm d 8)⟩) rfl rfl (by decide) rfl ?_)
      | ((with_reducible refine atRem ?_); refine Nx.divI rfl (.inl ⟨rfl, (tm d 64)⟩) rfl rfl (by decide) rfl ?_)
      | ((with_reducible refine atQuo ?_); refine Nx.divI rfl (.inr ⟨rfl, (td b 4 (by omega))⟩) rfl rfl (by decide) rfl ?_)
      | ((with_reducible refine (atCall 33) ?_); refine Nx.call [] [] rfl rfl rfl rfl rfl (c33) rfl fun v Q hQ => ?_; obtain ⟨rfl, rfl⟩ := hQ)
      | ((with_reducible refine (atCall 34) ?_); refine Nx.call [] [] rfl rfl rfl rfl rfl (has_n (k := 1) (by decide) _ (by decide)) rfl fun v Q hQ => ?_; obtain ⟨rfl, rfl⟩ := hQ; first | rw [hd110 (k := 1) (by decide)] | rw [hd119 (k := 1) (by decide)] | rw [hd104 (k := 1) (by decide)] | rw [hd97 (k := 1) (by decide)])
      | ((with_reducible refine atOps ?_); refine go 200 ?_; conv => whnf)
      | ((with_reducible refine atPlan ?_); refine Nx.runP (n := 200) rfl (by repeat (first | exact subB.nil _ | refine subB.cons rfl ?_)) ?_; conv => whnf)
      | ((with_reducible refine atAftL ?_); refine Nx.late ?_)
      | ((fail_if_success (with_reducible refine atRet ?_)); (fail_if_success (with_reducible refine atLoop ?_)); (fail_if_success (with_reducible refine atIn ?_)); (fail_if_success (with_reducible refine atDrawn ?_)); (fail_if_success (with_reducible refine atEnd ?_)); (with_reducible refine atRun ?_); refine go 200 ?_; conv => whnf))
    refine Nx.ret [3,4] Tryz.func26 rfl rfl ?_
    rw [hk]
    exact fin none none 0 0
  · rw [if_neg h1, if_neg h3] at fin ⊢
    refine FnOk.start Tryz.func26 rfl rfl rfl rfl fun F os tape output => ?_
    refine Nx.give 3 (ownS 3 none 0 0 1 []) (own_nil _ _ _ _) ?_
    refine Nx.give 4 (ownS 72 none 0 0 2 []) (own_nil _ _ _ _) ?_
    refine go 200 ?_
    conv => whnf
    repeat' (first
      | ((with_reducible refine atBr ?_); refine BrM.not (by omega) ?_; conv => whnf)
      | ((with_reducible refine atBr ?_); refine BrM.yes (by omega) ?_; conv => whnf)
      | ((with_reducible refine atBr ?_); (first | refine BrM.t rfl ?_ | refine BrM.f rfl ?_ | refine BrM.dec (fun _ => ?_) (fun _ => ?_) | refine BrM.mk (fun _ => ?_) (fun _ => ?_)) <;> conv => whnf)
      | ((with_reducible refine atAr ?_); refine Ar.i64 (by omega) (by omega) ?_; conv => whnf)
      | ((with_reducible refine atRem ?_); refine Nx.divI rfl (.inl ⟨rfl, (tm c 32)⟩) rfl rfl (by decide) rfl ?_)
      | ((with_reducible refine atRem ?_); refine Nx.divI rfl (.inl ⟨rfl, (tm a 7)⟩) rfl rfl (by decide) rfl ?_)
      | ((with_reducible refine atRem ?_); refine Nx.divI rfl (.inl ⟨rfl, (tm a 8)⟩) rfl rfl (by decide) rfl ?_)
      | ((with_reducible refine atRem ?_); refine Nx.divI rfl (.inl ⟨rfl, (tm a 64)⟩) rfl rfl (by decide) rfl ?_)
      | ((with_reducible refine atRem ?_); refine Nx.divI rfl (.inl ⟨rfl, (tm b 2)⟩) rfl rfl (by decide) rfl ?_)
      | ((with_reducible refine atRem ?_); refine Nx.divI rfl (.inl ⟨rfl, (tm b 4)⟩) rfl rfl (by decide) rfl ?_)
      | ((with_reducible refine atRem ?_); refine Nx.divI rfl (.inl ⟨rfl, (tm d 8)⟩) rfl rfl (by decide) rfl ?_)
      | ((with_reducible refine atRem ?_); refine Nx.divI rfl (.inl ⟨rfl, (tm d 64)⟩) rfl rfl (by decide) rfl ?_)
      | ((with_reducible refine atQuo ?_); refine Nx.divI rfl (.inr ⟨rfl, (td b 4 (by omega))⟩) rfl rfl (by decide) rfl ?_)
      | ((with_reducible refine (atCall 33) ?_); refine Nx.call [] [] rfl rfl rfl rfl rfl (c33) rfl fun v Q hQ => ?_; obtain ⟨rfl, rfl⟩ := hQ)
      | ((with_reducible refine (atCall 34) ?_); refine Nx.call [] [] rfl rfl rfl rfl rfl (has_n (k := 1) (by decide) _ (by decide)) rfl fun v Q hQ => ?_; obtain ⟨rfl, rfl⟩ := hQ; first | rw [hd110 (k := 1) (by decide)] | rw [hd119 (k := 1) (by decide)] | rw [hd104 (k := 1) (by decide)] | rw [hd97 (k := 1) (by decide)])
      | ((with_reducible refine atOps ?_); refine go 200 ?_; conv => whnf)
      | ((with_reducible refine atPlan ?_); refine Nx.runP (n := 200) rfl (by repeat (first | exact subB.nil _ | refine subB.cons rfl ?_)) ?_; conv => whnf)
      | ((with_reducible refine atAftL ?_); refine Nx.late ?_)
      | ((fail_if_success (with_reducible refine atRet ?_)); (fail_if_success (with_reducible refine atLoop ?_)); (fail_if_success (with_reducible refine atIn ?_)); (fail_if_success (with_reducible refine atDrawn ?_)); (fail_if_success (with_reducible refine atEnd ?_)); (with_reducible refine atRun ?_); refine go 200 ?_; conv => whnf))
    refine Nx.ret [3,4] Tryz.func26 rfl rfl ?_
    rw [hk]
    exact fin none none 0 0
theorem fourR_2 (c a b d : Nat) (hc : c < 256) (ha : a < 256) (hb : b < 256) (hd : d < 256) (hk : c % 32 = 2) (hK : fourK c = 2) : FnOk Tryz.prog 26 [.int .i64 c, .int .i64 a, .int .i64 b, .int .i64 d] [] (FoPost (fourA c a b d)) := by
  have hf : fourA c a b d = ⟨2, 0, ((a % 8 : Nat) : Int), 1 + ((d % 8 : Nat) : Int), 0, wayN b, oneN d, []⟩ := by unfold fourA; rw [hK]; rfl
  rw [hf]
  have fin := fun A B c' d' => @FoPost.mk ⟨2, 0, ((a % 8 : Nat) : Int), 1 + ((d % 8 : Nat) : Int), 0, wayN b, oneN d, []⟩ A B c' d'
  simp only at fin
  have c33 := Shape_ok 2 (by decide)
  rw [show ((2 : Nat) : Int) = ((c % 32 : Nat) : Int) by rw [hk]] at c33
  have hw : wayN b = ⟨((b % 4 : Nat) : Int), if b % 4 = 1 then ((b / 4 : Nat) : Int) else 0, if b % 4 = 3 then ((b / 4 : Nat) : Int) + 1 else 0⟩ := rfl
  rw [hw] at fin ⊢
  by_cases h1 : b % 4 = 1
  · rw [if_pos h1, if_neg (by omega)] at fin ⊢
    by_cases h128 : d < 128
    · have e1 : oneN d = [] := by unfold oneN; rw [if_pos h128]
      rw [e1] at fin ⊢
      refine FnOk.start Tryz.func26 rfl rfl rfl rfl fun F os tape output => ?_
      refine Nx.give 3 (ownS 3 none 0 0 1 []) (own_nil _ _ _ _) ?_
      refine Nx.give 4 (ownS 72 none 0 0 2 []) (own_nil _ _ _ _) ?_
      refine go 200 ?_
      conv => whnf
      repeat' (first
        | ((with_reducible refine atBr ?_); refine BrM.not (by omega) ?_; conv => whnf)
        | ((with_reducible refine atBr ?_); refine BrM.yes (by omega) ?_; conv => whnf)
        | ((with_reducible refine atBr ?_); (first | refine BrM.t rfl ?_ | refine BrM.f rfl ?_ | refine BrM.dec (fun _ => ?_) (fun _ => ?_) | refine BrM.mk (fun _ => ?_) (fun _ => ?_)) <;> conv => whnf)
        | ((with_reducible refine atAr ?_); refine Ar.i64 (by omega) (by omega) ?_; conv => whnf)
        | ((with_reducible refine atRem ?_); refine Nx.divI rfl (.inl ⟨rfl, (tm c 32)⟩) rfl rfl (by decide) rfl ?_)
        | ((with_reducible refine atRem ?_); refine Nx.divI rfl (.inl ⟨rfl, (tm a 7)⟩) rfl rfl (by decide) rfl ?_)
        | ((with_reducible refine atRem ?_); refine Nx.divI rfl (.inl ⟨rfl, (tm a 8)⟩) rfl rfl (by decide) rfl ?_)
        | ((with_reducible refine atRem ?_); refine Nx.divI rfl (.inl ⟨rfl, (tm a 64)⟩) rfl rfl (by decide) rfl ?_)
        | ((with_reducible refine atRem ?_); refine Nx.divI rfl (.inl ⟨rfl, (tm b 2)⟩) rfl rfl (by decide) rfl ?_)
        | ((with_reducible refine atRem ?_); refine Nx.divI rfl (.inl ⟨rfl, (tm b 4)⟩) rfl rfl (by decide) rfl ?_)
        | ((with_reducible refine atRem ?_); refine Nx.divI rfl (.inl ⟨rfl, (tm d 8)⟩) rfl rfl (by decide) rfl ?_)
        | ((with_reducible refine atRem ?_); refine Nx.divI rfl (.inl ⟨rfl, (tm d 64)⟩) rfl rfl (by decide) rfl ?_)
        | ((with_reducible refine atQuo ?_); refine Nx.divI rfl (.inr ⟨rfl, (td b 4 (by omega))⟩) rfl rfl (by decide) rfl ?_)
        | ((with_reducible refine (atCall 33) ?_); refine Nx.call [] [] rfl rfl rfl rfl rfl (c33) rfl fun v Q hQ => ?_; obtain ⟨rfl, rfl⟩ := hQ)
        | ((with_reducible refine (atCall 34) ?_); refine Nx.call [] [] rfl rfl rfl rfl rfl (has_n (k := 2) (by decide) _ (by decide)) rfl fun v Q hQ => ?_; obtain ⟨rfl, rfl⟩ := hQ; first | rw [hd110 (k := 2) (by decide)] | rw [hd119 (k := 2) (by decide)] | rw [hd104 (k := 2) (by decide)] | rw [hd97 (k := 2) (by decide)])
        | ((with_reducible refine atOps ?_); refine go 200 ?_; conv => whnf)
        | ((with_reducible refine atPlan ?_); refine Nx.runP (n := 200) rfl (by repeat (first | exact subB.nil _ | refine subB.cons rfl ?_)) ?_; conv => whnf)
        | ((with_reducible refine atAftL ?_); refine Nx.late ?_)
        | ((fail_if_success (with_reducible refine atRet ?_)); (fail_if_success (with_reducible refine atLoop ?_)); (fail_if_success (with_reducible refine atIn ?_)); (fail_if_success (with_reducible refine atDrawn ?_)); (fail_if_success (with_reducible refine atEnd ?_)); (with_reducible refine atRun ?_); refine go 200 ?_; conv => whnf))
      refine Nx.ret [3,4] Tryz.func26 rfl rfl ?_
      rw [hk]
      exact fin none none 0 0
    · have e1 : oneN d = [((d % 64 : Nat) : Int)] := by unfold oneN; rw [if_neg h128]
      rw [e1] at fin ⊢
      refine FnOk.start Tryz.func26 rfl rfl rfl rfl fun F os tape output => ?_
      refine Nx.give 3 (ownS 3 none 0 0 1 []) (own_nil _ _ _ _) ?_
      refine Nx.give 4 (ownS 72 none 0 0 2 []) (own_nil _ _ _ _) ?_
      refine go 200 ?_
      conv => whnf
      repeat' (first
        | ((with_reducible refine atBr ?_); refine BrM.not (by omega) ?_; conv => whnf)
        | ((with_reducible refine atBr ?_); refine BrM.yes (by omega) ?_; conv => whnf)
        | ((with_reducible refine atBr ?_); (first | refine BrM.t rfl ?_ | refine BrM.f rfl ?_ | refine BrM.dec (fun _ => ?_) (fun _ => ?_) | refine BrM.mk (fun _ => ?_) (fun _ => ?_)) <;> conv => whnf)
        | ((with_reducible refine atAr ?_); refine Ar.i64 (by omega) (by omega) ?_; conv => whnf)
        | ((with_reducible refine atRem ?_); refine Nx.divI rfl (.inl ⟨rfl, (tm c 32)⟩) rfl rfl (by decide) rfl ?_)
        | ((with_reducible refine atRem ?_); refine Nx.divI rfl (.inl ⟨rfl, (tm a 7)⟩) rfl rfl (by decide) rfl ?_)
        | ((with_reducible refine atRem ?_); refine Nx.divI rfl (.inl ⟨rfl, (tm a 8)⟩) rfl rfl (by decide) rfl ?_)
        | ((with_reducible refine atRem ?_); refine Nx.divI rfl (.inl ⟨rfl, (tm a 64)⟩) rfl rfl (by decide) rfl ?_)
        | ((with_reducible refine atRem ?_); refine Nx.divI rfl (.inl ⟨rfl, (tm b 2)⟩) rfl rfl (by decide) rfl ?_)
        | ((with_reducible refine atRem ?_); refine Nx.divI rfl (.inl ⟨rfl, (tm b 4)⟩) rfl rfl (by decide) rfl ?_)
        | ((with_reducible refine atRem ?_); refine Nx.divI rfl (.inl ⟨rfl, (tm d 8)⟩) rfl rfl (by decide) rfl ?_)
        | ((with_reducible refine atRem ?_); refine Nx.divI rfl (.inl ⟨rfl, (tm d 64)⟩) rfl rfl (by decide) rfl ?_)
        | ((with_reducible refine atQuo ?_); refine Nx.divI rfl (.inr ⟨rfl, (td b 4 (by omega))⟩) rfl rfl (by decide) rfl ?_)
        | ((with_reducible refine (atCall 33) ?_); refine Nx.call [] [] rfl rfl rfl rfl rfl (c33) rfl fun v Q hQ => ?_; obtain ⟨rfl, rfl⟩ := hQ)
        | ((with_reducible refine (atCall 34) ?_); refine Nx.call [] [] rfl rfl rfl rfl rfl (has_n (k := 2) (by decide) _ (by decide)) rfl fun v Q hQ => ?_; obtain ⟨rfl, rfl⟩ := hQ; first | rw [hd110 (k := 2) (by decide)] | rw [hd119 (k := 2) (by decide)] | rw [hd104 (k := 2) (by decide)] | rw [hd97 (k := 2) (by decide)])
        | ((with_reducible refine atApp ?_); refine Nx.append 3 (sz := 1) (by_ := 8) (news := [.int .i64 ((d % 64 : Nat) : Int)]) rfl rfl rfl rfl rfl Tryz.underlying25 rfl rfl rfl rfl rfl (by unfold maxLen; omega) (by omega) fun A' c'' => ?_)
        | ((with_reducible refine atOps ?_); refine go 200 ?_; conv => whnf)
        | ((with_reducible refine atPlan ?_); refine Nx.runP (n := 200) rfl (by repeat (first | exact subB.nil _ | refine subB.cons rfl ?_)) ?_; conv => whnf)
        | ((with_reducible refine atAftL ?_); refine Nx.late ?_)
        | ((fail_if_success (with_reducible refine atRet ?_)); (fail_if_success (with_reducible refine atLoop ?_)); (fail_if_success (with_reducible refine atIn ?_)); (fail_if_success (with_reducible refine atDrawn ?_)); (fail_if_success (with_reducible refine atEnd ?_)); (with_reducible refine atRun ?_); refine go 200 ?_; conv => whnf))
      refine Nx.ret [3,4] Tryz.func26 rfl rfl ?_
      rw [hk]
      exact fin A' none c'' 0
  by_cases h3 : b % 4 = 3
  · rw [if_neg h1, if_pos h3] at fin ⊢
    by_cases h128 : d < 128
    · have e1 : oneN d = [] := by unfold oneN; rw [if_pos h128]
      rw [e1] at fin ⊢
      refine FnOk.start Tryz.func26 rfl rfl rfl rfl fun F os tape output => ?_
      refine Nx.give 3 (ownS 3 none 0 0 1 []) (own_nil _ _ _ _) ?_
      refine Nx.give 4 (ownS 72 none 0 0 2 []) (own_nil _ _ _ _) ?_
      refine go 200 ?_
      conv => whnf
      repeat' (first
        | ((with_reducible refine atBr ?_); refine BrM.not (by omega) ?_; conv => whnf)
        | ((with_reducible refine atBr ?_); refine BrM.yes (by omega) ?_; conv => whnf)
        | ((with_reducible refine atBr ?_); (first | refine BrM.t rfl ?_ | refine BrM.f rfl ?_ | refine BrM.dec (fun _ => ?_) (fun _ => ?_) | refine BrM.mk (fun _ => ?_) (fun _ => ?_)) <;> conv => whnf)
        | ((with_reducible refine atAr ?_); refine Ar.i64 (by omega) (by omega) ?_; conv => whnf)
        | ((with_reducible refine atRem ?_); refine Nx.divI rfl (.inl ⟨rfl, (tm c 32)⟩) rfl rfl (by decide) rfl ?_)
        | ((with_reducible refine atRem ?_); refine Nx.divI rfl (.inl ⟨rfl, (tm a 7)⟩) rfl rfl (by decide) rfl ?_)
        | ((with_reducible refine atRem ?_); refine Nx.divI rfl (.inl ⟨rfl, (tm a 8)⟩) rfl rfl (by decide) rfl ?_)
        | ((with_reducible refine atRem ?_); refine Nx.divI rfl (.inl ⟨rfl, (tm a 64)⟩) rfl rfl (by decide) rfl ?_)
        | ((with_reducible refine atRem ?_); refine Nx.divI rfl (.inl ⟨rfl, (tm b 2)⟩) rfl rfl (by decide) rfl ?_)
        | ((with_reducible refine atRem ?_); refine Nx.divI rfl (.inl ⟨rfl, (tm b 4)⟩) rfl rfl (by decide) rfl ?_)
        | ((with_reducible refine atRem ?_); refine Nx.divI rfl (.inl ⟨rfl, (tm d 8)⟩) rfl rfl (by decide) rfl ?_)
        | ((with_reducible refine atRem ?_); refine Nx.divI rfl (.inl ⟨rfl, (tm d 64)⟩) rfl rfl (by decide) rfl ?_)
        | ((with_reducible refine atQuo ?_); refine Nx.divI rfl (.inr ⟨rfl, (td b 4 (by omega))⟩) rfl rfl (by decide) rfl ?_)
        | ((with_reducible refine (atCall 33) ?_); refine Nx.call [] [] rfl rfl rfl rfl rfl (c33) rfl fun v Q hQ => ?_; obtain ⟨rfl, rfl⟩ := hQ)
        | ((with_reducible refine (atCall 34) ?_); refine Nx.call [] [] rfl rfl rfl rfl rfl (has_n (k := 2) (by decide) _ (by decide)) rfl fun v Q hQ => ?_; obtain ⟨rfl, rfl⟩ := hQ; first | rw [hd110 (k := 2) (by decide)] | rw [hd119 (k := 2) (by decide)] | rw [hd104 (k := 2) (by decide)] | rw [hd97 (k := 2) (by decide)])
        | ((with_reducible refine atOps ?_); refine go 200 ?_; conv => whnf)
        | ((with_reducible refine atPlan ?_); refine Nx.runP (n := 200) rfl (by repeat (first | exact subB.nil _ | refine subB.cons rfl ?_)) ?_; conv => whnf)
        | ((with_reducible refine atAftL ?_); refine Nx.late ?_)
        | ((fail_if_success (with_reducible refine atRet ?_)); (fail_if_success (with_reducible refine atLoop ?_)); (fail_if_success (with_reducible refine atIn ?_)); (fail_if_success (with_reducible refine atDrawn ?_)); (fail_if_success (with_reducible refine atEnd ?_)); (with_reducible refine atRun ?_); refine go 200 ?_; conv => whnf))
      refine Nx.ret [3,4] Tryz.func26 rfl rfl ?_
      rw [hk]
      exact fin none none 0 0
    · have e1 : oneN d = [((d % 64 : Nat) : Int)] := by unfold oneN; rw [if_neg h128]
      rw [e1] at fin ⊢
      refine FnOk.start Tryz.func26 rfl rfl rfl rfl fun F os tape output => ?_
      refine Nx.give 3 (ownS 3 none 0 0 1 []) (own_nil _ _ _ _) ?_
      refine Nx.give 4 (ownS 72 none 0 0 2 []) (own_nil _ _ _ _) ?_
      refine go 200 ?_
      conv => whnf
      repeat' (first
        | ((with_reducible refine atBr ?_); refine BrM.not (by omega) ?_; conv => whnf)
        | ((with_reducible refine atBr ?_); refine BrM.yes (by omega) ?_; conv => whnf)
        | ((with_reducible refine atBr ?_); (first | refine BrM.t rfl ?_ | refine BrM.f rfl ?_ | refine BrM.dec (fun _ => ?_) (fun _ => ?_) | refine BrM.mk (fun _ => ?_) (fun _ => ?_)) <;> conv => whnf)
        | ((with_reducible refine atAr ?_); refine Ar.i64 (by omega) (by omega) ?_; conv => whnf)
        | ((with_reducible refine atRem ?_); refine Nx.divI rfl (.inl ⟨rfl, (tm c 32)⟩) rfl rfl (by decide) rfl ?_)
        | ((with_reducible refine atRem ?_); refine Nx.divI rfl (.inl ⟨rfl, (tm a 7)⟩) rfl rfl (by decide) rfl ?_)
        | ((with_reducible refine atRem ?_); refine Nx.divI rfl (.inl ⟨rfl, (tm a 8)⟩) rfl rfl (by decide) rfl ?_)
        | ((with_reducible refine atRem ?_); refine Nx.divI rfl (.inl ⟨rfl, (tm a 64)⟩) rfl rfl (by decide) rfl ?_)
        | ((with_reducible refine atRem ?_); refine Nx.divI rfl (.inl ⟨rfl, (tm b 2)⟩) rfl rfl (by decide) rfl ?_)
        | ((with_reducible refine atRem ?_); refine Nx.divI rfl (.inl ⟨rfl, (tm b 4)⟩) rfl rfl (by decide) rfl ?_)
        | ((with_reducible refine atRem ?_); refine Nx.divI rfl (.inl ⟨rfl, (tm d 8)⟩) rfl rfl (by decide) rfl ?_)
        | ((with_reducible refine atRem ?_); refine Nx.divI rfl (.inl ⟨rfl, (tm d 64)⟩) rfl rfl (by decide) rfl ?_)
        | ((with_reducible refine atQuo ?_); refine Nx.divI rfl (.inr ⟨rfl, (td b 4 (by omega))⟩) rfl rfl (by decide) rfl ?_)
        | ((with_reducible refine (atCall 33) ?_); refine Nx.call [] [] rfl rfl rfl rfl rfl (c33) rfl fun v Q hQ => ?_; obtain ⟨rfl, rfl⟩ := hQ)
        | ((with_reducible refine (atCall 34) ?_); refine Nx.call [] [] rfl rfl rfl rfl rfl (has_n (k := 2) (by decide) _ (by decide)) rfl fun v Q hQ => ?_; obtain ⟨rfl, rfl⟩ := hQ; first | rw [hd110 (k := 2) (by decide)] | rw [hd119 (k := 2) (by decide)] | rw [hd104 (k := 2) (by decide)] | rw [hd97 (k := 2) (by decide)])
        | ((with_reducible refine atApp ?_); refine Nx.append 3 (sz := 1) (by_ := 8) (news := [.int .i64 ((d % 64 : Nat) : Int)]) rfl rfl rfl rfl rfl Tryz.underlying25 rfl rfl rfl rfl rfl (by unfold maxLen; omega) (by omega) fun A' c'' => ?_)
        | ((with_reducible refine atOps ?_); refine go 200 ?_; conv => whnf)
        | ((with_reducible refine atPlan ?_); refine Nx.runP (n := 200) rfl (by repeat (first | exact subB.nil _ | refine subB.cons rfl ?_)) ?_; conv => whnf)
        | ((with_reducible refine atAftL ?_); refine Nx.late ?_)
        | ((fail_if_success (with_reducible refine atRet ?_)); (fail_if_success (with_reducible refine atLoop ?_)); (fail_if_success (with_reducible refine atIn ?_)); (fail_if_success (with_reducible refine atDrawn ?_)); (fail_if_success (with_reducible refine atEnd ?_)); (with_reducible refine atRun ?_); refine go 200 ?_; conv => whnf))
      refine Nx.ret [3,4] Tryz.func26 rfl rfl ?_
      rw [hk]
      exact fin A' none c'' 0
  · rw [if_neg h1, if_neg h3] at fin ⊢
    by_cases h128 : d < 128
    · have e1 : oneN d = [] := by unfold oneN; rw [if_pos h128]
      rw [e1] at fin ⊢
      refine FnOk.start Tryz.func26 rfl rfl rfl rfl fun F os tape output => ?_
      refine Nx.give 3 (ownS 3 none 0 0 1 []) (own_nil _ _ _ _) ?_
      refine Nx.give 4 (ownS 72 none 0 0 2 []) (own_nil _ _ _ _) ?_
      refine go 200 ?_
      conv => whnf
      repeat' (first
        | ((with_reducible refine atBr ?_); refine BrM.not (by omega) ?_; conv => whnf)
        | ((with_reducible refine atBr ?_); refine BrM.yes (by omega) ?_; conv => whnf)
        | ((with_reducible refine atBr ?_); (first | refine BrM.t rfl ?_ | refine BrM.f rfl ?_ | refine BrM.dec (fun _ => ?_) (fun _ => ?_) | refine BrM.mk (fun _ => ?_) (fun _ => ?_)) <;> conv => whnf)
        | ((with_reducible refine atAr ?_); refine Ar.i64 (by omega) (by omega) ?_; conv => whnf)
        | ((with_reducible refine atRem ?_); refine Nx.divI rfl (.inl ⟨rfl, (tm c 32)⟩) rfl rfl (by decide) rfl ?_)
        | ((with_reducible refine atRem ?_); refine Nx.divI rfl (.inl ⟨rfl, (tm a 7)⟩) rfl rfl (by decide) rfl ?_)
        | ((with_reducible refine atRem ?_); refine Nx.divI rfl (.inl ⟨rfl, (tm a 8)⟩) rfl rfl (by decide) rfl ?_)
        | ((with_reducible refine atRem ?_); refine Nx.divI rfl (.inl ⟨rfl, (tm a 64)⟩) rfl rfl (by decide) rfl ?_)
        | ((with_reducible refine atRem ?_); refine Nx.divI rfl (.inl ⟨rfl, (tm b 2)⟩) rfl rfl (by decide) rfl ?_)
        | ((with_reducible refine atRem ?_); refine Nx.divI rfl (.inl ⟨rfl, (tm b 4)⟩) rfl rfl (by decide) rfl ?_)
        | ((with_reducible refine atRem ?_); refine Nx.divI rfl (.inl ⟨rfl, (tm d 8)⟩) rfl rfl (by decide) rfl ?_)
        | ((with_reducible refine atRem ?_); refine Nx.divI rfl (.inl ⟨rfl, (tm d 64)⟩) rfl rfl (by decide) rfl ?_)
        | ((with_reducible refine atQuo ?_); refine Nx.divI rfl (.inr ⟨rfl, (td b 4 (by omega))⟩) rfl rfl (by decide) rfl ?_)
        | ((with_reducible refine (atCall 33) ?_); refine Nx.call [] [] rfl rfl rfl rfl rfl (c33) rfl fun v Q hQ => ?_; obtain ⟨rfl, rfl⟩ := hQ)
        | ((with_reducible refine (atCall 34) ?_); refine Nx.call [] [] rfl rfl rfl rfl rfl (has_n (k := 2) (by decide) _ (by decide)) rfl fun v Q hQ => ?_; obtain ⟨rfl, rfl⟩ := hQ; first | rw [hd110 (k := 2) (by decide)] | rw [hd119 (k := 2) (by decide)] | rw [hd104 (k := 2) (by decide)] | rw [hd97 (k := 2) (by decide)])
        | ((with_reducible refine atOps ?_); refine go 200 ?_; conv => whnf)
        | ((with_reducible refine atPlan ?_); refine Nx.runP (n := 200) rfl (by repeat (first | exact subB.nil _ | refine subB.cons rfl ?_)) ?_; conv => whnf)
        | ((with_reducible refine atAftL ?_); refine Nx.late ?_)
        | ((fail_if_success (with_reducible refine atRet ?_)); (fail_if_success (with_reducible refine atLoop ?_)); (fail_if_success (with_reducible refine atIn ?_)); (fail_if_success (with_reducible refine atDrawn ?_)); (fail_if_success (with_reducible refine atEnd ?_)); (with_reducible refine atRun ?_); refine go 200 ?_; conv => whnf))
      refine Nx.ret [3,4] Tryz.func26 rfl rfl ?_
      rw [hk]
      exact fin none none 0 0
    · have e1 : oneN d = [((d % 64 : Nat) : Int)] := by unfold oneN; rw [if_neg h128]
      rw [e1] at fin ⊢
      refine FnOk.start Tryz.func26 rfl rfl rfl rfl fun F os tape output => ?_
      refine Nx.give 3 (ownS 3 none 0 0 1 []) (own_nil _ _ _ _) ?_
      refine Nx.give 4 (ownS 72 none 0 0 2 []) (own_nil _ _ _ _) ?_
      refine go 200 ?_
      conv => whnf
      repeat' (first
        | ((with_reducible refine atBr ?_); refine BrM.not (by omega) ?_; conv => whnf)
        | ((with_reducible refine atBr ?_); refine BrM.yes (by omega) ?_; conv => whnf)
        | ((with_reducible refine atBr ?_); (first | refine BrM.t rfl ?_ | refine BrM.f rfl ?_ | refine BrM.dec (fun _ => ?_) (fun _ => ?_) | refine BrM.mk (fun _ => ?_) (fun _ => ?_)) <;> conv => whnf)
        | ((with_reducible refine atAr ?_); refine Ar.i64 (by omega) (by omega) ?_; conv => whnf)
        | ((with_reducible refine atRem ?_); refine Nx.divI rfl (.inl ⟨rfl, (tm c 32)⟩) rfl rfl (by decide) rfl ?_)
        | ((with_reducible refine atRem ?_); refine Nx.divI rfl (.inl ⟨rfl, (tm a 7)⟩) rfl rfl (by decide) rfl ?_)
        | ((with_reducible refine atRem ?_); refine Nx.divI rfl (.inl ⟨rfl, (tm a 8)⟩) rfl rfl (by decide) rfl ?_)
        | ((with_reducible refine atRem ?_); refine Nx.divI rfl (.inl ⟨rfl, (tm a 64)⟩) rfl rfl (by decide) rfl ?_)
        | ((with_reducible refine atRem ?_); refine Nx.divI rfl (.inl ⟨rfl, (tm b 2)⟩) rfl rfl (by decide) rfl ?_)
        | ((with_reducible refine atRem ?_); refine Nx.divI rfl (.inl ⟨rfl, (tm b 4)⟩) rfl rfl (by decide) rfl ?_)
        | ((with_reducible refine atRem ?_); refine Nx.divI rfl (.inl ⟨rfl, (tm d 8)⟩) rfl rfl (by decide) rfl ?_)
        | ((with_reducible refine atRem ?_); refine Nx.divI rfl (.inl ⟨rfl, (tm d 64)⟩) rfl rfl (by decide) rfl ?_)
        | ((with_reducible refine atQuo ?_); refine Nx.divI rfl (.inr ⟨rfl, (td b 4 (by omega))⟩) rfl rfl (by decide) rfl ?_)
        | ((with_reducible refine (atCall 33) ?_); refine Nx.call [] [] rfl rfl rfl rfl rfl (c33) rfl fun v Q hQ => ?_; obtain ⟨rfl, rfl⟩ := hQ)
        | ((with_reducible refine (atCall 34) ?_); refine Nx.call [] [] rfl rfl rfl rfl rfl (has_n (k := 2) (by decide) _ (by decide)) rfl fun v Q hQ => ?_; obtain ⟨rfl, rfl⟩ := hQ; first | rw [hd110 (k := 2) (by decide)] | rw [hd119 (k := 2) (by decide)] | rw [hd104 (k := 2) (by decide)] | rw [hd97 (k := 2) (by decide)])
        | ((with_reducible refine atApp ?_); refine Nx.append 3 (sz := 1) (by_ := 8) (news := [.int .i64 ((d % 64 : Nat) : Int)]) rfl rfl rfl rfl rfl Tryz.underlying25 rfl rfl rfl rfl rfl (by unfold maxLen; omega) (by omega) fun A' c'' => ?_)
        | ((with_reducible refine atOps ?_); refine go 200 ?_; conv => whnf)
        | ((with_reducible refine atPlan ?_); refine Nx.runP (n := 200) rfl (by repeat (first | exact subB.nil _ | refine subB.cons rfl ?_)) ?_; conv => whnf)
        | ((with_reducible refine atAftL ?_); refine Nx.late ?_)
        | ((fail_if_success (with_reducible refine atRet ?_)); (fail_if_success (with_reducible refine atLoop ?_)); (fail_if_success (with_reducible refine atIn ?_)); (fail_if_success (with_reducible refine atDrawn ?_)); (fail_if_success (with_reducible refine atEnd ?_)); (with_reducible refine atRun ?_); refine go 200 ?_; conv => whnf))
      refine Nx.ret [3,4] Tryz.func26 rfl rfl ?_
      rw [hk]
      exact fin A' none c'' 0
theorem fourR_3 (c a b d : Nat) (hc : c < 256) (ha : a < 256) (hb : b < 256) (hd : d < 256) (hk : c % 32 = 3) (hK : fourK c = 3) : FnOk Tryz.prog 26 [.int .i64 c, .int .i64 a, .int .i64 b, .int .i64 d] [] (FoPost (fourA c a b d)) := by
  have hf : fourA c a b d = ⟨3, 0, ((a % 8 : Nat) : Int), 1 + ((d % 8 : Nat) : Int), 0, wayN b, oneN d, []⟩ := by unfold fourA; rw [hK]; rfl
  rw [hf]
  have fin := fun A B c' d' => @FoPost.mk ⟨3, 0, ((a % 8 : Nat) : Int), 1 + ((d % 8 : Nat) : Int), 0, wayN b, oneN d, []⟩ A B c' d'
  simp only at fin
  have c33 := Shape_ok 3 (by decide)
  rw [show ((3 : Nat) : Int) = ((c % 32 : Nat) : Int) by rw [hk]] at c33
  have hw : wayN b = ⟨((b % 4 : Nat) : Int), if b % 4 = 1 then ((b / 4 : Nat) : Int) else 0, if b % 4 = 3 then ((b / 4 : Nat) : Int) + 1 else 0⟩ := rfl
  rw [hw] at fin ⊢
  by_cases h1 : b % 4 = 1
  · rw [if_pos h1, if_neg (by omega)] at fin ⊢
    by_cases h128 : d < 128
    · have e1 : oneN d = [] := by unfold oneN; rw [if_pos h128]
      rw [e1] at fin ⊢
      refine FnOk.start Tryz.func26 rfl rfl rfl rfl fun F os tape output => ?_
      refine Nx.give 3 (ownS 3 none 0 0 1 []) (own_nil _ _ _ _) ?_
      refine Nx.give 4 (ownS 72 none 0 0 2 []) (own_nil _ _ _ _) ?_
      refine go 200 ?_
      conv => whnf
      repeat' (first
        | ((with_reducible refine atBr ?_); refine BrM.not (by omega) ?_; conv => whnf)
        | ((with_reducible refine atBr ?_); refine BrM.yes (by omega) ?_; conv => whnf)
        | ((with_reducible refine atBr ?_); (first | refine BrM.t rfl ?_ | refine BrM.f rfl ?_ | refine BrM.dec (fun _ => ?_) (fun _ => ?_) | refine BrM.mk (fun _ => ?_) (fun _ => ?_)) <;> conv => whnf)
        | ((with_reducible refine atAr ?_); refine Ar.i64 (by omega) (by omega) ?_; conv => whnf)
        | ((with_reducible refine atRem ?_); refine Nx.divI rfl (.inl ⟨rfl, (tm c 32)⟩) rfl rfl (by decide) rfl ?_)
        | ((with_reducible refine atRem ?_); refine Nx.divI rfl (.inl ⟨rfl, (tm a 7)⟩) rfl rfl (by decide) rfl ?_)
        | ((with_reducible refine atRem ?_); refine Nx.divI rfl (.inl ⟨rfl, (tm a 8)⟩) rfl rfl (by decide) rfl ?_)
        | ((with_reducible refine atRem ?_); refine Nx.divI rfl (.inl ⟨rfl, (tm a 64)⟩) rfl rfl (by decide) rfl ?_)
        | ((with_reducible refine atRem ?_); refine Nx.divI rfl (.inl ⟨rfl, (tm b 2)⟩) rfl rfl (by decide) rfl ?_)
        | ((with_reducible refine atRem ?_); refine Nx.divI rfl (.inl ⟨rfl, (tm b 4)⟩) rfl rfl (by decide) rfl ?_)
        | ((with_reducible refine atRem ?_); refine Nx.divI rfl (.inl ⟨rfl, (tm d 8)⟩) rfl rfl (by decide) rfl ?_)
        | ((with_reducible refine atRem ?_); refine Nx.divI rfl (.inl ⟨rfl, (tm d 64)⟩) rfl rfl (by decide) rfl ?_)
        | ((with_reducible refine atQuo ?_); refine Nx.divI rfl (.inr ⟨rfl, (td b 4 (by omega))⟩) rfl rfl (by decide) rfl ?_)
        | ((with_reducible refine (atCall 33) ?_); refine Nx.call [] [] rfl rfl rfl rfl rfl (c33) rfl fun v Q hQ => ?_; obtain ⟨rfl, rfl⟩ := hQ)
        | ((with_reducible refine (atCall 34) ?_); refine Nx.call [] [] rfl rfl rfl rfl rfl (has_n (k := 3) (by decide) _ (by decide)) rfl fun v Q hQ => ?_; obtain ⟨rfl, rfl⟩ := hQ; first | rw [hd110 (k := 3) (by decide)] | rw [hd119 (k := 3) (by decide)] | rw [hd104 (k := 3) (by decide)] | rw [hd97 (k := 3) (by decide)])
        | ((with_reducible refine atOps ?_); refine go 200 ?_; conv => whnf)
        | ((with_reducible refine atPlan ?_); refine Nx.runP (n := 200) rfl (by repeat (first | exact subB.nil _ | refine subB.cons rfl ?_)) ?_; conv => whnf)
        | ((with_reducible refine atAftL ?_); refine Nx.late ?_)
        | ((fail_if_success (with_reducible refine atRet ?_)); (fail_if_success (with_reducible refine atLoop ?_)); (fail_if_success (with_reducible refine atIn ?_)); (fail_if_success (with_reducible refine atDrawn ?_)); (fail_if_success (with_reducible refine atEnd ?_)); (with_reducible refine atRun ?_); refine go 200 ?_; conv => whnf))
      refine Nx.ret [3,4] Tryz.func26 rfl rfl ?_
      rw [hk]
      exact fin none none 0 0
    · have e1 : oneN d = [((d % 64 : Nat) : Int)] := by unfold oneN; rw [if_neg h128]
      rw [e1] at fin ⊢
      refine FnOk.start Tryz.func26 rfl rfl rfl rfl fun F os tape output => ?_
      refine Nx.give 3 (ownS 3 none 0 0 1 []) (own_nil _ _ _ _) ?_
      refine Nx.give 4 (ownS 72 none 0 0 2 []) (own_nil _ _ _ _) ?_
      refine go 200 ?_
      conv => whnf
      repeat' (first
        | ((with_reducible refine atBr ?_); refine BrM.not (by omega) ?_; conv => whnf)
        | ((with_reducible refine atBr ?_); refine BrM.yes (by omega) ?_; conv => whnf)
        | ((with_reducible refine atBr ?_); (first | refine BrM.t rfl ?_ | refine BrM.f rfl ?_ | refine BrM.dec (fun _ => ?_) (fun _ => ?_) | refine BrM.mk (fun _ => ?_) (fun _ => ?_)) <;> conv => whnf)
        | ((with_reducible refine atAr ?_); refine Ar.i64 (by omega) (by omega) ?_; conv => whnf)
        | ((with_reducible refine atRem ?_); refine Nx.divI rfl (.inl ⟨rfl, (tm c 32)⟩) rfl rfl (by decide) rfl ?_)
        | ((with_reducible refine atRem ?_); refine Nx.divI rfl (.inl ⟨rfl, (tm a 7)⟩) rfl rfl (by decide) rfl ?_)
        | ((with_reducible refine atRem ?_); refine Nx.divI rfl (.inl ⟨rfl, (tm a 8)⟩) rfl rfl (by decide) rfl ?_)
        | ((with_reducible refine atRem ?_); refine Nx.divI rfl (.inl ⟨rfl, (tm a 64)⟩) rfl rfl (by decide) rfl ?_)
        | ((with_reducible refine atRem ?_); refine Nx.divI rfl (.inl ⟨rfl, (tm b 2)⟩) rfl rfl (by decide) rfl ?_)
        | ((with_reducible refine atRem ?_); refine Nx.divI rfl (.inl ⟨rfl, (tm b 4)⟩) rfl rfl (by decide) rfl ?_)
        | ((with_reducible refine atRem ?_); refine Nx.divI rfl (.inl ⟨rfl, (tm d 8)⟩) rfl rfl (by decide) rfl ?_)
        | ((with_reducible refine atRem ?_); refine Nx.divI rfl (.inl ⟨rfl, (tm d 64)⟩) rfl rfl (by decide) rfl ?_)
        | ((with_reducible refine atQuo ?_); refine Nx.divI rfl (.inr ⟨rfl, (td b 4 (by omega))⟩) rfl rfl (by decide) rfl ?_)
        | ((with_reducible refine (atCall 33) ?_); refine Nx.call [] [] rfl rfl rfl rfl rfl (c33) rfl fun v Q hQ => ?_; obtain ⟨rfl, rfl⟩ := hQ)
        | ((with_reducible refine (atCall 34) ?_); refine Nx.call [] [] rfl rfl rfl rfl rfl (has_n (k := 3) (by decide) _ (by decide)) rfl fun v Q hQ => ?_; obtain ⟨rfl, rfl⟩ := hQ; first | rw [hd110 (k := 3) (by decide)] | rw [hd119 (k := 3) (by decide)] | rw [hd104 (k := 3) (by decide)] | rw [hd97 (k := 3) (by decide)])
        | ((with_reducible refine atApp ?_); refine Nx.append 3 (sz := 1) (by_ := 8) (news := [.int .i64 ((d % 64 : Nat) : Int)]) rfl rfl rfl rfl rfl Tryz.underlying25 rfl rfl rfl rfl rfl (by unfold maxLen; omega) (by omega) fun A' c'' => ?_)
        | ((with_reducible refine atOps ?_); refine go 200 ?_; conv => whnf)
        | ((with_reducible refine atPlan ?_); refine Nx.runP (n := 200) rfl (by repeat (first | exact subB.nil _ | refine subB.cons rfl ?_)) ?_; conv => whnf)
        | ((with_reducible refine atAftL ?_); refine Nx.late ?_)
        | ((fail_if_success (with_reducible refine atRet ?_)); (fail_if_success (with_reducible refine atLoop ?_)); (fail_if_success (with_reducible refine atIn ?_)); (fail_if_success (with_reducible refine atDrawn ?_)); (fail_if_success (with_reducible refine atEnd ?_)); (with_reducible refine atRun ?_); refine go 200 ?_; conv => whnf))
      refine Nx.ret [3,4] Tryz.func26 rfl rfl ?_
      rw [hk]
      exact fin A' none c'' 0
  by_cases h3 : b % 4 = 3
  · rw [if_neg h1, if_pos h3] at fin ⊢
    by_cases h128 : d < 128
    · have e1 : oneN d = [] := by unfold oneN; rw [if_pos h128]
      rw [e1] at fin ⊢
      refine FnOk.start Tryz.func26 rfl rfl rfl rfl fun F os tape output => ?_
      refine Nx.give 3 (ownS 3 none 0 0 1 []) (own_nil _ _ _ _) ?_
      refine Nx.give 4 (ownS 72 none 0 0 2 []) (own_nil _ _ _ _) ?_
      refine go 200 ?_
      conv => whnf
      repeat' (first
        | ((with_reducible refine atBr ?_); refine BrM.not (by omega) ?_; conv => whnf)
        | ((with_reducible refine atBr ?_); refine BrM.yes (by omega) ?_; conv => whnf)
        | ((with_reducible refine atBr ?_); (first | refine BrM.t rfl ?_ | refine BrM.f rfl ?_ | refine BrM.dec (fun _ => ?_) (fun _ => ?_) | refine BrM.mk (fun _ => ?_) (fun _ => ?_)) <;> conv => whnf)
        | ((with_reducible refine atAr ?_); refine Ar.i64 (by omega) (by omega) ?_; conv => whnf)
        | ((with_reducible refine atRem ?_); refine Nx.divI rfl (.inl ⟨rfl, (tm c 32)⟩) rfl rfl (by decide) rfl ?_)
        | ((with_reducible refine atRem ?_); refine Nx.divI rfl (.inl ⟨rfl, (tm a 7)⟩) rfl rfl (by decide) rfl ?_)
        | ((with_reducible refine atRem ?_); refine Nx.divI rfl (.inl ⟨rfl, (tm a 8)⟩) rfl rfl (by decide) rfl ?_)
        | ((with_reducible refine atRem ?_); refine Nx.divI rfl (.inl ⟨rfl, (tm a 64)⟩) rfl rfl (by decide) rfl ?_)
        | ((with_reducible refine atRem ?_); refine Nx.divI rfl (.inl ⟨rfl, (tm b 2)⟩) rfl rfl (by decide) rfl ?_)
        | ((with_reducible refine atRem ?_); refine Nx.divI rfl (.inl ⟨rfl, (tm b 4)⟩) rfl rfl (by decide) rfl ?_)
        | ((with_reducible refine atRem ?_); refine Nx.divI rfl (.inl ⟨rfl, (tm d 8)⟩) rfl rfl (by decide) rfl ?_)
        | ((with_reducible refine atRem ?_); refine Nx.divI rfl (.inl ⟨rfl, (tm d 64)⟩) rfl rfl (by decide) rfl ?_)
        | ((with_reducible refine atQuo ?_); refine Nx.divI rfl (.inr ⟨rfl, (td b 4 (by omega))⟩) rfl rfl (by decide) rfl ?_)
        | ((with_reducible refine (atCall 33) ?_); refine Nx.call [] [] rfl rfl rfl rfl rfl (c33) rfl fun v Q hQ => ?_; obtain ⟨rfl, rfl⟩ := hQ)
        | ((with_reducible refine (atCall 34) ?_); refine Nx.call [] [] rfl rfl rfl rfl rfl (has_n (k := 3) (by decide) _ (by decide)) rfl fun v Q hQ => ?_; obtain ⟨rfl, rfl⟩ := hQ; first | rw [hd110 (k := 3) (by decide)] | rw [hd119 (k := 3) (by decide)] | rw [hd104 (k := 3) (by decide)] | rw [hd97 (k := 3) (by decide)])
        | ((with_reducible refine atOps ?_); refine go 200 ?_; conv => whnf)
        | ((with_reducible refine atPlan ?_); refine Nx.runP (n := 200) rfl (by repeat (first | exact subB.nil _ | refine subB.cons rfl ?_)) ?_; conv => whnf)
        | ((with_reducible refine atAftL ?_); refine Nx.late ?_)
        | ((fail_if_success (with_reducible refine atRet ?_)); (fail_if_success (with_reducible refine atLoop ?_)); (fail_if_success (with_reducible refine atIn ?_)); (fail_if_success (with_reducible refine atDrawn ?_)); (fail_if_success (with_reducible refine atEnd ?_)); (with_reducible refine atRun ?_); refine go 200 ?_; conv => whnf))
      refine Nx.ret [3,4] Tryz.func26 rfl rfl ?_
      rw [hk]
      exact fin none none 0 0
    · have e1 : oneN d = [((d % 64 : Nat) : Int)] := by unfold oneN; rw [if_neg h128]
      rw [e1] at fin ⊢
      refine FnOk.start Tryz.func26 rfl rfl rfl rfl fun F os tape output => ?_
      refine Nx.give 3 (ownS 3 none 0 0 1 []) (own_nil _ _ _ _) ?_
      refine Nx.give 4 (ownS 72 none 0 0 2 []) (own_nil _ _ _ _) ?_
      refine go 200 ?_
      conv => whnf
      repeat' (first
        | ((with_reducible refine atBr ?_); refine BrM.not (by omega) ?_; conv => whnf)
        | ((with_reducible refine atBr ?_); refine BrM.yes (by omega) ?_; conv => whnf)
        | ((with_reducible refine atBr ?_); (first | refine BrM.t rfl ?_ | refine BrM.f rfl ?_ | refine BrM.dec (fun _ => ?_) (fun _ => ?_) | refine BrM.mk (fun _ => ?_) (fun _ => ?_)) <;> conv => whnf)
        | ((with_reducible refine atAr ?_); refine Ar.i64 (by omega) (by omega) ?_; conv => whnf)
        | ((with_reducible refine atRem ?_); refine Nx.divI rfl (.inl ⟨rfl, (tm c 32)⟩) rfl rfl (by decide) rfl ?_)
        | ((with_reducible refine atRem ?_); refine Nx.divI rfl (.inl ⟨rfl, (tm a 7)⟩) rfl rfl (by decide) rfl ?_)
        | ((with_reducible refine atRem ?_); refine Nx.divI rfl (.inl ⟨rfl, (tm a 8)⟩) rfl rfl (by decide) rfl ?_)
        | ((with_reducible refine atRem ?_); refine Nx.divI rfl (.inl ⟨rfl, (tm a 64)⟩) rfl rfl (by decide) rfl ?_)
        | ((with_reducible refine atRem ?_); refine Nx.divI rfl (.inl ⟨rfl, (tm b 2)⟩) rfl rfl (by decide) rfl ?_)
        | ((with_reducible refine atRem ?_); refine Nx.divI rfl (.inl ⟨rfl, (tm b 4)⟩) rfl rfl (by decide) rfl ?_)
        | ((with_reducible refine atRem ?_); refine Nx.divI rfl (.inl ⟨rfl, (tm d 8)⟩) rfl rfl (by decide) rfl ?_)
        | ((with_reducible refine atRem ?_); refine Nx.divI rfl (.inl ⟨rfl, (tm d 64)⟩) rfl rfl (by decide) rfl ?_)
        | ((with_reducible refine atQuo ?_); refine Nx.divI rfl (.inr ⟨rfl, (td b 4 (by omega))⟩) rfl rfl (by decide) rfl ?_)
        | ((with_reducible refine (atCall 33) ?_); refine Nx.call [] [] rfl rfl rfl rfl rfl (c33) rfl fun v Q hQ => ?_; obtain ⟨rfl, rfl⟩ := hQ)
        | ((with_reducible refine (atCall 34) ?_); refine Nx.call [] [] rfl rfl rfl rfl rfl (has_n (k := 3) (by decide) _ (by decide)) rfl fun v Q hQ => ?_; obtain ⟨rfl, rfl⟩ := hQ; first | rw [hd110 (k := 3) (by decide)] | rw [hd119 (k := 3) (by decide)] | rw [hd104 (k := 3) (by decide)] | rw [hd97 (k := 3) (by decide)])
        | ((with_reducible refine atApp ?_); refine Nx.append 3 (sz := 1) (by_ := 8) (news := [.int .i64 ((d % 64 : Nat) : Int)]) rfl rfl rfl rfl rfl Tryz.underlying25 rfl rfl rfl rfl rfl (by unfold maxLen; omega) (by omega) fun A' c'' => ?_)
        | ((with_reducible refine atOps ?_); refine go 200 ?_; conv => whnf)
        | ((with_reducible refine atPlan ?_); refine Nx.runP (n := 200) rfl (by repeat (first | exact subB.nil _ | refine subB.cons rfl ?_)) ?_; conv => whnf)
        | ((with_reducible refine atAftL ?_); refine Nx.late ?_)
        | ((fail_if_success (with_reducible refine atRet ?_)); (fail_if_success (with_reducible refine atLoop ?_)); (fail_if_success (with_reducible refine atIn ?_)); (fail_if_success (with_reducible refine atDrawn ?_)); (fail_if_success (with_reducible refine atEnd ?_)); (with_reducible refine atRun ?_); refine go 200 ?_; conv => whnf))
      refine Nx.ret [3,4] Tryz.func26 rfl rfl ?_
      rw [hk]
      exact fin A' none c'' 0
  · rw [if_neg h1, if_neg h3] at fin ⊢
    by_cases h128 : d < 128
    · have e1 : oneN d = [] := by unfold oneN; rw [if_pos h128]
      rw [e1] at fin ⊢
      refine FnOk.start Tryz.func26 rfl rfl rfl rfl fun F os tape output => ?_
      refine Nx.give 3 (ownS 3 none 0 0 1 []) (own_nil _ _ _ _) ?_
      refine Nx.give 4 (ownS 72 none 0 0 2 []) (own_nil _ _ _ _) ?_
      refine go 200 ?_
      conv => whnf
      repeat' (first
        | ((with_reducible refine atBr ?_); refine BrM.not (by omega) ?_; conv => whnf)
        | ((with_reducible refine atBr ?_); refine BrM.yes (by omega) ?_; conv => whnf)
        | ((with_reducible refine atBr ?_); (first | refine BrM.t rfl ?_ | refine BrM.f rfl ?_ | refine BrM.dec (fun _ => ?_) (fun _ => ?_) | refine BrM.mk (fun _ => ?_) (fun _ => ?_)) <;> conv => whnf)
        | ((with_reducible refine atAr ?_); refine Ar.i64 (by omega) (by omega) ?_; conv => whnf)
        | ((with_reducible refine atRem ?_); refine Nx.divI rfl (.inl ⟨rfl, (tm c 32)⟩) rfl rfl (by decide) rfl ?_)
        | ((with_reducible refine atRem ?_); refine Nx.divI rfl (.inl ⟨rfl, (tm a 7)⟩) rfl rfl (by decide) rfl ?_)
        | ((with_reducible refine atRem ?_); refine Nx.divI rfl (.inl ⟨rfl, (tm a 8)⟩) rfl rfl (by decide) rfl ?_)
        | ((with_reducible refine atRem ?_); refine Nx.divI rfl (.inl ⟨rfl, (tm a 64)⟩) rfl rfl (by decide) rfl ?_)
        | ((with_reducible refine atRem ?_); refine Nx.divI rfl (.inl ⟨rfl, (tm b 2)⟩) rfl rfl (by decide) rfl ?_)
        | ((with_reducible refine atRem ?_); refine Nx.divI rfl (.inl ⟨rfl, (tm b 4)⟩) rfl rfl (by decide) rfl ?_)
        | ((with_reducible refine atRem ?_); refine Nx.divI rfl (.inl ⟨rfl, (tm d 8)⟩) rfl rfl (by decide) rfl ?_)
        | ((with_reducible refine atRem ?_); refine Nx.divI rfl (.inl ⟨rfl, (tm d 64)⟩) rfl rfl (by decide) rfl ?_)
        | ((with_reducible refine atQuo ?_); refine Nx.divI rfl (.inr ⟨rfl, (td b 4 (by omega))⟩) rfl rfl (by decide) rfl ?_)
        | ((with_reducible refine (atCall 33) ?_); refine Nx.call [] [] rfl rfl rfl rfl rfl (c33) rfl fun v Q hQ => ?_; obtain ⟨rfl, rfl⟩ := hQ)
        | ((with_reducible refine (atCall 34) ?_); refine Nx.call [] [] rfl rfl rfl rfl rfl (has_n (k := 3) (by decide) _ (by decide)) rfl fun v Q hQ => ?_; obtain ⟨rfl, rfl⟩ := hQ; first | rw [hd110 (k := 3) (by decide)] | rw [hd119 (k := 3) (by decide)] | rw [hd104 (k := 3) (by decide)] | rw [hd97 (k := 3) (by decide)])
        | ((with_reducible refine atOps ?_); refine go 200 ?_; conv => whnf)
        | ((with_reducible refine atPlan ?_); refine Nx.runP (n := 200) rfl (by repeat (first | exact subB.nil _ | refine subB.cons rfl ?_)) ?_; conv => whnf)
        | ((with_reducible refine atAftL ?_); refine Nx.late ?_)
        | ((fail_if_success (with_reducible refine atRet ?_)); (fail_if_success (with_reducible refine atLoop ?_)); (fail_if_success (with_reducible refine atIn ?_)); (fail_if_success (with_reducible refine atDrawn ?_)); (fail_if_success (with_reducible refine atEnd ?_)); (with_reducible refine atRun ?_); refine go 200 ?_; conv => whnf))
      refine Nx.ret [3,4] Tryz.func26 rfl rfl ?_
      rw [hk]
      exact fin none none 0 0
    · have e1 : oneN d = [((d % 64 : Nat) : Int)] := by unfold oneN; rw [if_neg h128]
      rw [e1] at fin ⊢
      refine FnOk.start Tryz.func26 rfl rfl rfl rfl fun F os tape output => ?_
      refine Nx.give 3 (ownS 3 none 0 0 1 []) (own_nil _ _ _ _) ?_
      refine Nx.give 4 (ownS 72 none 0 0 2 []) (own_nil _ _ _ _) ?_
      refine go 200 ?_
      conv => whnf
      repeat' (first
        | ((with_reducible refine atBr ?_); refine BrM.not (by omega) ?_; conv => whnf)
        | ((with_reducible refine atBr ?_); refine BrM.yes (by omega) ?_; conv => whnf)
        | ((with_reducible refine atBr ?_); (first | refine BrM.t rfl ?_ | refine BrM.f rfl ?_ | refine BrM.dec (fun _ => ?_) (fun _ => ?_) | refine BrM.mk (fun _ => ?_) (fun _ => ?_)) <;> conv => whnf)
        | ((with_reducible refine atAr ?_); refine Ar.i64 (by omega) (by omega) ?_; conv => whnf)
        | ((with_reducible refine atRem ?_); refine Nx.divI rfl (.inl ⟨rfl, (tm c 32)⟩) rfl rfl (by decide) rfl ?_)
        | ((with_reducible refine atRem ?_); refine Nx.divI rfl (.inl ⟨rfl, (tm a 7)⟩) rfl rfl (by decide) rfl ?_)
        | ((with_reducible refine atRem ?_); refine Nx.divI rfl (.inl ⟨rfl, (tm a 8)⟩) rfl rfl (by decide) rfl ?_)
        | ((with_reducible refine atRem ?_); refine Nx.divI rfl (.inl ⟨rfl, (tm a 64)⟩) rfl rfl (by decide) rfl ?_)
        | ((with_reducible refine atRem ?_); refine Nx.divI rfl (.inl ⟨rfl, (tm b 2)⟩) rfl rfl (by decide) rfl ?_)
        | ((with_reducible refine atRem ?_); refine Nx.divI rfl (.inl ⟨rfl, (tm b 4)⟩) rfl rfl (by decide) rfl ?_)
        | ((with_reducible refine atRem ?_); refine Nx.divI rfl (.inl ⟨rfl, (tm d 8)⟩) rfl rfl (by decide) rfl ?_)
        | ((with_reducible refine atRem ?_); refine Nx.divI rfl (.inl ⟨rfl, (tm d 64)⟩) rfl rfl (by decide) rfl ?_)
        | ((with_reducible refine atQuo ?_); refine Nx.divI rfl (.inr ⟨rfl, (td b 4 (by omega))⟩) rfl rfl (by decide) rfl ?_)
        | ((with_reducible refine (atCall 33) ?_); refine Nx.call [] [] rfl rfl rfl rfl rfl (c33) rfl fun v Q hQ => ?_; obtain ⟨rfl, rfl⟩ := hQ)
        | ((with_reducible refine (atCall 34) ?_); refine Nx.call [] [] rfl rfl rfl rfl rfl (has_n (k := 3) (by decide) _ (by decide)) rfl fun v Q hQ => ?_; obtain ⟨rfl, rfl⟩ := hQ; first | rw [hd110 (k := 3) (by decide)] | rw [hd119 (k := 3) (by decide)] | rw [hd104 (k := 3) (by decide)] | rw [hd97 (k := 3) (by decide)])
        | ((with_reducible refine atApp ?_); refine Nx.append 3 (sz := 1) (by_ := 8) (news := [.int .i64 ((d % 64 : Nat) : Int)]) rfl rfl rfl rfl rfl Tryz.underlying25 rfl rfl rfl rfl rfl (by unfold maxLen; omega) (by omega) fun A' c'' => ?_)
        | ((with_reducible refine atOps ?_); refine go 200 ?_; conv => whnf)
        | ((with_reducible refine atPlan ?_); refine Nx.runP (n := 200) rfl (by repeat (first | exact subB.nil _ | refine subB.cons rfl ?_)) ?_; conv => whnf)
        | ((with_reducible refine atAftL ?_); refine Nx.late ?_)
        | ((fail_if_success (with_reducible refine atRet ?_)); (fail_if_success (with_reducible refine atLoop ?_)); (fail_if_success (with_reducible refine atIn ?_)); (fail_if_success (with_reducible refine atDrawn ?_)); (fail_if_success (with_reducible refine atEnd ?_)); (with_reducible refine atRun ?_); refine go 200 ?_; conv => whnf))
      refine Nx.ret [3,4] Tryz.func26 rfl rfl ?_
      rw [hk]
      exact fin A' none c'' 0
theorem fourR_4 (c a b d : Nat) (hc : c < 256) (ha : a < 256) (hb : b < 256) (hd : d < 256) (hk : c % 32 = 4) (hK : fourK c = 4) : FnOk Tryz.prog 26 [.int .i64 c, .int .i64 a, .int .i64 b, .int .i64 d] [] (FoPost (fourA c a b d)) := by
  have hf : fourA c a b d = ⟨4, 0, ((a % 8 : Nat) : Int), 0, 0, wayN b, oneN d, []⟩ := by unfold fourA; rw [hK]; rfl
  rw [hf]
  have fin := fun A B c' d' => @FoPost.mk ⟨4, 0, ((a % 8 : Nat) : Int), 0, 0, wayN b, oneN d, []⟩ A B c' d'
  simp only at fin
  have c33 := Shape_ok 4 (by decide)
  rw [show ((4 : Nat) : Int) = ((c % 32 : Nat) : Int) by rw [hk]] at c33
  have hw : wayN b = ⟨((b % 4 : Nat) : Int), if b % 4 = 1 then ((b / 4 : Nat) : Int) else 0, if b % 4 = 3 then ((b / 4 : Nat) : Int) + 1 else 0⟩ := rfl
  rw [hw] at fin ⊢
  by_cases h1 : b % 4 = 1
  · rw [if_pos h1, if_neg (by omega)] at fin ⊢
    by_cases h128 : d < 128
    · have e1 : oneN d = [] := by unfold oneN; rw [if_pos h128]
      rw [e1] at fin ⊢
      refine FnOk.start Tryz.func26 rfl rfl rfl rfl fun F os tape output => ?_
      refine Nx.give 3 (ownS 3 none 0 0 1 []) (own_nil _ _ _ _) ?_
      refine Nx.give 4 (ownS 72 none 0 0 2 []) (own_nil _ _ _ _) ?_
      refine go 200 ?_
      conv => whnf
      repeat' (first
        | ((with_reducible refine atBr ?_); refine BrM.not (by omega) ?_; conv => whnf)
        | ((with_reducible refine atBr ?_); refine BrM.yes (by omega) ?_; conv => whnf)
        | ((with_reducible refine atBr ?_); (first | refine BrM.t rfl ?_ | refine BrM.f rfl ?_ | refine BrM.dec (fun _ => ?_) (fun _ => ?_) | refine BrM.mk (fun _ => ?_) (fun _ => ?_)) <;> conv => whnf)
        | ((with_reducible refine atAr ?_); refine Ar.i64 (by omega) (by omega) ?_; conv => whnf)
        | ((with_reducible refine atRem ?_); refine Nx.divI rfl (.inl ⟨rfl, (tm c 32)⟩) rfl rfl (by decide) rfl ?_)
        | ((with_reducible refine atRem ?_); refine Nx.divI rfl (.inl ⟨rfl, (tm a 7)⟩) rfl rfl (by decide) rfl ?_)
        | ((with_reducible refine atRem ?_); refine Nx.divI rfl (.inl ⟨rfl, (tm a 8)⟩) rfl rfl (by decide) rfl ?_)
        | ((with_reducible refine atRem ?_); refine Nx.divI rfl (.inl ⟨rfl, (tm a 64)⟩) rfl rfl (by decide) rfl ?_)
        | ((with_reducible refine atRem ?_); refine Nx.divI rfl (.inl ⟨rfl, (tm b 2)⟩) rfl rfl (by decide) rfl ?_)
        | ((with_reducible refine atRem ?_); refine Nx.divI rfl (.inl ⟨rfl, (tm b 4)⟩) rfl rfl (by decide) rfl ?_)
        | ((with_reducible refine atRem ?_); refine Nx.divI rfl (.inl ⟨rfl, (tm d 8)⟩) rfl rfl (by decide) rfl ?_)
        | ((with_reducible refine atRem ?_); refine Nx.divI rfl (.inl ⟨rfl, (tm d 64)⟩) rfl rfl (by decide) rfl ?_)
        | ((with_reducible refine atQuo ?_); refine Nx.divI rfl (.inr ⟨rfl, (td b 4 (by omega))⟩) rfl rfl (by decide) rfl ?_)
        | ((with_reducible refine (atCall 33) ?_); refine Nx.call [] [] rfl rfl rfl rfl rfl (c33) rfl fun v Q hQ => ?_; obtain ⟨rfl, rfl⟩ := hQ)
        | ((with_reducible refine (atCall 34) ?_); refine Nx.call [] [] rfl rfl rfl rfl rfl (has_n (k := 4) (by decide) _ (by decide)) rfl fun v Q hQ => ?_; obtain ⟨rfl, rfl⟩ := hQ; first | rw [hd110 (k := 4) (by decide)] | rw [hd119 (k := 4) (by decide)] | rw [hd104 (k := 4) (by decide)] | rw [hd97 (k := 4) (by decide)])
        | ((with_reducible refine atOps ?_); refine go 200 ?_; conv => whnf)
        | ((with_reducible refine atPlan ?_); refine Nx.runP (n := 200) rfl (by repeat (first | exact subB.nil _ | refine subB.cons rfl ?_)) ?_; conv => whnf)
        | ((with_reducible refine atAftL ?_); refine Nx.late ?_)
        | ((fail_if_success (with_reducible refine atRet ?_)); (fail_if_success (with_reducible refine atLoop ?_)); (fail_if_success (with_reducible refine atIn ?_)); (fail_if_success (with_reducible refine atDrawn ?_)); (fail_if_success (with_reducible refine atEnd ?_)); (with_reducible refine atRun ?_); refine go 200 ?_; conv => whnf))
      refine Nx.ret [3,4] Tryz.func26 rfl rfl ?_
      rw [hk]
      exact fin none none 0 0
    · have e1 : oneN d = [((d % 64 : Nat) : Int)] := by unfold oneN; rw [if_neg h128]
      rw [e1] at fin ⊢
      refine FnOk.start Tryz.func26 rfl rfl rfl rfl fun F os tape output => ?_
      refine Nx.give 3 (ownS 3 none 0 0 1 []) (own_nil _ _ _ _) ?_
      refine Nx.give 4 (ownS 72 none 0 0 2 []) (own_nil _ _ _ _) ?_
      refine go 200 ?_
      conv => whnf
      repeat' (first
        | ((with_reducible refine atBr ?_); refine BrM.not (by omega) ?_; conv => whnf)
        | ((with_reducible refine atBr ?_); refine BrM.yes (by omega) ?_; conv => whnf)
        | ((with_reducible refine atBr ?_); (first | refine BrM.t rfl ?_ | refine BrM.f rfl ?_ | refine BrM.dec (fun _ => ?_) (fun _ => ?_) | refine BrM.mk (fun _ => ?_) (fun _ => ?_)) <;> conv => whnf)
        | ((with_reducible refine atAr ?_); refine Ar.i64 (by omega) (by omega) ?_; conv => whnf)
        | ((with_reducible refine atRem ?_); refine Nx.divI rfl (.inl ⟨rfl, (tm c 32)⟩) rfl rfl (by decide) rfl ?_)
        | ((with_reducible refine atRem ?_); refine Nx.divI rfl (.inl ⟨rfl, (tm a 7)⟩) rfl rfl (by decide) rfl ?_)
        | ((with_reducible refine atRem ?_); refine Nx.divI rfl (.inl ⟨rfl, (tm a 8)⟩) rfl rfl (by decide) rfl ?_)
        | ((with_reducible refine atRem ?_); refine Nx.divI rfl (.inl ⟨rfl, (tm a 64)⟩) rfl rfl (by decide) rfl ?_)
        | ((with_reducible refine atRem ?_); refine Nx.divI rfl (.inl ⟨rfl, (tm b 2)⟩) rfl rfl (by decide) rfl ?_)
        | ((with_reducible refine atRem ?_); refine Nx.divI rfl (.inl ⟨rfl, (tm b 4)⟩) rfl rfl (by decide) rfl ?_)
        | ((with_reducible refine atRem ?_); refine Nx.divI rfl (.inl ⟨rfl, (tm d 8)⟩) rfl rfl (by decide) rfl ?_)
        | ((with_reducible refine atRem ?_); refine Nx.divI rfl (.inl ⟨rfl, (tm d 64)⟩) rfl rfl (by decide) rfl ?_)
        | ((with_reducible refine atQuo ?_); refine Nx.divI rfl (.inr ⟨rfl, (td b 4 (by omega))⟩) rfl rfl (by decide) rfl ?_)
        | ((with_reducible refine (atCall 33) ?_); refine Nx.call [] [] rfl rfl rfl rfl rfl (c33) rfl fun v Q hQ => ?_; obtain ⟨rfl, rfl⟩ := hQ)
        | ((with_reducible refine (atCall 34) ?_); refine Nx.call [] [] rfl rfl rfl rfl rfl (has_n (k := 4) (by decide) _ (by decide)) rfl fun v Q hQ => ?_; obtain ⟨rfl, rfl⟩ := hQ; first | rw [hd110 (k := 4) (by decide)] | rw [hd119 (k := 4) (by decide)] | rw [hd104 (k := 4) (by decide)] | rw [hd97 (k := 4) (by decide)])
        | ((with_reducible refine atApp ?_); refine Nx.append 3 (sz := 1) (by_ := 8) (news := [.int .i64 ((d % 64 : Nat) : Int)]) rfl rfl rfl rfl rfl Tryz.underlying25 rfl rfl rfl rfl rfl (by unfold maxLen; omega) (by omega) fun A' c'' => ?_)
        | ((with_reducible refine atOps ?_); refine go 200 ?_; conv => whnf)
        | ((with_reducible refine atPlan ?_); refine Nx.runP (n := 200) rfl (by repeat (first | exact subB.nil _ | refine subB.cons rfl ?_)) ?_; conv => whnf)
        | ((with_reducible refine atAftL ?_); refine Nx.late ?_)
        | ((fail_if_success (with_reducible refine atRet ?_)); (fail_if_success (with_reducible refine atLoop ?_)); (fail_if_success (with_reducible refine atIn ?_)); (fail_if_success (with_reducible refine atDrawn ?_)); (fail_if_success (with_reducible refine atEnd ?_)); (with_reducible refine atRun ?_); refine go 200 ?_; conv => whnf))
      refine Nx.ret [3,4] Tryz.func26 rfl rfl ?_
      rw [hk]
      exact fin A' none c'' 0
  by_cases h3 : b % 4 = 3
  · rw [if_neg h1, if_pos h3] at fin ⊢
    by_cases h128 : d < 128
    · have e1 : oneN d = [] := by unfold oneN; rw [if_pos h128]
      rw [e1] at fin ⊢
      refine FnOk.start Tryz.func26 rfl rfl rfl rfl fun F os tape output => ?_
      refine Nx.give 3 (ownS 3 none 0 0 1 []) (own_nil _ _ _ _) ?_
      refine Nx.give 4 (ownS 72 none 0 0 2 []) (own_nil _ _ _ _) ?_
      refine go 200 ?_
      conv => whnf
      repeat' (first
        | ((with_reducible refine atBr ?_); refine BrM.not (by omega) ?_; conv => whnf)
        | ((with_reducible refine atBr ?_); refine BrM.yes (by omega) ?_; conv => whnf)
        | ((with_reducible refine atBr ?_); (first | refine BrM.t rfl ?_ | refine BrM.f rfl ?_ | refine BrM.dec (fun _ => ?_) (fun _ => ?_) | refine BrM.mk (fun _ => ?_) (fun _ => ?_)) <;> conv => whnf)
        | ((with_reducible refine atAr ?_); refine Ar.i64 (by omega) (by omega) ?_; conv => whnf)
        | ((with_reducible refine atRem ?_); refine Nx.divI rfl (.inl ⟨rfl, (tm c 32)⟩) rfl rfl (by decide) rfl ?_)
        | ((with_reducible refine atRem ?_); refine Nx.divI rfl (.inl ⟨rfl, (tm a 7)⟩) rfl rfl (by decide) rfl ?_)
        | ((with_reducible refine atRem ?_); refine Nx.divI rfl (.inl ⟨rfl, (tm a 8)⟩) rfl rfl (by decide) rfl ?_)
        | ((with_reducible refine atRem ?_); refine Nx.divI rfl (.inl ⟨rfl, (tm a 64)⟩) rfl rfl (by decide) rfl ?_)
        | ((with_reducible refine atRem ?_); refine Nx.divI rfl (.inl ⟨rfl, (tm b 2)⟩) rfl rfl (by decide) rfl ?_)
        | ((with_reducible refine atRem ?_); refine Nx.divI rfl (.inl ⟨rfl, (tm b 4)⟩) rfl rfl (by decide) rfl ?_)
        | ((with_reducible refine atRem ?_); refine Nx.divI rfl (.inl ⟨rfl, (tm d 8)⟩) rfl rfl (by decide) rfl ?_)
        | ((with_reducible refine atRem ?_); refine Nx.divI rfl (.inl ⟨rfl, (tm d 64)⟩) rfl rfl (by decide) rfl ?_)
        | ((with_reducible refine atQuo ?_); refine Nx.divI rfl (.inr ⟨rfl, (td b 4 (by omega))⟩) rfl rfl (by decide) rfl ?_)
        | ((with_reducible refine (atCall 33) ?_); refine Nx.call [] [] rfl rfl rfl rfl rfl (c33) rfl fun v Q hQ => ?_; obtain ⟨rfl, rfl⟩ := hQ)
        | ((with_reducible refine (atCall 34) ?_); refine Nx.call [] [] rfl rfl rfl rfl rfl (has_n (k := 4) (by decide) _ (by decide)) rfl fun v Q hQ => ?_; obtain ⟨rfl, rfl⟩ := hQ; first | rw [hd110 (k := 4) (by decide)] | rw [hd119 (k := 4) (by decide)] | rw [hd104 (k := 4) (by decide)] | rw [hd97 (k := 4) (by decide)])
        | ((with_reducible refine atOps ?_); refine go 200 ?_; conv => whnf)
        | ((with_reducible refine atPlan ?_); refine Nx.runP (n := 200) rfl (by repeat (first | exact subB.nil _ | refine subB.cons rfl ?_)) ?_; conv => whnf)
        | ((with_reducible refine atAftL ?_); refine Nx.late ?_)
        | ((fail_if_success (with_reducible refine atRet ?_)); (fail_if_success (with_reducible refine atLoop ?_)); (fail_if_success (with_reducible refine atIn ?_)); (fail_if_success (with_reducible refine atDrawn ?_)); (fail_if_success (with_reducible refine atEnd ?_)); (with_reducible refine atRun ?_); refine go 200 ?_; conv => whnf))
      refine Nx.ret [3,4] Tryz.func26 rfl rfl ?_
      rw [hk]
      exact fin none none 0 0
    · have e1 : oneN d = [((d % 64 : Nat) : Int)] := by unfold oneN; rw [if_neg h128]
      rw [e1] at fin ⊢
      refine FnOk.start Tryz.func26 rfl rfl rfl rfl fun F os tape output => ?_
      refine Nx.give 3 (ownS 3 none 0 0 1 []) (own_nil _ _ _ _) ?_
      refine Nx.give 4 (ownS 72 none 0 0 2 []) (own_nil _ _ _ _) ?_
      refine go 200 ?_
      conv => whnf
      repeat' (first
        | ((with_reducible refine atBr ?_); refine BrM.not (by omega) ?_; conv => whnf)
        | ((with_reducible refine atBr ?_); refine BrM.yes (by omega) ?_; conv => whnf)
        | ((with_reducible refine atBr ?_); (first | refine BrM.t rfl ?_ | refine BrM.f rfl ?_ | refine BrM.dec (fun _ => ?_) (fun _ => ?_) | refine BrM.mk (fun _ => ?_) (fun _ => ?_)) <;> conv => whnf)
        | ((with_reducible refine atAr ?_); refine Ar.i64 (by omega) (by omega) ?_; conv => whnf)
        | ((with_reducible refine atRem ?_); refine Nx.divI rfl (.inl ⟨rfl, (tm c 32)⟩) rfl rfl (by decide) rfl ?_)
        | ((with_reducible refine atRem ?_); refine Nx.divI rfl (.inl ⟨rfl, (tm a 7)⟩) rfl rfl (by decide) rfl ?_)
        | ((with_reducible refine atRem ?_); refine Nx.divI rfl (.inl ⟨rfl, (tm a 8)⟩) rfl rfl (by decide) rfl ?_)
        | ((with_reducible refine atRem ?_); refine Nx.divI rfl (.inl ⟨rfl, (tm a 64)⟩) rfl rfl (by decide) rfl ?_)
        | ((with_reducible refine atRem ?_); refine Nx.divI rfl (.inl ⟨rfl, (tm b 2)⟩) rfl rfl (by decide) rfl ?_)
        | ((with_reducible refine atRem ?_); refine Nx.divI rfl (.inl ⟨rfl, (tm b 4)⟩) rfl rfl (by decide) rfl ?_)
        | ((with_reducible refine atRem ?_); refine Nx.divI rfl (.inl ⟨rfl, (tm d 8)⟩) rfl rfl (by decide) rfl ?_)
        | ((with_reducible refine atRem ?_); refine Nx.divI rfl (.inl ⟨rfl, (tm d 64)⟩) rfl rfl (by decide) rfl ?_)
        | ((with_reducible refine atQuo ?_); refine Nx.divI rfl (.inr ⟨rfl, (td b 4 (by omega))⟩) rfl rfl (by decide) rfl ?_)
        | ((with_reducible refine (atCall 33) ?_); refine Nx.call [] [] rfl rfl rfl rfl rfl (c33) rfl fun v Q hQ => ?_; obtain ⟨rfl, rfl⟩ := hQ)
        | ((with_reducible refine (atCall 34) ?_); refine Nx.call [] [] rfl rfl rfl rfl rfl (has_n (k := 4) (by decide) _ (by decide)) rfl fun v Q hQ => ?_; obtain ⟨rfl, rfl⟩ := hQ; first | rw [hd110 (k := 4) (by decide)] | rw [hd119 (k := 4) (by decide)] | rw [hd104 (k := 4) (by decide)] | rw [hd97 (k := 4) (by decide)])
        | ((with_reducible refine atApp ?_); refine Nx.append 3 (sz := 1) (by_ := 8) (news := [.int .i64 ((d % 64 : Nat) : Int)]) rfl rfl rfl rfl rfl Tryz.underlying25 rfl rfl rfl rfl rfl (by unfold maxLen; omega) (by omega) fun A' c'' => ?_)
        | ((with_reducible refine atOps ?_); refine go 200 ?_; conv => whnf)
        | ((with_reducible refine atPlan ?_); refine Nx.runP (n := 200) rfl (by repeat (first | exact subB.nil _ | refine subB.cons rfl ?_)) ?_; conv => whnf)
        | ((with_reducible refine atAftL ?_); refine Nx.late ?_)
        | ((fail_if_success (with_reducible refine atRet ?_)); (fail_if_success (with_reducible refine atLoop ?_)); (fail_if_success (with_reducible refine atIn ?_)); (fail_if_success (with_reducible refine atDrawn ?_)); (fail_if_success (with_reducible refine atEnd ?_)); (with_reducible refine atRun ?_); refine go 200 ?_; conv => whnf))
      refine Nx.ret [3,4] Tryz.func26 rfl rfl ?_
      rw [hk]
      exact fin A' none c'' 0
  · rw [if_neg h1, if_neg h3] at fin ⊢
    by_cases h128 : d < 128
    · have e1 : oneN d = [] := by unfold oneN; rw [if_pos h128]
      rw [e1] at fin ⊢
      refine FnOk.start Tryz.func26 rfl rfl rfl rfl fun F os tape output => ?_
      refine Nx.give 3 (ownS 3 none 0 0 1 []) (own_nil _ _ _ _) ?_
      refine Nx.give 4 (ownS 72 none 0 0 2 []) (own_nil _ _ _ _) ?_
      refine go 200 ?_
      conv => whnf
      repeat' (first
        | ((with_reducible refine atBr ?_); refine BrM.not (by omega) ?_; conv => whnf)
        | ((with_reducible refine atBr ?_); refine BrM.yes (by omega) ?_; conv => whnf)
        | ((with_reducible refine atBr ?_); (first | refine BrM.t rfl ?_ | refine BrM.f rfl ?_ | refine BrM.dec (fun _ => ?_) (fun _ => ?_) | refine BrM.mk (fun _ => ?_) (fun _ => ?_)) <;> conv => whnf)
        | ((with_reducible refine atAr ?_); refine Ar.i64 (by omega) (by omega) ?_; conv => whnf)
        | ((with_reducible refine atRem ?_); refine Nx.divI rfl (.inl ⟨rfl, (tm c 32)⟩) rfl rfl (by decide) rfl ?_)
        | ((with_reducible refine atRem ?_); refine Nx.divI rfl (.inl ⟨rfl, (tm a 7)⟩) rfl rfl (by decide) rfl ?_)
        | ((with_reducible refine atRem ?_); refine Nx.divI rfl (.inl ⟨rfl, (tm a 8)⟩) rfl rfl (by decide) rfl ?_)
        | ((with_reducible refine atRem ?_); refine Nx.divI rfl (.inl ⟨rfl, (tm a 64)⟩) rfl rfl (by decide) rfl ?_)
        | ((with_reducible refine atRem ?_); refine Nx.divI rfl (.inl ⟨rfl, (tm b 2)⟩) rfl rfl (by decide) rfl ?_)
        | ((with_reducible refine atRem ?_); refine Nx.divI rfl (.inl ⟨rfl, (tm b 4)⟩) rfl rfl (by decide) rfl ?_)
        | ((with_reducible refine atRem ?_); refine Nx.divI rfl (.inl ⟨rfl, (tm d 8)⟩) rfl rfl (by decide) rfl ?_)
        | ((with_reducible refine atRem ?_); refine Nx.divI rfl (.inl ⟨rfl, (tm d 64)⟩) rfl rfl (by decide) rfl ?_)
        | ((with_reducible refine atQuo ?_); refine Nx.divI rfl (.inr ⟨rfl, (td b 4 (by omega))⟩) rfl rfl (by decide) rfl ?_)
        | ((with_reducible refine (atCall 33) ?_); refine Nx.call [] [] rfl rfl rfl rfl rfl (c33) rfl fun v Q hQ => ?_; obtain ⟨rfl, rfl⟩ := hQ)
        | ((with_reducible refine (atCall 34) ?_); refine Nx.call [] [] rfl rfl rfl rfl rfl (has_n (k := 4) (by decide) _ (by decide)) rfl fun v Q hQ => ?_; obtain ⟨rfl, rfl⟩ := hQ; first | rw [hd110 (k := 4) (by decide)] | rw [hd119 (k := 4) (by decide)] | rw [hd104 (k := 4) (by decide)] | rw [hd97 (k := 4) (by decide)])
        | ((with_reducible refine atOps ?_); refine go 200 ?_; conv => whnf)
        | ((with_reducible refine atPlan ?_); refine Nx.runP (n := 200) rfl (by repeat (first | exact subB.nil _ | refine subB.cons rfl ?_)) ?_; conv => whnf)
        | ((with_reducible refine atAftL ?_); refine Nx.late ?_)
        | ((fail_if_success (with_reducible refine atRet ?_)); (fail_if_success (with_reducible refine atLoop ?_)); (fail_if_success (with_reducible refine atIn ?_)); (fail_if_success (with_reducible refine atDrawn ?_)); (fail_if_success (with_reducible refine atEnd ?_)); (with_reducible refine atRun ?_); refine go 200 ?_; conv => whnf))
      refine Nx.ret [3,4] Tryz.func26 rfl rfl ?_
      rw [hk]
      exact fin none none 0 0
    · have e1 : oneN d = [((d % 64 : Nat) : Int)] := by unfold oneN; rw [if_neg h128]
      rw [e1] at fin ⊢
      refine FnOk.start Tryz.func26 rfl rfl rfl rfl fun F os tape output => ?_
      refine Nx.give 3 (ownS 3 none 0 0 1 []) (own_nil _ _ _ _) ?_
      refine Nx.give 4 (ownS 72 none 0 0 2 []) (own_nil _ _ _ _) ?_
      refine go 200 ?_
      conv => whnf
      repeat' (first
        | ((with_reducible refine atBr ?_); refine BrM.not (by omega) ?_; conv => whnf)
        | ((with_reducible refine atBr ?_); refine BrM.yes (by omega) ?_; conv => whnf)
        | ((with_reducible refine atBr ?_); (first | refine BrM.t rfl ?_ | refine BrM.f rfl ?_ | refine BrM.dec (fun _ => ?_) (fun _ => ?_) | refine BrM.mk (fun _ => ?_) (fun _ => ?_)) <;> conv => whnf)
        | ((with_reducible refine atAr ?_); refine Ar.i64 (by omega) (by omega) ?_; conv => whnf)
        | ((with_reducible refine atRem ?_); refine Nx.divI rfl (.inl ⟨rfl, (tm c 32)⟩) rfl rfl (by decide) rfl ?_)
        | ((with_reducible refine atRem ?_); refine Nx.divI rfl (.inl ⟨rfl, (tm a 7)⟩) rfl rfl (by decide) rfl ?_)
        | ((with_reducible refine atRem ?_); refine Nx.divI rfl (.inl ⟨rfl, (tm a 8)⟩) rfl rfl (by decide) rfl ?_)
        | ((with_reducible refine atRem ?_); refine Nx.divI rfl (.inl ⟨rfl, (tm a 64)⟩) rfl rfl (by decide) rfl ?_)
        | ((with_reducible refine atRem ?_); refine Nx.divI rfl (.inl ⟨rfl, (tm b 2)⟩) rfl rfl (by decide) rfl ?_)
        | ((with_reducible refine atRem ?_); refine Nx.divI rfl (.inl ⟨rfl, (tm b 4)⟩) rfl rfl (by decide) rfl ?_)
        | ((with_reducible refine atRem ?_); refine Nx.divI rfl (.inl ⟨rfl, (tm d 8)⟩) rfl rfl (by decide) rfl ?_)
        | ((with_reducible refine atRem ?_); refine Nx.divI rfl (.inl ⟨rfl, (tm d 64)⟩) rfl rfl (by decide) rfl ?_)
        | ((with_reducible refine atQuo ?_); refine Nx.divI rfl (.inr ⟨rfl, (td b 4 (by omega))⟩) rfl rfl (by decide) rfl ?_)
        | ((with_reducible refine (atCall 33) ?_); refine Nx.call [] [] rfl rfl rfl rfl rfl (c33) rfl fun v Q hQ => ?_; obtain ⟨rfl, rfl⟩ := hQ)
        | ((with_reducible refine (atCall 34) ?_); refine Nx.call [] [] rfl rfl rfl rfl rfl (has_n (k := 4) (by decide) _ (by decide)) rfl fun v Q hQ => ?_; obtain ⟨rfl, rfl⟩ := hQ; first | rw [hd110 (k := 4) (by decide)] | rw [hd119 (k := 4) (by decide)] | rw [hd104 (k := 4) (by decide)] | rw [hd97 (k := 4) (by decide)])
        | ((with_reducible refine atApp ?_); refine Nx.append 3 (sz := 1) (by_ := 8) (news := [.int .i64 ((d % 64 : Nat) : Int)]) rfl rfl rfl rfl rfl Tryz.underlying25 rfl rfl rfl rfl rfl (by unfold maxLen; omega) (by omega) fun A' c'' => ?_)
        | ((with_reducible refine atOps ?_); refine go 200 ?_; conv => whnf)
        | ((with_reducible refine atPlan ?_); refine Nx.runP (n := 200) rfl (by repeat (first | exact subB.nil _ | refine subB.cons rfl ?_)) ?_; conv => whnf)
        | ((with_reducible refine atAftL ?_); refine Nx.late ?_)
        | ((fail_if_success (with_reducible refine atRet ?_)); (fail_if_success (with_reducible refine atLoop ?_)); (fail_if_success (with_reducible refine atIn ?_)); (fail_if_success (with_reducible refine atDrawn ?_)); (fail_if_success (with_reducible refine atEnd ?_)); (with_reducible refine atRun ?_); refine go 200 ?_; conv => whnf))
      refine Nx.ret [3,4] Tryz.func26 rfl rfl ?_
      rw [hk]
      exact fin A' none c'' 0
theorem fourR_5 (c a b d : Nat) (hc : c < 256) (ha : a < 256) (hb : b < 256) (hd : d < 256) (hk : c % 32 = 5) (hK : fourK c = 5) : FnOk Tryz.prog 26 [.int .i64 c, .int .i64 a, .int .i64 b, .int .i64 d] [] (FoPost (fourA c a b d)) := by
  have hf : fourA c a b d = ⟨5, 0, 0, 0, 0, ⟨0, 0, 0⟩, bitsTo a 8, []⟩ := by unfold fourA; rw [hK]; rfl
  rw [hf]
  have fin := fun A B c' d' => @FoPost.mk ⟨5, 0, 0, 0, 0, ⟨0, 0, 0⟩, bitsTo a 8, []⟩ A B c' d'
  simp only at fin
  have c33 := Shape_ok 5 (by decide)
  rw [show ((5 : Nat) : Int) = ((c % 32 : Nat) : Int) by rw [hk]] at c33
  refine FnOk.start Tryz.func26 rfl rfl rfl rfl fun F os tape output => ?_
  refine Nx.give 3 (ownS 3 none 0 0 1 []) (own_nil _ _ _ _) ?_
  refine Nx.give 4 (ownS 72 none 0 0 2 []) (own_nil _ _ _ _) ?_
  refine go 200 ?_
  conv => whnf
  repeat' (first
    | ((with_reducible refine atBr ?_); refine BrM.not (by omega) ?_; conv => whnf)
    | ((with_reducible refine atBr ?_); refine BrM.yes (by omega) ?_; conv => whnf)
    | ((with_reducible refine atBr ?_); (first | refine BrM.t rfl ?_ | refine BrM.f rfl ?_ | refine BrM.dec (fun _ => ?_) (fun _ => ?_) | refine BrM.mk (fun _ => ?_) (fun _ => ?_)) <;> conv => whnf)
    | ((with_reducible refine atAr ?_); refine Ar.i64 (by omega) (by omega) ?_; conv => whnf)
    | ((with_reducible refine atRem ?_); refine Nx.divI rfl (.inl ⟨rfl, (tm c 32)⟩) rfl rfl (by decide) rfl ?_)
    | ((with_reducible refine atRem ?_); refine Nx.divI rfl (.inl ⟨rfl, (tm a 7)⟩) rfl rfl (by decide) rfl ?_)
    | ((with_reducible refine atRem ?_); refine Nx.divI rfl (.inl ⟨rfl, (tm a 8)⟩) rfl rfl (by decide) rfl ?_)
    | ((with_reducible refine atRem ?_); refine Nx.divI rfl (.inl ⟨rfl, (tm a 64)⟩) rfl rfl (by decide) rfl ?_)
    | ((with_reducible refine atRem ?_); refine Nx.divI rfl (.inl ⟨rfl, (tm b 2)⟩) rfl rfl (by decide) rfl ?_)
    | ((with_reducible refine atRem ?_); refine Nx.divI rfl (.inl ⟨rfl, (tm b 4)⟩) rfl rfl (by decide) rfl ?_)
    | ((with_reducible refine atRem ?_); refine Nx.divI rfl (.inl ⟨rfl, (tm d 8)⟩) rfl rfl (by decide) rfl ?_)
    | ((with_reducible refine atRem ?_); refine Nx.divI rfl (.inl ⟨rfl, (tm d 64)⟩) rfl rfl (by decide) rfl ?_)
    | ((with_reducible refine atQuo ?_); refine Nx.divI rfl (.inr ⟨rfl, (td b 4 (by omega))⟩) rfl rfl (by decide) rfl ?_)
    | ((with_reducible refine (atCall 33) ?_); refine Nx.call [] [] rfl rfl rfl rfl rfl (c33) rfl fun v Q hQ => ?_; obtain ⟨rfl, rfl⟩ := hQ)
    | ((with_reducible refine (atCall 34) ?_); refine Nx.call [] [] rfl rfl rfl rfl rfl (has_n (k := 5) (by decide) _ (by decide)) rfl fun v Q hQ => ?_; obtain ⟨rfl, rfl⟩ := hQ; first | rw [hd110 (k := 5) (by decide)] | rw [hd119 (k := 5) (by decide)] | rw [hd104 (k := 5) (by decide)] | rw [hd97 (k := 5) (by decide)])
    | ((with_reducible refine atOps ?_); refine go 200 ?_; conv => whnf)
    | ((with_reducible refine atPlan ?_); refine Nx.runP (n := 200) rfl (by repeat (first | exact subB.nil _ | refine subB.cons rfl ?_)) ?_; conv => whnf)
    | ((with_reducible refine atAftL ?_); refine Nx.late ?_)
    | ((fail_if_success (with_reducible refine atRet ?_)); (fail_if_success (with_reducible refine atLoop ?_)); (fail_if_success (with_reducible refine atIn ?_)); (fail_if_success (with_reducible refine atDrawn ?_)); (fail_if_success (with_reducible refine atEnd ?_)); (with_reducible refine atRun ?_); refine go 200 ?_; conv => whnf))
  refine Nx.loop (X := BtX) (fun x => x.j ≤ 8) (fun x => 8 - x.j)
    (fun x => [(1, iv a), (8, .c (.loc 8 0)), (9, .c (.loc 9 0)), (12, iv ((2 ^ x.j : Nat) : Int)), (13, iv x.j)]) (fun x => [(9, 44, (lnE 5 0 0 0 0 ⟨0, 0, 0⟩ (bitsTo a x.j).length x.A x.c 0 none 0).map .v), (8, 44, (lnC Ln.zero none 0 none 0).map .v)]) [] (fun x => [(3, ownS 3 x.A (bitsTo a x.j).length x.c 1 (intsV (bitsTo a x.j))), (4, ownS 72 none 0 0 2 [])]) ⟨0, none, 0⟩ (Nat.zero_le _) ?_ ?_ ?_ ?_ ?_
  · repeat (first | exact subE.nil _ | refine subE.cons rfl rfl ?_ | refine subE.cons' rfl (fun _ => rfl) ?_)
  · exact .cons rfl (by rw [hk]; rfl) rfl (.cons rfl rfl rfl (.nil _))
  · repeat (first | exact subB.nil _ | refine subB.cons rfl ?_)
  · repeat (first | exact subR.nil _ | refine subR.cons rfl rfl ?_)
  intro x hj ih
  obtain ⟨j, A, cc⟩ := x
  simp only at hj ih ⊢
  have hbl := bitsTo_len a j
  by_cases hlt : j < 8
  · have hp : 2 ^ j ≤ 128 := by
      have : j = 7 ∨ j < 7 := by omega
      rcases this with rfl | h
      · decide
      · have := pow7 h; omega
    have hs : 2 ^ (j + 1) = 2 ^ j * 2 := Nat.pow_succ 2 j
    have hpp : 0 < 2 ^ j := Nat.pow_pos (by decide)
    have hpne : ((2 ^ j : Nat) : Int) ≠ 0 := by omega
    have htd := td a (2 ^ j) (by omega)
    have htm := tm (a / 2 ^ j) 2
    have hdl : a / 2 ^ j ≤ a := Nat.div_le_self _ _
    by_cases h1 : a / 2 ^ j % 2 = 1
    · have hst := bitsTo_yes h1
      repeat' (first
        | ((with_reducible refine atBr ?_); refine BrM.yes (by omega) ?_; conv => whnf)
        | ((with_reducible refine atAr ?_); refine Ar.to (k := .i64) (((2^(j+1):Nat):Int)) (by omega) ⟨by omega, by omega⟩ ?_; conv => whnf)
        | ((with_reducible refine atAr ?_); refine Ar.to (k := .i64) (((j+1:Nat):Int)) (by omega) ⟨by omega, by omega⟩ ?_; conv => whnf)
        | ((with_reducible refine atBr ?_); (first | refine BrM.t rfl ?_ | refine BrM.f rfl ?_ | refine BrM.dec (fun _ => ?_) (fun _ => ?_) | refine BrM.mk (fun _ => ?_) (fun _ => ?_)) <;> conv => whnf)
        | ((with_reducible refine atAr ?_); refine Ar.i64 (by omega) (by omega) ?_; conv => whnf)
        | (refine Nx.divI rfl (.inr ⟨rfl, htd⟩) rfl rfl hpne rfl ?_)
        | ((with_reducible refine atRem ?_); refine Nx.divI rfl (.inl ⟨rfl, htm⟩) rfl rfl (by decide) rfl ?_)
        | ((with_reducible refine atApp ?_); refine Nx.append 3 (sz := 1) (by_ := 8) (news := [.int .i64 j]) rfl rfl rfl rfl rfl Tryz.underlying25 rfl rfl rfl rfl rfl (by unfold maxLen; omega) (by omega) fun A' c'' => ?_)
        | ((with_reducible refine atOps ?_); refine go 200 ?_; conv => whnf)
        | ((with_reducible refine atPlan ?_); refine Nx.runP (n := 200) rfl (by repeat (first | exact subB.nil _ | refine subB.cons rfl ?_)) ?_; conv => whnf)
        | ((with_reducible refine atAftL ?_); refine Nx.late ?_)
        | ((fail_if_success (with_reducible refine atRet ?_)); (fail_if_success (with_reducible refine atLoop ?_)); (fail_if_success (with_reducible refine atIn ?_)); (fail_if_success (with_reducible refine atDrawn ?_)); (fail_if_success (with_reducible refine atEnd ?_)); (with_reducible refine atRun ?_); refine go 200 ?_; conv => whnf))
      refine (ih ⟨j + 1, A', c''⟩ hlt (by show 8 - (j + 1) < 8 - j; omega)).weak ?_ ?_ ?_ ?_
      · repeat (first | exact subE.nil _ | refine subE.cons rfl rfl ?_ | refine subE.cons' rfl (fun _ => rfl) ?_)
      · exact .cons rfl (by rw [hst]; simp) rfl (.cons rfl rfl rfl (.nil _))
      · repeat (first | exact subB.nil _ | refine subB.cons rfl ?_)
      · exact .cons rfl (by rw [hst]; simp) (.cons rfl rfl (.nil _))
    · have hst := bitsTo_no h1
      repeat' (first
        | ((with_reducible refine atBr ?_); refine BrM.yes (by omega) ?_; conv => whnf)
        | ((with_reducible refine atBr ?_); refine BrM.not (by omega) ?_; conv => whnf)
        | ((with_reducible refine atAr ?_); refine Ar.to (k := .i64) (((2^(j+1):Nat):Int)) (by omega) ⟨by omega, by omega⟩ ?_; conv => whnf)
        | ((with_reducible refine atAr ?_); refine Ar.to (k := .i64) (((j+1:Nat):Int)) (by omega) ⟨by omega, by omega⟩ ?_; conv => whnf)
        | ((with_reducible refine atBr ?_); (first | refine BrM.t rfl ?_ | refine BrM.f rfl ?_ | refine BrM.dec (fun _ => ?_) (fun _ => ?_) | refine BrM.mk (fun _ => ?_) (fun _ => ?_)) <;> conv => whnf)
        | ((with_reducible refine atAr ?_); refine Ar.i64 (by omega) (by omega) ?_; conv => whnf)
        | (refine Nx.divI rfl (.inr ⟨rfl, htd⟩) rfl rfl hpne rfl ?_)
        | ((with_reducible refine atRem ?_); refine Nx.divI rfl (.inl ⟨rfl, htm⟩) rfl rfl (by decide) rfl ?_)
        | ((with_reducible refine atOps ?_); refine go 200 ?_; conv => whnf)
        | ((with_reducible refine atPlan ?_); refine Nx.runP (n := 200) rfl (by repeat (first | exact subB.nil _ | refine subB.cons rfl ?_)) ?_; conv => whnf)
        | ((with_reducible refine atAftL ?_); refine Nx.late ?_)
        | ((fail_if_success (with_reducible refine atRet ?_)); (fail_if_success (with_reducible refine atLoop ?_)); (fail_if_success (with_reducible refine atIn ?_)); (fail_if_success (with_reducible refine atDrawn ?_)); (fail_if_success (with_reducible refine atEnd ?_)); (with_reducible refine atRun ?_); refine go 200 ?_; conv => whnf))
      refine (ih ⟨j + 1, A, cc⟩ hlt (by show 8 - (j + 1) < 8 - j; omega)).weak ?_ ?_ ?_ ?_
      · repeat (first | exact subE.nil _ | refine subE.cons rfl rfl ?_ | refine subE.cons' rfl (fun _ => rfl) ?_)
      · exact .cons rfl (by rw [hst]) rfl (.cons rfl rfl rfl (.nil _))
      · repeat (first | exact subB.nil _ | refine subB.cons rfl ?_)
      · exact .cons rfl (by rw [hst]) (.cons rfl rfl (.nil _))
  · have e8 : j = 8 := by omega
    subst e8
    clear ih
    repeat' (first
      | ((with_reducible refine atBr ?_); refine BrM.not (by omega) ?_; conv => whnf)
      | ((with_reducible refine atBr ?_); (first | refine BrM.t rfl ?_ | refine BrM.f rfl ?_ | refine BrM.dec (fun _ => ?_) (fun _ => ?_) | refine BrM.mk (fun _ => ?_) (fun _ => ?_)) <;> conv => whnf)
      | ((with_reducible refine atAr ?_); refine Ar.i64 (by omega) (by omega) ?_; conv => whnf)
      | ((with_reducible refine atOps ?_); refine go 200 ?_; conv => whnf)
      | ((with_reducible refine atPlan ?_); refine Nx.runP (n := 200) rfl (by repeat (first | exact subB.nil _ | refine subB.cons rfl ?_)) ?_; conv => whnf)
      | ((with_reducible refine atAftL ?_); refine Nx.late ?_)
      | ((fail_if_success (with_reducible refine atRet ?_)); (fail_if_success (with_reducible refine atLoop ?_)); (fail_if_success (with_reducible refine atIn ?_)); (fail_if_success (with_reducible refine atDrawn ?_)); (fail_if_success (with_reducible refine atEnd ?_)); (with_reducible refine atRun ?_); refine go 200 ?_; conv => whnf))
    refine Nx.ret [3,4] Tryz.func26 rfl rfl ?_
    exact fin A none cc 0
theorem fourR_6 (c a b d : Nat) (hc : c < 256) (ha : a < 256) (hb : b < 256) (hd : d < 256) (hk : c % 32 = 6) (hK : fourK c = 6) : FnOk Tryz.prog 26 [.int .i64 c, .int .i64 a, .int .i64 b, .int .i64 d] [] (FoPost (fourA c a b d)) := by
  have hf : fourA c a b d = ⟨6, ((a % 64 : Nat) : Int), 0, 0, 0, ⟨0, 0, 0⟩, [], evsTo d (1 + b % 4)⟩ := by unfold fourA; rw [hK]; rfl
  rw [hf]
  have fin := fun A B c' d' => @FoPost.mk ⟨6, ((a % 64 : Nat) : Int), 0, 0, 0, ⟨0, 0, 0⟩, [], evsTo d (1 + b % 4)⟩ A B c' d'
  simp only at fin
  have c33 := Shape_ok 6 (by decide)
  rw [show ((6 : Nat) : Int) = ((c % 32 : Nat) : Int) by rw [hk]] at c33
  refine FnOk.start Tryz.func26 rfl rfl rfl rfl fun F os tape output => ?_
  refine Nx.give 3 (ownS 3 none 0 0 1 []) (own_nil _ _ _ _) ?_
  refine Nx.give 4 (ownS 72 none 0 0 2 []) (own_nil _ _ _ _) ?_
  refine go 200 ?_
  conv => whnf
  repeat' (first
    | ((with_reducible refine atBr ?_); refine BrM.not (by omega) ?_; conv => whnf)
    | ((with_reducible refine atBr ?_); refine BrM.yes (by omega) ?_; conv => whnf)
    | ((with_reducible refine atBr ?_); (first | refine BrM.t rfl ?_ | refine BrM.f rfl ?_ | refine BrM.dec (fun _ => ?_) (fun _ => ?_) | refine BrM.mk (fun _ => ?_) (fun _ => ?_)) <;> conv => whnf)
    | ((with_reducible refine atAr ?_); refine Ar.i64 (by omega) (by omega) ?_; conv => whnf)
    | ((with_reducible refine atRem ?_); refine Nx.divI rfl (.inl ⟨rfl, (tm c 32)⟩) rfl rfl (by decide) rfl ?_)
    | ((with_reducible refine atRem ?_); refine Nx.divI rfl (.inl ⟨rfl, (tm a 7)⟩) rfl rfl (by decide) rfl ?_)
    | ((with_reducible refine atRem ?_); refine Nx.divI rfl (.inl ⟨rfl, (tm a 8)⟩) rfl rfl (by decide) rfl ?_)
    | ((with_reducible refine atRem ?_); refine Nx.divI rfl (.inl ⟨rfl, (tm a 64)⟩) rfl rfl (by decide) rfl ?_)
    | ((with_reducible refine atRem ?_); refine Nx.divI rfl (.inl ⟨rfl, (tm b 2)⟩) rfl rfl (by decide) rfl ?_)
    | ((with_reducible refine atRem ?_); refine Nx.divI rfl (.inl ⟨rfl, (tm b 4)⟩) rfl rfl (by decide) rfl ?_)
    | ((with_reducible refine atRem ?_); refine Nx.divI rfl (.inl ⟨rfl, (tm d 8)⟩) rfl rfl (by decide) rfl ?_)
    | ((with_reducible refine atRem ?_); refine Nx.divI rfl (.inl ⟨rfl, (tm d 64)⟩) rfl rfl (by decide) rfl ?_)
    | ((with_reducible refine atQuo ?_); refine Nx.divI rfl (.inr ⟨rfl, (td b 4 (by omega))⟩) rfl rfl (by decide) rfl ?_)
    | ((with_reducible refine (atCall 33) ?_); refine Nx.call [] [] rfl rfl rfl rfl rfl (c33) rfl fun v Q hQ => ?_; obtain ⟨rfl, rfl⟩ := hQ)
    | ((with_reducible refine (atCall 34) ?_); refine Nx.call [] [] rfl rfl rfl rfl rfl (has_n (k := 6) (by decide) _ (by decide)) rfl fun v Q hQ => ?_; obtain ⟨rfl, rfl⟩ := hQ; first | rw [hd110 (k := 6) (by decide)] | rw [hd119 (k := 6) (by decide)] | rw [hd104 (k := 6) (by decide)] | rw [hd97 (k := 6) (by decide)])
    | ((with_reducible refine atOps ?_); refine go 200 ?_; conv => whnf)
    | ((with_reducible refine atPlan ?_); refine Nx.runP (n := 200) rfl (by repeat (first | exact subB.nil _ | refine subB.cons rfl ?_)) ?_; conv => whnf)
    | ((with_reducible refine atAftL ?_); refine Nx.late ?_)
    | ((fail_if_success (with_reducible refine atRet ?_)); (fail_if_success (with_reducible refine atLoop ?_)); (fail_if_success (with_reducible refine atIn ?_)); (fail_if_success (with_reducible refine atDrawn ?_)); (fail_if_success (with_reducible refine atEnd ?_)); (with_reducible refine atRun ?_); refine go 200 ?_; conv => whnf))
  refine Nx.loop (X := BtX) (fun x => x.j ≤ 1 + b % 4) (fun x => 1 + b % 4 - x.j)
    (fun x => [(2, iv b), (3, iv d), (8, .c (.loc 8 0)), (9, .c (.loc 9 0)), (14, iv x.j)]) (fun x => [(9, 44, (lnE 6 ((a % 64 : Nat) : Int) 0 0 0 ⟨0, 0, 0⟩ 0 none 0 (evsTo d x.j).length x.A x.c).map .v), (8, 44, (lnC Ln.zero none 0 none 0).map .v)]) [] (fun x => [(3, ownS 3 none 0 0 1 []), (4, ownS 72 x.A (evsTo d x.j).length x.c 2 (evsV (evsTo d x.j)))]) ⟨0, none, 0⟩ (Nat.zero_le _) ?_ ?_ ?_ ?_ ?_
  · repeat (first | exact subE.nil _ | refine subE.cons rfl rfl ?_ | refine subE.cons' rfl (fun _ => rfl) ?_)
  · exact .cons rfl (by rw [hk]; rfl) rfl (.cons rfl rfl rfl (.nil _))
  · repeat (first | exact subB.nil _ | refine subB.cons rfl ?_)
  · repeat (first | exact subR.nil _ | refine subR.cons rfl rfl ?_)
  intro x hj ih
  obtain ⟨j, A, cc⟩ := x
  simp only at hj ih ⊢
  have hbl : b % 4 < 4 := Nat.mod_lt _ (by decide)
  by_cases hlt : j < 1 + b % 4
  · have hst := evsTo_succ d j
    have hel := evsTo_len d j
    repeat' (first
      | ((with_reducible refine atBr ?_); refine BrM.yes (by omega) ?_; conv => whnf)
      | ((with_reducible refine atAr ?_); refine Ar.to (k := .i64) (((j+1:Nat):Int)) (by omega) ⟨by omega, by omega⟩ ?_; conv => whnf)
      | ((with_reducible refine atBr ?_); (first | refine BrM.t rfl ?_ | refine BrM.f rfl ?_ | refine BrM.dec (fun _ => ?_) (fun _ => ?_) | refine BrM.mk (fun _ => ?_) (fun _ => ?_)) <;> conv => whnf)
      | ((with_reducible refine atAr ?_); refine Ar.i64 (by omega) (by omega) ?_; conv => whnf)
      | ((with_reducible refine atRem ?_); refine Nx.divI rfl (.inl ⟨rfl, (tm b 4)⟩) rfl rfl (by decide) rfl ?_)
      | ((with_reducible refine atApp ?_); refine Nx.append 4 (sz := 2) (by_ := 16) (news := [.int .i64 d, .int .i64 j]) rfl rfl rfl rfl rfl Tryz.underlying26 rfl rfl rfl rfl rfl (by unfold maxLen; omega) (by omega) fun A' c'' => ?_)
      | ((with_reducible refine atOps ?_); refine go 200 ?_; conv => whnf)
      | ((with_reducible refine atPlan ?_); refine Nx.runP (n := 200) rfl (by repeat (first | exact subB.nil _ | refine subB.cons rfl ?_)) ?_; conv => whnf)
      | ((with_reducible refine atAftL ?_); refine Nx.late ?_)
      | ((fail_if_success (with_reducible refine atRet ?_)); (fail_if_success (with_reducible refine atLoop ?_)); (fail_if_success (with_reducible refine atIn ?_)); (fail_if_success (with_reducible refine atDrawn ?_)); (fail_if_success (with_reducible refine atEnd ?_)); (with_reducible refine atRun ?_); refine go 200 ?_; conv => whnf))
    refine (ih ⟨j + 1, A', c''⟩ hlt (by show 1 + b % 4 - (j + 1) < 1 + b % 4 - j; omega)).weak ?_ ?_ ?_ ?_
    · repeat (first | exact subE.nil _ | refine subE.cons rfl rfl ?_ | refine subE.cons' rfl (fun _ => rfl) ?_)
    · exact .cons rfl (by rw [hst]; simp) rfl (.cons rfl rfl rfl (.nil _))
    · repeat (first | exact subB.nil _ | refine subB.cons rfl ?_)
    · exact .cons rfl rfl (.cons rfl (by rw [hst]; simp [evC]) (.nil _))
  · have e8 : j = 1 + b % 4 := by omega
    subst e8
    clear ih
    repeat' (first
      | ((with_reducible refine atBr ?_); refine BrM.not (by omega) ?_; conv => whnf)
      | ((with_reducible refine atBr ?_); (first | refine BrM.t rfl ?_ | refine BrM.f rfl ?_ | refine BrM.dec (fun _ => ?_) (fun _ => ?_) | refine BrM.mk (fun _ => ?_) (fun _ => ?_)) <;> conv => whnf)
      | ((with_reducible refine atAr ?_); refine Ar.i64 (by omega) (by omega) ?_; conv => whnf)
      | ((with_reducible refine atRem ?_); refine Nx.divI rfl (.inl ⟨rfl, (tm b 4)⟩) rfl rfl (by decide) rfl ?_)
      | ((with_reducible refine atOps ?_); refine go 200 ?_; conv => whnf)
      | ((with_reducible refine atPlan ?_); refine Nx.runP (n := 200) rfl (by repeat (first | exact subB.nil _ | refine subB.cons rfl ?_)) ?_; conv => whnf)
      | ((with_reducible refine atAftL ?_); refine Nx.late ?_)
      | ((fail_if_success (with_reducible refine atRet ?_)); (fail_if_success (with_reducible refine atLoop ?_)); (fail_if_success (with_reducible refine atIn ?_)); (fail_if_success (with_reducible refine atDrawn ?_)); (fail_if_success (with_reducible refine atEnd ?_)); (with_reducible refine atRun ?_); refine go 200 ?_; conv => whnf))
    refine Nx.ret [3,4] Tryz.func26 rfl rfl ?_
    exact fin none A 0 cc
theorem fourR_7 (c a b d : Nat) (hc : c < 256) (ha : a < 256) (hb : b < 256) (hd : d < 256) (hk : c % 32 = 7) (hK : fourK c = 7) : FnOk Tryz.prog 26 [.int .i64 c, .int .i64 a, .int .i64 b, .int .i64 d] [] (FoPost (fourA c a b d)) := by
  have hf : fourA c a b d = ⟨7, ((a % 64 : Nat) : Int), 0, 0, 0, ⟨0, 0, 0⟩, [], evsTo d (1 + b % 4)⟩ := by unfold fourA; rw [hK]; rfl
  rw [hf]
  have fin := fun A B c' d' => @FoPost.mk ⟨7, ((a % 64 : Nat) : Int), 0, 0, 0, ⟨0, 0, 0⟩, [], evsTo d (1 + b % 4)⟩ A B c' d'
  simp only at fin
  have c33 := Shape_ok 7 (by decide)
  rw [show ((7 : Nat) : Int) = ((c % 32 : Nat) : Int) by rw [hk]] at c33
  refine FnOk.start Tryz.func26 rfl rfl rfl rfl fun F os tape output => ?_
  refine Nx.give 3 (ownS 3 none 0 0 1 []) (own_nil _ _ _ _) ?_
  refine Nx.give 4 (ownS 72 none 0 0 2 []) (own_nil _ _ _ _) ?_
  refine go 200 ?_
  conv => whnf
  repeat' (first
    | ((with_reducible refine atBr ?_); refine BrM.not (by omega) ?_; conv => whnf)
    | ((with_reducible refine atBr ?_); refine BrM.yes (by omega) ?_; conv => whnf)
    | ((with_reducible refine atBr ?_); (first | refine BrM.t rfl ?_ | refine BrM.f rfl ?_ | refine BrM.dec (fun _ => ?_) (fun _ => ?_) | refine BrM.mk (fun _ => ?_) (fun _ => ?_)) <;> conv => whnf)
    | ((with_reducible refine atAr ?_); refine Ar.i64 (by omega) (by omega) ?_; conv => whnf)
    | ((with_reducible refine atRem ?_); refine Nx.divI rfl (.inl ⟨rfl, (tm c 32)⟩) rfl rfl (by decide) rfl ?_)
    | ((with_reducible refine atRem ?_); refine Nx.divI rfl (.inl ⟨rfl, (tm a 7)⟩) rfl rfl (by decide) rfl ?_)
    | ((with_reducible refine atRem ?_); refine Nx.divI rfl (.inl ⟨rfl, (tm a 8)⟩) rfl rfl (by decide) rfl ?_)
    | ((with_reducible refine atRem ?_); refine Nx.divI rfl (.inl ⟨rfl, (tm a 64)⟩) rfl rfl (by decide) rfl ?_)
    | ((with_reducible refine atRem ?_); refine Nx.divI rfl (.inl ⟨rfl, (tm b 2)⟩) rfl rfl (by decide) rfl ?_)
    | ((with_reducible refine atRem ?_); refine Nx.divI rfl (.inl ⟨rfl, (tm b 4)⟩) rfl rfl (by decide) rfl ?_)
    | ((with_reducible refine atRem ?_); refine Nx.divI rfl (.inl ⟨rfl, (tm d 8)⟩) rfl rfl (by decide) rfl ?_)
    | ((with_reducible refine atRem ?_); refine Nx.divI rfl (.inl ⟨rfl, (tm d 64)⟩) rfl rfl (by decide) rfl ?_)
    | ((with_reducible refine atQuo ?_); refine Nx.divI rfl (.inr ⟨rfl, (td b 4 (by omega))⟩) rfl rfl (by decide) rfl ?_)
    | ((with_reducible refine (atCall 33) ?_); refine Nx.call [] [] rfl rfl rfl rfl rfl (c33) rfl fun v Q hQ => ?_; obtain ⟨rfl, rfl⟩ := hQ)
    | ((with_reducible refine (atCall 34) ?_); refine Nx.call [] [] rfl rfl rfl rfl rfl (has_n (k := 7) (by decide) _ (by decide)) rfl fun v Q hQ => ?_; obtain ⟨rfl, rfl⟩ := hQ; first | rw [hd110 (k := 7) (by decide)] | rw [hd119 (k := 7) (by decide)] | rw [hd104 (k := 7) (by decide)] | rw [hd97 (k := 7) (by decide)])
    | ((with_reducible refine atOps ?_); refine go 200 ?_; conv => whnf)
    | ((with_reducible refine atPlan ?_); refine Nx.runP (n := 200) rfl (by repeat (first | exact subB.nil _ | refine subB.cons rfl ?_)) ?_; conv => whnf)
    | ((with_reducible refine atAftL ?_); refine Nx.late ?_)
    | ((fail_if_success (with_reducible refine atRet ?_)); (fail_if_success (with_reducible refine atLoop ?_)); (fail_if_success (with_reducible refine atIn ?_)); (fail_if_success (with_reducible refine atDrawn ?_)); (fail_if_success (with_reducible refine atEnd ?_)); (with_reducible refine atRun ?_); refine go 200 ?_; conv => whnf))
  refine Nx.loop (X := BtX) (fun x => x.j ≤ 1 + b % 4) (fun x => 1 + b % 4 - x.j)
    (fun x => [(2, iv b), (3, iv d), (8, .c (.loc 8 0)), (9, .c (.loc 9 0)), (14, iv x.j)]) (fun x => [(9, 44, (lnE 7 ((a % 64 : Nat) : Int) 0 0 0 ⟨0, 0, 0⟩ 0 none 0 (evsTo d x.j).length x.A x.c).map .v), (8, 44, (lnC Ln.zero none 0 none 0).map .v)]) [] (fun x => [(3, ownS 3 none 0 0 1 []), (4, ownS 72 x.A (evsTo d x.j).length x.c 2 (evsV (evsTo d x.j)))]) ⟨0, none, 0⟩ (Nat.zero_le _) ?_ ?_ ?_ ?_ ?_
  · repeat (first | exact subE.nil _ | refine subE.cons rfl rfl ?_ | refine subE.cons' rfl (fun _ => rfl) ?_)
  · exact .cons rfl (by rw [hk]; rfl) rfl (.cons rfl rfl rfl (.nil _))
  · repeat (first | exact subB.nil _ | refine subB.cons rfl ?_)
  · repeat (first | exact subR.nil _ | refine subR.cons rfl rfl ?_)
  intro x hj ih
  obtain ⟨j, A, cc⟩ := x
  simp only at hj ih ⊢
  have hbl : b % 4 < 4 := Nat.mod_lt _ (by decide)
  by_cases hlt : j < 1 + b % 4
  · have hst := evsTo_succ d j
    have hel := evsTo_len d j
    repeat' (first
      | ((with_reducible refine atBr ?_); refine BrM.yes (by omega) ?_; conv => whnf)
      | ((with_reducible refine atAr ?_); refine Ar.to (k := .i64) (((j+1:Nat):Int)) (by omega) ⟨by omega, by omega⟩ ?_; conv => whnf)
      | ((with_reducible refine atBr ?_); (first | refine BrM.t rfl ?_ | refine BrM.f rfl ?_ | refine BrM.dec (fun _ => ?_) (fun _ => ?_) | refine BrM.mk (fun _ => ?_) (fun _ => ?_)) <;> conv => whnf)
      | ((with_reducible refine atAr ?_); refine Ar.i64 (by omega) (by omega) ?_; conv => whnf)
      | ((with_reducible refine atRem ?_); refine Nx.divI rfl (.inl ⟨rfl, (tm b 4)⟩) rfl rfl (by decide) rfl ?_)
      | ((with_reducible refine atApp ?_); refine Nx.append 4 (sz := 2) (by_ := 16) (news := [.int .i64 d, .int .i64 j]) rfl rfl rfl rfl rfl Tryz.underlying26 rfl rfl rfl rfl rfl (by unfold maxLen; omega) (by omega) fun A' c'' => ?_)
      | ((with_reducible refine atOps ?_); refine go 200 ?_; conv => whnf)
      | ((with_reducible refine atPlan ?_); refine Nx.runP (n := 200) rfl (by repeat (first | exact subB.nil _ | refine subB.cons rfl ?_)) ?_; conv => whnf)
      | ((with_reducible refine atAftL ?_); refine Nx.late ?_)
      | ((fail_if_success (with_reducible refine atRet ?_)); (fail_if_success (with_reducible refine atLoop ?_)); (fail_if_success (with_reducible refine atIn ?_)); (fail_if_success (with_reducible refine atDrawn ?_)); (fail_if_success (with_reducible refine atEnd ?_)); (with_reducible refine atRun ?_); refine go 200 ?_; conv => whnf))
    refine (ih ⟨j + 1, A', c''⟩ hlt (by show 1 + b % 4 - (j + 1) < 1 + b % 4 - j; omega)).weak ?_ ?_ ?_ ?_
    · repeat (first | exact subE.nil _ | refine subE.cons rfl rfl ?_ | refine subE.cons' rfl (fun _ => rfl) ?_)
    · exact .cons rfl (by rw [hst]; simp) rfl (.cons rfl rfl rfl (.nil _))
    · repeat (first | exact subB.nil _ | refine subB.cons rfl ?_)
    · exact .cons rfl rfl (.cons rfl (by rw [hst]; simp [evC]) (.nil _))
  · have e8 : j = 1 + b % 4 := by omega
    subst e8
    clear ih
    repeat' (first
      | ((with_reducible refine atBr ?_); refine BrM.not (by omega) ?_; conv => whnf)
      | ((with_reducible refine atBr ?_); (first | refine BrM.t rfl ?_ | refine BrM.f rfl ?_ | refine BrM.dec (fun _ => ?_) (fun _ => ?_) | refine BrM.mk (fun _ => ?_) (fun _ => ?_)) <;> conv => whnf)
      | ((with_reducible refine atAr ?_); refine Ar.i64 (by omega) (by omega) ?_; conv => whnf)
      | ((with_reducible refine atRem ?_); refine Nx.divI rfl (.inl ⟨rfl, (tm b 4)⟩) rfl rfl (by decide) rfl ?_)
      | ((with_reducible refine atOps ?_); refine go 200 ?_; conv => whnf)
      | ((with_reducible refine atPlan ?_); refine Nx.runP (n := 200) rfl (by repeat (first | exact subB.nil _ | refine subB.cons rfl ?_)) ?_; conv => whnf)
      | ((with_reducible refine atAftL ?_); refine Nx.late ?_)
      | ((fail_if_success (with_reducible refine atRet ?_)); (fail_if_success (with_reducible refine atLoop ?_)); (fail_if_success (with_reducible refine atIn ?_)); (fail_if_success (with_reducible refine atDrawn ?_)); (fail_if_success (with_reducible refine atEnd ?_)); (with_reducible refine atRun ?_); refine go 200 ?_; conv => whnf))
    refine Nx.ret [3,4] Tryz.func26 rfl rfl ?_
    exact fin none A 0 cc
theorem fourR_8 (c a b d : Nat) (hc : c < 256) (ha : a < 256) (hb : b < 256) (hd : d < 256) (hk : c % 32 = 8) (hK : fourK c = 8) : FnOk Tryz.prog 26 [.int .i64 c, .int .i64 a, .int .i64 b, .int .i64 d] [] (FoPost (fourA c a b d)) := by
  have hf : fourA c a b d = ⟨8, ((a % 64 : Nat) : Int), 0, (b : Int), 0, ⟨0, 0, 0⟩, [], []⟩ := by unfold fourA; rw [hK]; rfl
  rw [hf]
  have fin := fun A B c' d' => @FoPost.mk ⟨8, ((a % 64 : Nat) : Int), 0, (b : Int), 0, ⟨0, 0, 0⟩, [], []⟩ A B c' d'
  simp only at fin
  have c33 := Shape_ok 8 (by decide)
  rw [show ((8 : Nat) : Int) = ((c % 32 : Nat) : Int) by rw [hk]] at c33
  refine FnOk.start Tryz.func26 rfl rfl rfl rfl fun F os tape output => ?_
  refine Nx.give 3 (ownS 3 none 0 0 1 []) (own_nil _ _ _ _) ?_
  refine Nx.give 4 (ownS 72 none 0 0 2 []) (own_nil _ _ _ _) ?_
  refine go 200 ?_
  conv => whnf
  repeat' (first
    | ((with_reducible refine atBr ?_); refine BrM.not (by omega) ?_; conv => whnf)
    | ((with_reducible refine atBr ?_); refine BrM.yes (by omega) ?_; conv => whnf)
    | ((with_reducible refine atBr ?_); (first | refine BrM.t rfl ?_ | refine BrM.f rfl ?_ | refine BrM.dec (fun _ => ?_) (fun _ => ?_) | refine BrM.mk (fun _ => ?_) (fun _ => ?_)) <;> conv => whnf)
    | ((with_reducible refine atAr ?_); refine Ar.i64 (by omega) (by omega) ?_; conv => whnf)
    | ((with_reducible refine atRem ?_); refine Nx.divI rfl (.inl ⟨rfl, (tm c 32)⟩) rfl rfl (by decide) rfl ?_)
    | ((with_reducible refine atRem ?_); refine Nx.divI rfl (.inl ⟨rfl, (tm a 7)⟩) rfl rfl (by decide) rfl ?_)
    | ((with_reducible refine atRem ?_); refine Nx.divI rfl (.inl ⟨rfl, (tm a 8)⟩) rfl rfl (by decide) rfl ?_)
    | ((with_reducible refine atRem ?_); refine Nx.divI rfl (.inl ⟨rfl, (tm a 64)⟩) rfl rfl (by decide) rfl ?_)
    | ((with_reducible refine atRem ?_); refine Nx.divI rfl (.inl ⟨rfl, (tm b 2)⟩) rfl rfl (by decide) rfl ?_)
    | ((with_reducible refine atRem ?_); refine Nx.divI rfl (.inl ⟨rfl, (tm b 4)⟩) rfl rfl (by decide) rfl ?_)
    | ((with_reducible refine atRem ?_); refine Nx.divI rfl (.inl ⟨rfl, (tm d 8)⟩) rfl rfl (by decide) rfl ?_)
    | ((with_reducible refine atRem ?_); refine Nx.divI rfl (.inl ⟨rfl, (tm d 64)⟩) rfl rfl (by decide) rfl ?_)
    | ((with_reducible refine atQuo ?_); refine Nx.divI rfl (.inr ⟨rfl, (td b 4 (by omega))⟩) rfl rfl (by decide) rfl ?_)
    | ((with_reducible refine (atCall 33) ?_); refine Nx.call [] [] rfl rfl rfl rfl rfl (c33) rfl fun v Q hQ => ?_; obtain ⟨rfl, rfl⟩ := hQ)
    | ((with_reducible refine (atCall 34) ?_); refine Nx.call [] [] rfl rfl rfl rfl rfl (has_n (k := 8) (by decide) _ (by decide)) rfl fun v Q hQ => ?_; obtain ⟨rfl, rfl⟩ := hQ; first | rw [hd110 (k := 8) (by decide)] | rw [hd119 (k := 8) (by decide)] | rw [hd104 (k := 8) (by decide)] | rw [hd97 (k := 8) (by decide)])
    | ((with_reducible refine atOps ?_); refine go 200 ?_; conv => whnf)
    | ((with_reducible refine atPlan ?_); refine Nx.runP (n := 200) rfl (by repeat (first | exact subB.nil _ | refine subB.cons rfl ?_)) ?_; conv => whnf)
    | ((with_reducible refine atAftL ?_); refine Nx.late ?_)
    | ((fail_if_success (with_reducible refine atRet ?_)); (fail_if_success (with_reducible refine atLoop ?_)); (fail_if_success (with_reducible refine atIn ?_)); (fail_if_success (with_reducible refine atDrawn ?_)); (fail_if_success (with_reducible refine atEnd ?_)); (with_reducible refine atRun ?_); refine go 200 ?_; conv => whnf))
  refine Nx.ret [3,4] Tryz.func26 rfl rfl ?_
  rw [hk]
  exact fin none none 0 0
theorem fourR_9 (c a b d : Nat) (hc : c < 256) (ha : a < 256) (hb : b < 256) (hd : d < 256) (hk : c % 32 = 9) (hK : fourK c = 9) : FnOk Tryz.prog 26 [.int .i64 c, .int .i64 a, .int .i64 b, .int .i64 d] [] (FoPost (fourA c a b d)) := by
  have hf : fourA c a b d = ⟨9, ((a % 64 : Nat) : Int), 0, 0, 0, ⟨0, 0, 0⟩, [], []⟩ := by unfold fourA; rw [hK]; rfl
  rw [hf]
  have fin := fun A B c' d' => @FoPost.mk ⟨9, ((a % 64 : Nat) : Int), 0, 0, 0, ⟨0, 0, 0⟩, [], []⟩ A B c' d'
  simp only at fin
  have c33 := Shape_ok 9 (by decide)
  rw [show ((9 : Nat) : Int) = ((c % 32 : Nat) : Int) by rw [hk]] at c33
  refine FnOk.start Tryz.func26 rfl rfl rfl rfl fun F os tape output => ?_
  refine Nx.give 3 (ownS 3 none 0 0 1 []) (own_nil _ _ _ _) ?_
  refine Nx.give 4 (ownS 72 none 0 0 2 []) (own_nil _ _ _ _) ?_
  refine go 200 ?_
  conv => whnf
  repeat' (first
    | ((with_reducible refine atBr ?_); refine BrM.not (by omega) ?_; conv => whnf)
    | ((with_reducible refine atBr ?_); refine BrM.yes (by omega) ?_; conv => whnf)
    | ((with_reducible refine atBr ?_); (first | refine BrM.t rfl ?_ | refine BrM.f rfl ?_ | refine BrM.dec (fun _ => ?_) (fun _ => ?_) | refine BrM.mk (fun _ => ?_) (fun _ => ?_)) <;> conv => whnf)
    | ((with_reducible refine atAr ?_); refine Ar.i64 (by omega) (by omega) ?_; conv => whnf)
    | ((with_reducible refine atRem ?_); refine Nx.divI rfl (.inl ⟨rfl, (tm c 32)⟩) rfl rfl (by decide) rfl ?_)
    | ((with_reducible refine atRem ?_); refine Nx.divI rfl (.inl ⟨rfl, (tm a 7)⟩) rfl rfl (by decide) rfl ?_)
    | ((with_reducible refine atRem ?_); refine Nx.divI rfl (.inl ⟨rfl, (tm a 8)⟩) rfl rfl (by decide) rfl ?_)
    | ((with_reducible refine atRem ?_); refine Nx.divI rfl (.inl ⟨rfl, (tm a 64)⟩) rfl rfl (by decide) rfl ?_)
    | ((with_reducible refine atRem ?_); refine Nx.divI rfl (.inl ⟨rfl, (tm b 2)⟩) rfl rfl (by decide) rfl ?_)
    | ((with_reducible refine atRem ?_); refine Nx.divI rfl (.inl ⟨rfl, (tm b 4)⟩) rfl rfl (by decide) rfl ?_)
    | ((with_reducible refine atRem ?_); refine Nx.divI rfl (.inl ⟨rfl, (tm d 8)⟩) rfl rfl (by decide) rfl ?_)
    | ((with_reducible refine atRem ?_); refine Nx.divI rfl (.inl ⟨rfl, (tm d 64)⟩) rfl rfl (by decide) rfl ?_)
    | ((with_reducible refine atQuo ?_); refine Nx.divI rfl (.inr ⟨rfl, (td b 4 (by omega))⟩) rfl rfl (by decide) rfl ?_)
    | ((with_reducible refine (atCall 33) ?_); refine Nx.call [] [] rfl rfl rfl rfl rfl (c33) rfl fun v Q hQ => ?_; obtain ⟨rfl, rfl⟩ := hQ)
    | ((with_reducible refine (atCall 34) ?_); refine Nx.call [] [] rfl rfl rfl rfl rfl (has_n (k := 9) (by decide) _ (by decide)) rfl fun v Q hQ => ?_; obtain ⟨rfl, rfl⟩ := hQ; first | rw [hd110 (k := 9) (by decide)] | rw [hd119 (k := 9) (by decide)] | rw [hd104 (k := 9) (by decide)] | rw [hd97 (k := 9) (by decide)])
    | ((with_reducible refine atOps ?_); refine go 200 ?_; conv => whnf)
    | ((with_reducible refine atPlan ?_); refine Nx.runP (n := 200) rfl (by repeat (first | exact subB.nil _ | refine subB.cons rfl ?_)) ?_; conv => whnf)
    | ((with_reducible refine atAftL ?_); refine Nx.late ?_)
    | ((fail_if_success (with_reducible refine atRet ?_)); (fail_if_success (with_reducible refine atLoop ?_)); (fail_if_success (with_reducible refine atIn ?_)); (fail_if_success (with_reducible refine atDrawn ?_)); (fail_if_success (with_reducible refine atEnd ?_)); (with_reducible refine atRun ?_); refine go 200 ?_; conv => whnf))
  refine Nx.ret [3,4] Tryz.func26 rfl rfl ?_
  rw [hk]
  exact fin none none 0 0
theorem fourR_10 (c a b d : Nat) (hc : c < 256) (ha : a < 256) (hb : b < 256) (hd : d < 256) (hk : c % 32 = 10) (hK : fourK c = 10) : FnOk Tryz.prog 26 [.int .i64 c, .int .i64 a, .int .i64 b, .int .i64 d] [] (FoPost (fourA c a b d)) := by
  have hf : fourA c a b d = ⟨10, ((a % 64 : Nat) : Int), 0, (b : Int), 0, ⟨0, 0, 0⟩, [], []⟩ := by unfold fourA; rw [hK]; rfl
  rw [hf]
  have fin := fun A B c' d' => @FoPost.mk ⟨10, ((a % 64 : Nat) : Int), 0, (b : Int), 0, ⟨0, 0, 0⟩, [], []⟩ A B c' d'
  simp only at fin
  have c33 := Shape_ok 10 (by decide)
  rw [show ((10 : Nat) : Int) = ((c % 32 : Nat) : Int) by rw [hk]] at c33
  refine FnOk.start Tryz.func26 rfl rfl rfl rfl fun F os tape output => ?_
  refine Nx.give 3 (ownS 3 none 0 0 1 []) (own_nil _ _ _ _) ?_
  refine Nx.give 4 (ownS 72 none 0 0 2 []) (own_nil _ _ _ _) ?_
  refine go 200 ?_
  conv => whnf
  repeat' (first
    | ((with_reducible refine atBr ?_); refine BrM.not (by omega) ?_; conv => whnf)
    | ((with_reducible refine atBr ?_); refine BrM.yes (by omega) ?_; conv => whnf)
    | ((with_reducible refine atBr ?_); (first | refine BrM.t rfl ?_ | refine BrM.f rfl ?_ | refine BrM.dec (fun _ => ?_) (fun _ => ?_) | refine BrM.mk (fun _ => ?_) (fun _ => ?_)) <;> conv => whnf)
    | ((with_reducible refine atAr ?_); refine Ar.i64 (by omega) (by omega) ?_; conv => whnf)
    | ((with_reducible refine atRem ?_); refine Nx.divI rfl (.inl ⟨rfl, (tm c 32)⟩) rfl rfl (by decide) rfl ?_)
    | ((with_reducible refine atRem ?_); refine Nx.divI rfl (.inl ⟨rfl, (tm a 7)⟩) rfl rfl (by decide) rfl ?_)
    | ((with_reducible refine atRem ?_); refine Nx.divI rfl (.inl ⟨rfl, (tm a 8)⟩) rfl rfl (by decide) rfl ?_)
    | ((with_reducible refine atRem ?_); refine Nx.divI rfl (.inl ⟨rfl, (tm a 64)⟩) rfl rfl (by decide) rfl ?_)
    | ((with_reducible refine atRem ?_); refine Nx.divI rfl (.inl ⟨rfl, (tm b 2)⟩) rfl rfl (by decide) rfl ?_)
    | ((with_reducible refine atRem ?_); refine Nx.divI rfl (.inl ⟨rfl, (tm b 4)⟩) rfl rfl (by decide) rfl ?_)
    | ((with_reducible refine atRem ?_); refine Nx.divI rfl (.inl ⟨rfl, (tm d 8)⟩) rfl rfl (by decide) rfl ?_)
    | ((with_reducible refine atRem ?_); refine Nx.divI rfl (.inl ⟨rfl, (tm d 64)⟩) rfl rfl (by decide) rfl ?_)
    | ((with_reducible refine atQuo ?_); refine Nx.divI rfl (.inr ⟨rfl, (td b 4 (by omega))⟩) rfl rfl (by decide) rfl ?_)
    | ((with_reducible refine (atCall 33) ?_); refine Nx.call [] [] rfl rfl rfl rfl rfl (c33) rfl fun v Q hQ => ?_; obtain ⟨rfl, rfl⟩ := hQ)
    | ((with_reducible refine (atCall 34) ?_); refine Nx.call [] [] rfl rfl rfl rfl rfl (has_n (k := 10) (by decide) _ (by decide)) rfl fun v Q hQ => ?_; obtain ⟨rfl, rfl⟩ := hQ; first | rw [hd110 (k := 10) (by decide)] | rw [hd119 (k := 10) (by decide)] | rw [hd104 (k := 10) (by decide)] | rw [hd97 (k := 10) (by decide)])
    | ((with_reducible refine atOps ?_); refine go 200 ?_; conv => whnf)
    | ((with_reducible refine atPlan ?_); refine Nx.runP (n := 200) rfl (by repeat (first | exact subB.nil _ | refine subB.cons rfl ?_)) ?_; conv => whnf)
    | ((with_reducible refine atAftL ?_); refine Nx.late ?_)
    | ((fail_if_success (with_reducible refine atRet ?_)); (fail_if_success (with_reducible refine atLoop ?_)); (fail_if_success (with_reducible refine atIn ?_)); (fail_if_success (with_reducible refine atDrawn ?_)); (fail_if_success (with_reducible refine atEnd ?_)); (with_reducible refine atRun ?_); refine go 200 ?_; conv => whnf))
  refine Nx.ret [3,4] Tryz.func26 rfl rfl ?_
  rw [hk]
  exact fin none none 0 0
theorem fourR_11 (c a b d : Nat) (hc : c < 256) (ha : a < 256) (hb : b < 256) (hd : d < 256) (hk : c % 32 = 11) (hK : fourK c = 11) : FnOk Tryz.prog 26 [.int .i64 c, .int .i64 a, .int .i64 b, .int .i64 d] [] (FoPost (fourA c a b d)) := by
  have hf : fourA c a b d = ⟨11, ((a % 64 : Nat) : Int), 0, 0, 0, ⟨0, 0, 0⟩, [], []⟩ := by unfold fourA; rw [hK]; rfl
  rw [hf]
  have fin := fun A B c' d' => @FoPost.mk ⟨11, ((a % 64 : Nat) : Int), 0, 0, 0, ⟨0, 0, 0⟩, [], []⟩ A B c' d'
  simp only at fin
  have c33 := Shape_ok 11 (by decide)
  rw [show ((11 : Nat) : Int) = ((c % 32 : Nat) : Int) by rw [hk]] at c33
  refine FnOk.start Tryz.func26 rfl rfl rfl rfl fun F os tape output => ?_
  refine Nx.give 3 (ownS 3 none 0 0 1 []) (own_nil _ _ _ _) ?_
  refine Nx.give 4 (ownS 72 none 0 0 2 []) (own_nil _ _ _ _) ?_
  refine go 200 ?_
  conv => whnf
  repeat' (first
    | ((with_reducible refine atBr ?_); refine BrM.not (by omega) ?_; conv => whnf)
    | ((with_reducible refine atBr ?_); refine BrM.yes (by omega) ?_; conv => whnf)
    | ((with_reducible refine atBr ?_); (first | refine BrM.t rfl ?_ | refine BrM.f rfl ?_ | refine BrM.dec (fun _ => ?_) (fun _ => ?_) | refine BrM.mk (fun _ => ?_) (fun _ => ?_)) <;> conv => whnf)
    | ((with_reducible refine atAr ?_); refine Ar.i64 (by omega) (by omega) ?_; conv => whnf)
    | ((with_reducible refine atRem ?_); refine Nx.divI rfl (.inl ⟨rfl, (tm c 32)⟩) rfl rfl (by decide) rfl ?_)
    | ((with_reducible refine atRem ?_); refine Nx.divI rfl (.inl ⟨rfl, (tm a 7)⟩) rfl rfl (by decide) rfl ?_)
    | ((with_reducible refine atRem ?_); refine Nx.divI rfl (.inl ⟨rfl, (tm a 8)⟩) rfl rfl (by decide) rfl ?_)
    | ((with_reducible refine atRem ?_); refine Nx.divI rfl (.inl ⟨rfl, (tm a 64)⟩) rfl rfl (by decide) rfl ?_)
    | ((with_reducible refine atRem ?_); refine Nx.divI rfl (.inl ⟨rfl, (tm b 2)⟩) rfl rfl (by decide) rfl ?_)
    | ((with_reducible refine atRem ?_); refine Nx.divI rfl (.inl ⟨rfl, (tm b 4)⟩) rfl rfl (by decide) rfl ?_)
    | ((with_reducible refine atRem ?_); refine Nx.divI rfl (.inl ⟨rfl, (tm d 8)⟩) rfl rfl (by decide) rfl ?_)
    | ((with_reducible refine atRem ?_); refine Nx.divI rfl (.inl ⟨rfl, (tm d 64)⟩) rfl rfl (by decide) rfl ?_)
    | ((with_reducible refine atQuo ?_); refine Nx.divI rfl (.inr ⟨rfl, (td b 4 (by omega))⟩) rfl rfl (by decide) rfl ?_)
    | ((with_reducible refine (atCall 33) ?_); refine Nx.call [] [] rfl rfl rfl rfl rfl (c33) rfl fun v Q hQ => ?_; obtain ⟨rfl, rfl⟩ := hQ)
    | ((with_reducible refine (atCall 34) ?_); refine Nx.call [] [] rfl rfl rfl rfl rfl (has_n (k := 11) (by decide) _ (by decide)) rfl fun v Q hQ => ?_; obtain ⟨rfl, rfl⟩ := hQ; first | rw [hd110 (k := 11) (by decide)] | rw [hd119 (k := 11) (by decide)] | rw [hd104 (k := 11) (by decide)] | rw [hd97 (k := 11) (by decide)])
    | ((with_reducible refine atOps ?_); refine go 200 ?_; conv => whnf)
    | ((with_reducible refine atPlan ?_); refine Nx.runP (n := 200) rfl (by repeat (first | exact subB.nil _ | refine subB.cons rfl ?_)) ?_; conv => whnf)
    | ((with_reducible refine atAftL ?_); refine Nx.late ?_)
    | ((fail_if_success (with_reducible refine atRet ?_)); (fail_if_success (with_reducible refine atLoop ?_)); (fail_if_success (with_reducible refine atIn ?_)); (fail_if_success (with_reducible refine atDrawn ?_)); (fail_if_success (with_reducible refine atEnd ?_)); (with_reducible refine atRun ?_); refine go 200 ?_; conv => whnf))
  refine Nx.ret [3,4] Tryz.func26 rfl rfl ?_
  rw [hk]
  exact fin none none 0 0
theorem fourR_12 (c a b d : Nat) (hc : c < 256) (ha : a < 256) (hb : b < 256) (hd : d < 256) (hk : c % 32 = 12) (hK : fourK c = 12) : FnOk Tryz.prog 26 [.int .i64 c, .int .i64 a, .int .i64 b, .int .i64 d] [] (FoPost (fourA c a b d)) := by
  have hf : fourA c a b d = ⟨12, ((a % 64 : Nat) : Int), 0, 0, 0, ⟨0, 0, 0⟩, [], []⟩ := by unfold fourA; rw [hK]; rfl
  rw [hf]
  have fin := fun A B c' d' => @FoPost.mk ⟨12, ((a % 64 : Nat) : Int), 0, 0, 0, ⟨0, 0, 0⟩, [], []⟩ A B c' d'
  simp only at fin
  have c33 := Shape_ok 12 (by decide)
  rw [show ((12 : Nat) : Int) = ((c % 32 : Nat) : Int) by rw [hk]] at c33
  refine FnOk.start Tryz.func26 rfl rfl rfl rfl fun F os tape output => ?_
  refine Nx.give 3 (ownS 3 none 0 0 1 []) (own_nil _ _ _ _) ?_
  refine Nx.give 4 (ownS 72 none 0 0 2 []) (own_nil _ _ _ _) ?_
  refine go 200 ?_
  conv => whnf
  repeat' (first
    | ((with_reducible refine atBr ?_); refine BrM.not (by omega) ?_; conv => whnf)
    | ((with_reducible refine atBr ?_); refine BrM.yes (by omega) ?_; conv => whnf)
    | ((with_reducible refine atBr ?_); (first | refine BrM.t rfl ?_ | refine BrM.f rfl ?_ | refine BrM.dec (fun _ => ?_) (fun _ => ?_) | refine BrM.mk (fun _ => ?_) (fun _ => ?_)) <;> conv => whnf)
    | ((with_reducible refine atAr ?_); refine Ar.i64 (by omega) (by omega) ?_; conv => whnf)
    | ((with_reducible refine atRem ?_); refine Nx.divI rfl (.inl ⟨rfl, (tm c 32)⟩) rfl rfl (by decide) rfl ?_)
    | ((with_reducible refine atRem ?_); refine Nx.divI rfl (.inl ⟨rfl, (tm a 7)⟩) rfl rfl (by decide) rfl ?_)
    | ((with_reducible refine atRem ?_); refine Nx.divI rfl (.inl ⟨rfl, (tm a 8)⟩) rfl rfl (by decide) rfl ?_)
    | ((with_reducible refine atRem ?_); refine Nx.divI rfl (.inl ⟨rfl, (tm a 64)⟩) rfl rfl (by decide) rfl ?_)
    | ((with_reducible refine atRem ?_); refine Nx.divI rfl (.inl ⟨rfl, (tm b 2)⟩) rfl rfl (by decide) rfl ?_)
    | ((with_reducible refine atRem ?_); refine Nx.divI rfl (.inl ⟨rfl, (tm b 4)⟩) rfl rfl (by decide) rfl ?_)
    | ((with_reducible refine atRem ?_); refine Nx.divI rfl (.inl ⟨rfl, (tm d 8)⟩) rfl rfl (by decide) rfl ?_)
    | ((with_reducible refine atRem ?_); refine Nx.divI rfl (.inl ⟨rfl, (tm d 64)⟩) rfl rfl (by decide) rfl ?_)
    | ((with_reducible refine atQuo ?_); refine Nx.divI rfl (.inr ⟨rfl, (td b 4 (by omega))⟩) rfl rfl (by decide) rfl ?_)
    | ((with_reducible refine (atCall 33) ?_); refine Nx.call [] [] rfl rfl rfl rfl rfl (c33) rfl fun v Q hQ => ?_; obtain ⟨rfl, rfl⟩ := hQ)
    | ((with_reducible refine (atCall 34) ?_); refine Nx.call [] [] rfl rfl rfl rfl rfl (has_n (k := 12) (by decide) _ (by decide)) rfl fun v Q hQ => ?_; obtain ⟨rfl, rfl⟩ := hQ; first | rw [hd110 (k := 12) (by decide)] | rw [hd119 (k := 12) (by decide)] | rw [hd104 (k := 12) (by decide)] | rw [hd97 (k := 12) (by decide)])
    | ((with_reducible refine atOps ?_); refine go 200 ?_; conv => whnf)
    | ((with_reducible refine atPlan ?_); refine Nx.runP (n := 200) rfl (by repeat (first | exact subB.nil _ | refine subB.cons rfl ?_)) ?_; conv => whnf)
    | ((with_reducible refine atAftL ?_); refine Nx.late ?_)
    | ((fail_if_success (with_reducible refine atRet ?_)); (fail_if_success (with_reducible refine atLoop ?_)); (fail_if_success (with_reducible refine atIn ?_)); (fail_if_success (with_reducible refine atDrawn ?_)); (fail_if_success (with_reducible refine atEnd ?_)); (with_reducible refine atRun ?_); refine go 200 ?_; conv => whnf))
  refine Nx.ret [3,4] Tryz.func26 rfl rfl ?_
  rw [hk]
  exact fin none none 0 0
theorem fourR_13 (c a b d : Nat) (hc : c < 256) (ha : a < 256) (hb : b < 256) (hd : d < 256) (hk : c % 32 = 13) (hK : fourK c = 13) : FnOk Tryz.prog 26 [.int .i64 c, .int .i64 a, .int .i64 b, .int .i64 d] [] (FoPost (fourA c a b d)) := by
  have hf : fourA c a b d = ⟨13, ((a % 64 : Nat) : Int), 0, 0, 0, ⟨0, 0, 0⟩, [], []⟩ := by unfold fourA; rw [hK]; rfl
  rw [hf]
  have fin := fun A B c' d' => @FoPost.mk ⟨13, ((a % 64 : Nat) : Int), 0, 0, 0, ⟨0, 0, 0⟩, [], []⟩ A B c' d'
  simp only at fin
  have c33 := Shape_ok 13 (by decide)
  rw [show ((13 : Nat) : Int) = ((c % 32 : Nat) : Int) by rw [hk]] at c33
  refine FnOk.start Tryz.func26 rfl rfl rfl rfl fun F os tape output => ?_
  refine Nx.give 3 (ownS 3 none 0 0 1 []) (own_nil _ _ _ _) ?_
  refine Nx.give 4 (ownS 72 none 0 0 2 []) (own_nil _ _ _ _) ?_
  refine go 200 ?_
  conv => whnf
  repeat' (first
    | ((with_reducible refine atBr ?_); refine BrM.not (by omega) ?_; conv => whnf)
    | ((with_reducible refine atBr ?_); refine BrM.yes (by omega) ?_; conv => whnf)
    | ((with_reducible refine atBr ?_); (first | refine BrM.t rfl ?_ | refine BrM.f rfl ?_ | refine BrM.dec (fun _ => ?_) (fun _ => ?_) | refine BrM.mk (fun _ => ?_) (fun _ => ?_)) <;> conv => whnf)
    | ((with_reducible refine atAr ?_); refine Ar.i64 (by omega) (by omega) ?_; conv => whnf)
    | ((with_reducible refine atRem ?_); refine Nx.divI rfl (.inl ⟨rfl, (tm c 32)⟩) rfl rfl (by decide) rfl ?_)
    | ((with_reducible refine atRem ?_); refine Nx.divI rfl (.inl ⟨rfl, (tm a 7)⟩) rfl rfl (by decide) rfl ?_)
    | ((with_reducible refine atRem ?_); refine Nx.divI rfl (.inl ⟨rfl, (tm a 8)⟩) rfl rfl (by decide) rfl ?_)
    | ((with_reducible refine atRem ?_); refine Nx.divI rfl (.inl ⟨rfl, (tm a 64)⟩) rfl rfl (by decide) rfl ?_)
    | ((with_reducible refine atRem ?_); refine Nx.divI rfl (.inl ⟨rfl, (tm b 2)⟩) rfl rfl (by decide) rfl ?_)
    | ((with_reducible refine atRem ?_); refine Nx.divI rfl (.inl ⟨rfl, (tm b 4)⟩) rfl rfl (by decide) rfl ?_)
    | ((with_reducible refine atRem ?_); refine Nx.divI rfl (.inl ⟨rfl, (tm d 8)⟩) rfl rfl (by decide) rfl ?_)
    | ((with_reducible refine atRem ?_); refine Nx.divI rfl (.inl ⟨rfl, (tm d 64)⟩) rfl rfl (by decide) rfl ?_)
    | ((with_reducible refine atQuo ?_); refine Nx.divI rfl (.inr ⟨rfl, (td b 4 (by omega))⟩) rfl rfl (by decide) rfl ?_)
    | ((with_reducible refine (atCall 33) ?_); refine Nx.call [] [] rfl rfl rfl rfl rfl (c33) rfl fun v Q hQ => ?_; obtain ⟨rfl, rfl⟩ := hQ)
    | ((with_reducible refine (atCall 34) ?_); refine Nx.call [] [] rfl rfl rfl rfl rfl (has_n (k := 13) (by decide) _ (by decide)) rfl fun v Q hQ => ?_; obtain ⟨rfl, rfl⟩ := hQ; first | rw [hd110 (k := 13) (by decide)] | rw [hd119 (k := 13) (by decide)] | rw [hd104 (k := 13) (by decide)] | rw [hd97 (k := 13) (by decide)])
    | ((with_reducible refine atOps ?_); refine go 200 ?_; conv => whnf)
    | ((with_reducible refine atPlan ?_); refine Nx.runP (n := 200) rfl (by repeat (first | exact subB.nil _ | refine subB.cons rfl ?_)) ?_; conv => whnf)
    | ((with_reducible refine atAftL ?_); refine Nx.late ?_)
    | ((fail_if_success (with_reducible refine atRet ?_)); (fail_if_success (with_reducible refine atLoop ?_)); (fail_if_success (with_reducible refine atIn ?_)); (fail_if_success (with_reducible refine atDrawn ?_)); (fail_if_success (with_reducible refine atEnd ?_)); (with_reducible refine atRun ?_); refine go 200 ?_; conv => whnf))
  refine Nx.ret [3,4] Tryz.func26 rfl rfl ?_
  rw [hk]
  exact fin none none 0 0
theorem fourR_14 (c a b d : Nat) (hc : c < 256) (ha : a < 256) (hb : b < 256) (hd : d < 256) (hk : c % 32 = 14) (hK : fourK c = 14) : FnOk Tryz.prog 26 [.int .i64 c, .int .i64 a, .int .i64 b, .int .i64 d] [] (FoPost (fourA c a b d)) := by
  have hf : fourA c a b d = ⟨14, ((a % 64 : Nat) : Int), 0, 0, 0, ⟨0, 0, 0⟩, [], []⟩ := by unfold fourA; rw [hK]; rfl
  rw [hf]
  have fin := fun A B c' d' => @FoPost.mk ⟨14, ((a % 64 : Nat) : Int), 0, 0, 0, ⟨0, 0, 0⟩, [], []⟩ A B c' d'
  simp only at fin
  have c33 := Shape_ok 14 (by decide)
  rw [show ((14 : Nat) : Int) = ((c % 32 : Nat) : Int) by rw [hk]] at c33
  refine FnOk.start Tryz.func26 rfl rfl rfl rfl fun F os tape output => ?_
  refine Nx.give 3 (ownS 3 none 0 0 1 []) (own_nil _ _ _ _) ?_
  refine Nx.give 4 (ownS 72 none 0 0 2 []) (own_nil _ _ _ _) ?_
  refine go 200 ?_
  conv => whnf
  repeat' (first
    | ((with_reducible refine atBr ?_); refine BrM.not (by omega) ?_; conv => whnf)
    | ((with_reducible refine atBr ?_); refine BrM.yes (by omega) ?_; conv => whnf)
    | ((with_reducible refine atBr ?_); (first | refine BrM.t rfl ?_ | refine BrM.f rfl ?_ | refine BrM.dec (fun _ => ?_) (fun _ => ?_) | refine BrM.mk (fun _ => ?_) (fun _ => ?_)) <;> conv => whnf)
    | ((with_reducible refine atAr ?_); refine Ar.i64 (by omega) (by omega) ?_; conv => whnf)
    | ((with_reducible refine atRem ?_); refine Nx.divI rfl (.inl ⟨rfl, (tm c 32)⟩) rfl rfl (by decide) rfl ?_)
    | ((with_reducible refine atRem ?_); refine Nx.divI rfl (.inl ⟨rfl, (tm a 7)⟩) rfl rfl (by decide) rfl ?_)
    | ((with_reducible refine atRem ?_); refine Nx.divI rfl (.inl ⟨rfl, (tm a 8)⟩) rfl rfl (by decide) rfl ?_)
    | ((with_reducible refine atRem ?_); refine Nx.divI rfl (.inl ⟨rfl, (tm a 64)⟩) rfl rfl (by decide) rfl ?_)
    | ((with_reducible refine atRem ?_); refine Nx.divI rfl (.inl ⟨rfl, (tm b 2)⟩) rfl rfl (by decide) rfl ?_)
    | ((with_reducible refine atRem ?_); refine Nx.divI rfl (.inl ⟨rfl, (tm b 4)⟩) rfl rfl (by decide) rfl ?_)
    | ((with_reducible refine atRem ?_); refine Nx.divI rfl (.inl ⟨rfl, (tm d 8)⟩) rfl rfl (by decide) rfl ?_)
    | ((with_reducible refine atRem ?_); refine Nx.divI rfl (.inl ⟨rfl, (tm d 64)⟩) rfl rfl (by decide) rfl ?_)
    | ((with_reducible refine atQuo ?_); refine Nx.divI rfl (.inr ⟨rfl, (td b 4 (by omega))⟩) rfl rfl (by decide) rfl ?_)
    | ((with_reducible refine (atCall 33) ?_); refine Nx.call [] [] rfl rfl rfl rfl rfl (c33) rfl fun v Q hQ => ?_; obtain ⟨rfl, rfl⟩ := hQ)
    | ((with_reducible refine (atCall 34) ?_); refine Nx.call [] [] rfl rfl rfl rfl rfl (has_n (k := 14) (by decide) _ (by decide)) rfl fun v Q hQ => ?_; obtain ⟨rfl, rfl⟩ := hQ; first | rw [hd110 (k := 14) (by decide)] | rw [hd119 (k := 14) (by decide)] | rw [hd104 (k := 14) (by decide)] | rw [hd97 (k := 14) (by decide)])
    | ((with_reducible refine atOps ?_); refine go 200 ?_; conv => whnf)
    | ((with_reducible refine atPlan ?_); refine Nx.runP (n := 200) rfl (by repeat (first | exact subB.nil _ | refine subB.cons rfl ?_)) ?_; conv => whnf)
    | ((with_reducible refine atAftL ?_); refine Nx.late ?_)
    | ((fail_if_success (with_reducible refine atRet ?_)); (fail_if_success (with_reducible refine atLoop ?_)); (fail_if_success (with_reducible refine atIn ?_)); (fail_if_success (with_reducible refine atDrawn ?_)); (fail_if_success (with_reducible refine atEnd ?_)); (with_reducible refine atRun ?_); refine go 200 ?_; conv => whnf))
  refine Nx.ret [3,4] Tryz.func26 rfl rfl ?_
  rw [hk]
  exact fin none none 0 0
theorem fourR_15 (c a b d : Nat) (hc : c < 256) (ha : a < 256) (hb : b < 256) (hd : d < 256) (hk : c % 32 = 15) (hK : fourK c = 15) : FnOk Tryz.prog 26 [.int .i64 c, .int .i64 a, .int .i64 b, .int .i64 d] [] (FoPost (fourA c a b d)) := by
  have hf : fourA c a b d = ⟨15, 0, 0, 0, (b : Int), ⟨0, 0, 0⟩, [], []⟩ := by unfold fourA; rw [hK]; rfl
  rw [hf]
  have fin := fun A B c' d' => @FoPost.mk ⟨15, 0, 0, 0, (b : Int), ⟨0, 0, 0⟩, [], []⟩ A B c' d'
  simp only at fin
  have c33 := Shape_ok 15 (by decide)
  rw [show ((15 : Nat) : Int) = ((c % 32 : Nat) : Int) by rw [hk]] at c33
  refine FnOk.start Tryz.func26 rfl rfl rfl rfl fun F os tape output => ?_
  refine Nx.give 3 (ownS 3 none 0 0 1 []) (own_nil _ _ _ _) ?_
  refine Nx.give 4 (ownS 72 none 0 0 2 []) (own_nil _ _ _ _) ?_
  refine go 200 ?_
  conv => whnf
  repeat' (first
    | ((with_reducible refine atBr ?_); refine BrM.not (by omega) ?_; conv => whnf)
    | ((with_reducible refine atBr ?_); refine BrM.yes (by omega) ?_; conv => whnf)
    | ((with_reducible refine atBr ?_); (first | refine BrM.t rfl ?_ | refine BrM.f rfl ?_ | refine BrM.dec (fun _ => ?_) (fun _ => ?_) | refine BrM.mk (fun _ => ?_) (fun _ => ?_)) <;> conv => whnf)
    | ((with_reducible refine atAr ?_); refine Ar.i64 (by omega) (by omega) ?_; conv => whnf)
    | ((with_reducible refine atRem ?_); refine Nx.divI rfl (.inl ⟨rfl, (tm c 32)⟩) rfl rfl (by decide) rfl ?_)
    | ((with_reducible refine atRem ?_); refine Nx.divI rfl (.inl ⟨rfl, (tm a 7)⟩) rfl rfl (by decide) rfl ?_)
    | ((with_reducible refine atRem ?_); refine Nx.divI rfl (.inl ⟨rfl, (tm a 8)⟩) rfl rfl (by decide) rfl ?_)
    | ((with_reducible refine atRem ?_); refine Nx.divI rfl (.inl ⟨rfl, (tm a 64)⟩) rfl rfl (by decide) rfl ?_)
    | ((with_reducible refine atRem ?_); refine Nx.divI rfl (.inl ⟨rfl, (tm b 2)⟩) rfl rfl (by decide) rfl ?_)
    | ((with_reducible refine atRem ?_); refine Nx.divI rfl (.inl ⟨rfl, (tm b 4)⟩) rfl rfl (by decide) rfl ?_)
    | ((with_reducible refine atRem ?_); refine Nx.divI rfl (.inl ⟨rfl, (tm d 8)⟩) rfl rfl (by decide) rfl ?_)
    | ((with_reducible refine atRem ?_); refine Nx.divI rfl (.inl ⟨rfl, (tm d 64)⟩) rfl rfl (by decide) rfl ?_)
    | ((with_reducible refine atQuo ?_); refine Nx.divI rfl (.inr ⟨rfl, (td b 4 (by omega))⟩) rfl rfl (by decide) rfl ?_)
    | ((with_reducible refine (atCall 33) ?_); refine Nx.call [] [] rfl rfl rfl rfl rfl (c33) rfl fun v Q hQ => ?_; obtain ⟨rfl, rfl⟩ := hQ)
    | ((with_reducible refine (atCall 34) ?_); refine Nx.call [] [] rfl rfl rfl rfl rfl (has_n (k := 15) (by decide) _ (by decide)) rfl fun v Q hQ => ?_; obtain ⟨rfl, rfl⟩ := hQ; first | rw [hd110 (k := 15) (by decide)] | rw [hd119 (k := 15) (by decide)] | rw [hd104 (k := 15) (by decide)] | rw [hd97 (k := 15) (by decide)])
    | ((with_reducible refine atOps ?_); refine go 200 ?_; conv => whnf)
    | ((with_reducible refine atPlan ?_); refine Nx.runP (n := 200) rfl (by repeat (first | exact subB.nil _ | refine subB.cons rfl ?_)) ?_; conv => whnf)
    | ((with_reducible refine atAftL ?_); refine Nx.late ?_)
    | ((fail_if_success (with_reducible refine atRet ?_)); (fail_if_success (with_reducible refine atLoop ?_)); (fail_if_success (with_reducible refine atIn ?_)); (fail_if_success (with_reducible refine atDrawn ?_)); (fail_if_success (with_reducible refine atEnd ?_)); (with_reducible refine atRun ?_); refine go 200 ?_; conv => whnf))
  refine Nx.ret [3,4] Tryz.func26 rfl rfl ?_
  rw [hk]
  exact fin none none 0 0
theorem fourR_16 (c a b d : Nat) (hc : c < 256) (ha : a < 256) (hb : b < 256) (hd : d < 256) (hk : 16 ≤ c % 32) (hK : fourK c = 16) : FnOk Tryz.prog 26 [.int .i64 c, .int .i64 a, .int .i64 b, .int .i64 d] [] (FoPost (fourA c a b d)) := by
  have hf : fourA c a b d = ⟨16, 0, 0, (a : Int) + 256 * (b : Int), 0, ⟨0, 0, 0⟩, [], []⟩ := by unfold fourA; rw [hK]; rfl
  rw [hf]
  have fin := fun A B c' d' => @FoPost.mk ⟨16, 0, 0, (a : Int) + 256 * (b : Int), 0, ⟨0, 0, 0⟩, [], []⟩ A B c' d'
  simp only at fin
  have c33 := Shape_ok 16 (by decide)
  refine FnOk.start Tryz.func26 rfl rfl rfl rfl fun F os tape output => ?_
  refine Nx.give 3 (ownS 3 none 0 0 1 []) (own_nil _ _ _ _) ?_
  refine Nx.give 4 (ownS 72 none 0 0 2 []) (own_nil _ _ _ _) ?_
  refine go 200 ?_
  conv => whnf
  by_cases he : c % 32 = 16
  · rw [show ((16 : Nat) : Int) = ((c % 32 : Nat) : Int) by rw [he]] at c33
    repeat' (first
      | ((with_reducible refine atBr ?_); refine BrM.not (by omega) ?_; conv => whnf)
      | ((with_reducible refine atBr ?_); refine BrM.yes (by omega) ?_; conv => whnf)
      | ((with_reducible refine atBr ?_); (first | refine BrM.t rfl ?_ | refine BrM.f rfl ?_ | refine BrM.dec (fun _ => ?_) (fun _ => ?_) | refine BrM.mk (fun _ => ?_) (fun _ => ?_)) <;> conv => whnf)
      | ((with_reducible refine atAr ?_); refine Ar.i64 (by omega) (by omega) ?_; conv => whnf)
      | ((with_reducible refine atRem ?_); refine Nx.divI rfl (.inl ⟨rfl, (tm c 32)⟩) rfl rfl (by decide) rfl ?_)
      | ((with_reducible refine atRem ?_); refine Nx.divI rfl (.inl ⟨rfl, (tm a 7)⟩) rfl rfl (by decide) rfl ?_)
      | ((with_reducible refine atRem ?_); refine Nx.divI rfl (.inl ⟨rfl, (tm a 8)⟩) rfl rfl (by decide) rfl ?_)
      | ((with_reducible refine atRem ?_); refine Nx.divI rfl (.inl ⟨rfl, (tm a 64)⟩) rfl rfl (by decide) rfl ?_)
      | ((with_reducible refine atRem ?_); refine Nx.divI rfl (.inl ⟨rfl, (tm b 2)⟩) rfl rfl (by decide) rfl ?_)
      | ((with_reducible refine atRem ?_); refine Nx.divI rfl (.inl ⟨rfl, (tm b 4)⟩) rfl rfl (by decide) rfl ?_)
      | ((with_reducible refine atRem ?_); refine Nx.divI rfl (.inl ⟨rfl, (tm d 8)⟩) rfl rfl (by decide) rfl ?_)
      | ((with_reducible refine atRem ?_); refine Nx.divI rfl (.inl ⟨rfl, (tm d 64)⟩) rfl rfl (by decide) rfl ?_)
      | ((with_reducible refine atQuo ?_); refine Nx.divI rfl (.inr ⟨rfl, (td b 4 (by omega))⟩) rfl rfl (by decide) rfl ?_)
      | ((with_reducible refine (atCall 33) ?_); refine Nx.call [] [] rfl rfl rfl rfl rfl (c33) rfl fun v Q hQ => ?_; obtain ⟨rfl, rfl⟩ := hQ)
      | ((with_reducible refine (atCall 34) ?_); refine Nx.call [] [] rfl rfl rfl rfl rfl (has_n (k := 16) (by decide) _ (by decide)) rfl fun v Q hQ => ?_; obtain ⟨rfl, rfl⟩ := hQ; first | rw [hd110 (k := 16) (by decide)] | rw [hd119 (k := 16) (by decide)] | rw [hd104 (k := 16) (by decide)] | rw [hd97 (k := 16) (by decide)])
      | ((with_reducible refine atOps ?_); refine go 200 ?_; conv => whnf)
      | ((with_reducible refine atPlan ?_); refine Nx.runP (n := 200) rfl (by repeat (first | exact subB.nil _ | refine subB.cons rfl ?_)) ?_; conv => whnf)
      | ((with_reducible refine atAftL ?_); refine Nx.late ?_)
      | ((fail_if_success (with_reducible refine atRet ?_)); (fail_if_success (with_reducible refine atLoop ?_)); (fail_if_success (with_reducible refine atIn ?_)); (fail_if_success (with_reducible refine atDrawn ?_)); (fail_if_success (with_reducible refine atEnd ?_)); (with_reducible refine atRun ?_); refine go 200 ?_; conv => whnf))
    refine Nx.ret [3,4] Tryz.func26 rfl rfl ?_
    rw [he]
    exact fin none none 0 0
  · repeat' (first
      | ((with_reducible refine atBr ?_); refine BrM.not (by omega) ?_; conv => whnf)
      | ((with_reducible refine atBr ?_); refine BrM.yes (by omega) ?_; conv => whnf)
      | ((with_reducible refine atBr ?_); (first | refine BrM.t rfl ?_ | refine BrM.f rfl ?_ | refine BrM.dec (fun _ => ?_) (fun _ => ?_) | refine BrM.mk (fun _ => ?_) (fun _ => ?_)) <;> conv => whnf)
      | ((with_reducible refine atAr ?_); refine Ar.i64 (by omega) (by omega) ?_; conv => whnf)
      | ((with_reducible refine atRem ?_); refine Nx.divI rfl (.inl ⟨rfl, (tm c 32)⟩) rfl rfl (by decide) rfl ?_)
      | ((with_reducible refine atRem ?_); refine Nx.divI rfl (.inl ⟨rfl, (tm a 7)⟩) rfl rfl (by decide) rfl ?_)
      | ((with_reducible refine atRem ?_); refine Nx.divI rfl (.inl ⟨rfl, (tm a 8)⟩) rfl rfl (by decide) rfl ?_)
      | ((with_reducible refine atRem ?_); refine Nx.divI rfl (.inl ⟨rfl, (tm a 64)⟩) rfl rfl (by decide) rfl ?_)
      | ((with_reducible refine atRem ?_); refine Nx.divI rfl (.inl ⟨rfl, (tm b 2)⟩) rfl rfl (by decide) rfl ?_)
      | ((with_reducible refine atRem ?_); refine Nx.divI rfl (.inl ⟨rfl, (tm b 4)⟩) rfl rfl (by decide) rfl ?_)
      | ((with_reducible refine atRem ?_); refine Nx.divI rfl (.inl ⟨rfl, (tm d 8)⟩) rfl rfl (by decide) rfl ?_)
      | ((with_reducible refine atRem ?_); refine Nx.divI rfl (.inl ⟨rfl, (tm d 64)⟩) rfl rfl (by decide) rfl ?_)
      | ((with_reducible refine atQuo ?_); refine Nx.divI rfl (.inr ⟨rfl, (td b 4 (by omega))⟩) rfl rfl (by decide) rfl ?_)
      | ((with_reducible refine (atCall 33) ?_); refine Nx.call [] [] rfl rfl rfl rfl rfl (c33) rfl fun v Q hQ => ?_; obtain ⟨rfl, rfl⟩ := hQ)
      | ((with_reducible refine (atCall 34) ?_); refine Nx.call [] [] rfl rfl rfl rfl rfl (has_n (k := 16) (by decide) _ (by decide)) rfl fun v Q hQ => ?_; obtain ⟨rfl, rfl⟩ := hQ; first | rw [hd110 (k := 16) (by decide)] | rw [hd119 (k := 16) (by decide)] | rw [hd104 (k := 16) (by decide)] | rw [hd97 (k := 16) (by decide)])
      | ((with_reducible refine atOps ?_); refine go 200 ?_; conv => whnf)
      | ((with_reducible refine atPlan ?_); refine Nx.runP (n := 200) rfl (by repeat (first | exact subB.nil _ | refine subB.cons rfl ?_)) ?_; conv => whnf)
      | ((with_reducible refine atAftL ?_); refine Nx.late ?_)
      | ((fail_if_success (with_reducible refine atRet ?_)); (fail_if_success (with_reducible refine atLoop ?_)); (fail_if_success (with_reducible refine atIn ?_)); (fail_if_success (with_reducible refine atDrawn ?_)); (fail_if_success (with_reducible refine atEnd ?_)); (with_reducible refine atRun ?_); refine go 200 ?_; conv => whnf))
    refine Nx.ret [3,4] Tryz.func26 rfl rfl ?_
    exact fin none none 0 0
theorem fourR_ok (c a b d : Nat) (hc : c < 256) (ha : a < 256) (hb : b < 256) (hd : d < 256) : FnOk Tryz.prog 26 [.int .i64 c, .int .i64 a, .int .i64 b, .int .i64 d] [] (FoPost (fourA c a b d)) := by
  by_cases h16 : c % 32 < 16
  · have hK : fourK c = c % 32 := by unfold fourK; rw [if_pos h16]
    obtain ⟨k, hk⟩ : ∃ k, k = c % 32 := ⟨_, rfl⟩
    rw [← hk] at h16 hK
    match k, h16, hk, hK with
    | 0, _, hk, hK => exact fourR_0 c a b d hc ha hb hd hk.symm hK
    | 1, _, hk, hK => exact fourR_1 c a b d hc ha hb hd hk.symm hK
    | 2, _, hk, hK => exact fourR_2 c a b d hc ha hb hd hk.symm hK
    | 3, _, hk, hK => exact fourR_3 c a b d hc ha hb hd hk.symm hK
    | 4, _, hk, hK => exact fourR_4 c a b d hc ha hb hd hk.symm hK
    | 5, _, hk, hK => exact fourR_5 c a b d hc ha hb hd hk.symm hK
    | 6, _, hk, hK => exact fourR_6 c a b d hc ha hb hd hk.symm hK
    | 7, _, hk, hK => exact fourR_7 c a b d hc ha hb hd hk.symm hK
    | 8, _, hk, hK => exact fourR_8 c a b d hc ha hb hd hk.symm hK
    | 9, _, hk, hK => exact fourR_9 c a b d hc ha hb hd hk.symm hK
    | 10, _, hk, hK => exact fourR_10 c a b d hc ha hb hd hk.symm hK
    | 11, _, hk, hK => exact fourR_11 c a b d hc ha hb hd hk.symm hK
    | 12, _, hk, hK => exact fourR_12 c a b d hc ha hb hd hk.symm hK
    | 13, _, hk, hK => exact fourR_13 c a b d hc ha hb hd hk.symm hK
    | 14, _, hk, hK => exact fourR_14 c a b d hc ha hb hd hk.symm hK
    | 15, _, hk, hK => exact fourR_15 c a b d hc ha hb hd hk.symm hK
    | k + 16, h, _, _ => exact absurd h (by omega)
  · exact fourR_16 c a b d hc ha hb hd (by omega) (by unfold fourK; rw [if_neg h16])
end Go.Proofs.YtkfnbpbhcnekiaaGreatDoor

/- ScriptBytes, walked. -/
namespace Go.Proofs.YtkfnbpbhcnekiaaGreatDoor
open Go.RowKit Go.Lib
set_option maxRecDepth 20000
set_option maxHeartbeats 4000000
section
variable {g : Cx} {env : Env} {mem : Mem} {bnd : Bnd} {L : Res} {N : Act → World → Prop} {Q : Exit → Act → World → Prop} {T : World → Prop}
theorem Nx.hoConvI {o : Oper} {src dst : TypeId} {x : Operand} {k k' kd : IntKind} {i r : Int} (ho : o.op = .convert src dst x) (hx : ev env x = some (.c (.v (.int k i)))) (hs : g.P.underlying src = some (.int k')) (hdt : g.P.underlying dst = some (.int kd)) (hd : dstOk g.n o.dst = true)
    (hr : kd.wrap i = r) (hk : Nx g (putE o.dst (.c (.v (.int kd r))) env) mem bnd L N) : Nx g env mem bnd L (HoC g T o N) := by
  subst hr
  refine Nx.hoVal (x := .c (.v (.int kd (kd.wrap i)))) hd (fun β a w hr w' => ?_) hk
  have e1 : a.eval x = .int k i := hr.ev hx
  simp [execOp, ho, e1, convert, run_underlying hs, run_underlying hdt, Conv.intToInt, SV.den, Ce.den]
end
attribute [local irreducible] Nx Ar BrM
theorem conv8 (x : UInt8) : IntKind.i64.wrap (x.toNat : Int) = (x.toNat : Int) := by
  have := x.toNat_lt
  exact inR_wrap (k := .i64) ⟨by omega, by omega⟩
def fromA : List UInt8 → List Ln
  | c :: a :: b :: d :: r => fourA c.toNat a.toNat b.toNat d.toNat :: fromA r
  | _ => []
theorem u8_len (b : UInt8) : ([Value.int .u8 b.toNat] : List Value).length = 1 := rfl
theorem u8_flat (l : List UInt8) : (l.flatMap fun b : UInt8 => [Value.int .u8 b.toNat]) = u8s l := by
  induction l with
  | nil => rfl
  | cons x l ih => simp [ih]
structure FrX where
  L : List LnS
  A : Option Addr
  c : Nat
  l : List UInt8
  W : Option Addr
  wc : Nat
structure FrI (l0 : List UInt8) (x : FrX) : Prop where
  e : fromA l0 = x.L.map (·.o) ++ fromA x.l
  n : x.L.length ≤ l0.length
  m : x.L.length + x.l.length ≤ l0.length
  c : x.l.length ≤ x.wc
theorem rd_cut4 {W : Option Addr} {wc : Nat} {c a b d : UInt8} {r : List UInt8} (hc : (c :: a :: b :: d :: r).length ≤ wc) : ∀ r' h, rdS W (c :: a :: b :: d :: r).length 1 (u8s (c :: a :: b :: d :: r)) r' h → rdS (resl W 4 wc 1) r.length 1 (u8s r) r' h := by
  intro r' h hs
  have h1 := Sees.part (S := rdS W (c :: a :: b :: d :: r).length 1 (u8s (c :: a :: b :: d :: r))) (l := 4) (h := (c :: a :: b :: d :: r).length) (m := wc) (rdS_sees _ _ _ _) (by simp) (Nat.le_refl _) hc r' PH.em (PH.dj_em _) hs
  have e : (r'.un PH.em) = r' := by funext n; unfold PH.un; cases r' n <;> rfl
  rw [e] at h1
  have e2 : ((u8s (c :: a :: b :: d :: r)).drop (4 * 1)).take (((c :: a :: b :: d :: r).length - 4) * 1) = u8s r := by
    show (u8s r).take _ = _
    exact List.take_of_length_le (by simp)
  rw [e2] at h1
  exact h1
theorem From_ok {m : PH} (A : Option Addr) (c : Nat) (l : List UInt8) (hR : Rd m A l.length 1 (u8s l)) (hc : l.length ≤ c) (hl : l.length ≤ 100000) : FnOk Tryz.prog 25 [.slice A l.length c] [roAll m]
    (fun v Q => ∃ (L : List LnS) (B : Option Addr) (d : Nat), L.map (·.o) = fromA l ∧ v = .slice B L.length d ∧ Q = [roAll m, ownS 37 B L.length d 10 (L.flatMap LnS.enc), rdAll L]) := by
  refine FnOk.start Tryz.func25 rfl rfl rfl rfl fun F os tape output => ?_
  refine Nx.also 0 1 (rdS A l.length 1 (u8s l)) rfl (fun r h hs => hR.mono hs) ?_
  refine Nx.give 5 (ownS 37 none 0 0 10 []) (own_nil _ _ _ _) ?_
  refine Nx.give 6 (rdAll []) (rdAll_nil _ _) ?_
  refine go 200 ?_
  conv => whnf
  refine Nx.loop (X := FrX) (FrI l) (fun x => x.l.length)
    (fun x => [(0, sl x.W x.l.length x.wc), (3, sl x.A x.L.length x.c)]) (fun _ => []) [] (fun x => [(0, roAll m), (1, rdS x.W x.l.length 1 (u8s x.l)), (5, ownS 37 x.A x.L.length x.c 10 (x.L.flatMap LnS.enc)), (6, rdAll x.L)]) ⟨[], none, 0, l, A, c⟩ ⟨rfl, Nat.zero_le _, by simp, hc⟩ ?_ ?_ ?_ ?_ ?_
  · repeat (first | exact subE.nil _ | refine subE.cons rfl rfl ?_ | refine subE.cons' rfl (fun _ => rfl) ?_)
  · repeat (first | exact subM.nil _ | refine subM.cons rfl rfl rfl ?_)
  · repeat (first | exact subB.nil _ | refine subB.cons rfl ?_)
  · repeat (first | exact subR.nil _ | refine subR.cons rfl rfl ?_)
  intro x hx ih
  obtain ⟨L, B, e, l1, W, wc⟩ := x
  obtain ⟨he, hn, hm, hwc⟩ := hx
  simp only at he hn hm hwc ih ⊢
  have fin : l1.length < 4 → fromA l = L.map (·.o) := fun h => by
    have : fromA l1 = [] := by
      match l1, h with
      | [], _ => rfl
      | [_], _ => rfl
      | [_, _], _ => rfl
      | [_, _, _], _ => rfl
      | _ :: _ :: _ :: _ :: _, h => simp at h; omega
    rw [he, this, List.append_nil]
  by_cases h4 : l1.length < 4
  · have hf := fin h4
    repeat' (first
      | ((with_reducible refine atBr ?_); refine BrM.not (by omega) ?_; conv => whnf)
      | ((with_reducible refine atBr ?_); (first | refine BrM.t rfl ?_ | refine BrM.f rfl ?_ | refine BrM.dec (fun _ => ?_) (fun _ => ?_) | refine BrM.mk (fun _ => ?_) (fun _ => ?_)) <;> conv => whnf)
      | ((with_reducible refine atAr ?_); refine Ar.i64 (by omega) (by omega) ?_; conv => whnf)
      | ((with_reducible refine atRet ?_); refine Nx.ret [0,5,6] Tryz.func25 rfl rfl ?_; (exact ⟨L, B, e, hf.symm, rfl, rfl⟩))
      | ((with_reducible refine atOps ?_); refine go 200 ?_; conv => whnf)
      | ((with_reducible refine atPlan ?_); refine Nx.runP (n := 200) rfl (by repeat (first | exact subB.nil _ | refine subB.cons rfl ?_)) ?_; conv => whnf)
      | ((with_reducible refine atAftL ?_); refine Nx.late ?_)
      | ((fail_if_success (with_reducible refine atRet ?_)); (fail_if_success (with_reducible refine atLoop ?_)); (fail_if_success (with_reducible refine atIn ?_)); (fail_if_success (with_reducible refine atDrawn ?_)); (fail_if_success (with_reducible refine atEnd ?_)); (with_reducible refine atRun ?_); refine go 200 ?_; conv => whnf))
  · match l1, h4, he, hm, hwc, ih with
    | c :: a :: b :: d :: r, _, he, hm, hwc, ih =>
      have hlen : (c :: a :: b :: d :: r).length = r.length + 4 := rfl
      have hsee : Sees (rdS W (c :: a :: b :: d :: r).length 1 (u8s (c :: a :: b :: d :: r))) W (c :: a :: b :: d :: r).length 1 ((c :: a :: b :: d :: r).flatMap fun b : UInt8 => [Value.int .u8 b.toNat]) := by rw [u8_flat]; exact rdS_sees _ _ _ _
      have q0 : ((c :: a :: b :: d :: r)[0]).toNat < 256 := c.toNat_lt
      have q1 : ((c :: a :: b :: d :: r)[1]).toNat < 256 := a.toNat_lt
      have q2 : ((c :: a :: b :: d :: r)[2]).toNat < 256 := b.toNat_lt
      have q3 : ((c :: a :: b :: d :: r)[3]).toNat < 256 := d.toNat_lt
      have hF : FnOk Tryz.prog 52 [.int .i64 ((c :: a :: b :: d :: r)[0]).toNat, .int .i64 ((c :: a :: b :: d :: r)[1]).toNat, .int .i64 ((c :: a :: b :: d :: r)[2]).toNat, .int .i64 ((c :: a :: b :: d :: r)[3]).toNat] [] (FoPost (fourA c.toNat a.toNat b.toNat d.toNat)) := four_ok c.toNat a.toNat b.toNat d.toNat c.toNat_lt a.toNat_lt b.toNat_lt d.toNat_lt
      repeat' (first
        | ((with_reducible refine atBr ?_); refine BrM.yes (by omega) ?_; conv => whnf)
        | ((with_reducible refine atBr ?_); (first | refine BrM.t rfl ?_ | refine BrM.f rfl ?_ | refine BrM.dec (fun _ => ?_) (fun _ => ?_) | refine BrM.mk (fun _ => ?_) (fun _ => ?_)) <;> conv => whnf)
        | ((with_reducible refine atAr ?_); refine Ar.i64 (by omega) (by omega) ?_; conv => whnf)
        | ((with_reducible refine atDrawn ?_); refine Nx.drawn0 [1] [.pure 0, .pure 1, .pure 2, .held 3, .pure 4, .pure 5, .pure 6, .held 7, .pure 8, .pure 9, .pure 10, .held 11, .pure 12, .pure 13, .pure 14, .held 15, .pure 16, .ex 17 true, .ex 18 true, .ex 19 true, .pure 20] rfl (by kernel_rfl) rfl (by kernel_rfl) rfl (by repeat (first | exact subB.nil _ | refine subB.cons rfl ?_)) rfl ?_)
        | ((with_reducible refine atHoIdx ?_); refine Nx.hoIdx 1 (j := 0) rfl rfl rfl Tryz.underlying66 rfl rfl rfl u8_len hsee rfl (by omega) (by omega) fun _ _ _ => ?_)
        | ((with_reducible refine atHoIdx ?_); refine Nx.hoIdx 1 (j := 1) rfl rfl rfl Tryz.underlying66 rfl rfl rfl u8_len hsee rfl (by omega) (by omega) fun _ _ _ => ?_)
        | ((with_reducible refine atHoIdx ?_); refine Nx.hoIdx 1 (j := 2) rfl rfl rfl Tryz.underlying66 rfl rfl rfl u8_len hsee rfl (by omega) (by omega) fun _ _ _ => ?_)
        | ((with_reducible refine atHoIdx ?_); refine Nx.hoIdx 1 (j := 3) rfl rfl rfl Tryz.underlying66 rfl rfl rfl u8_len hsee rfl (by omega) (by omega) fun _ _ _ => ?_)
        | ((with_reducible refine atHoLoad ?_); first | (refine Nx.hoLoad1 rfl rfl rfl rfl List.mem_cons_self (SeesAt.sub (by assumption) _ rfl) rfl ?_) | (refine Nx.hoLoad1 rfl rfl rfl rfl List.mem_cons_self (by assumption) rfl ?_) | (refine Nx.hoLoad rfl rfl rfl rfl List.mem_cons_self (by assumption) rfl rfl ?_) | (refine Nx.hoLoad1 rfl rfl rfl rfl (List.mem_cons_of_mem _ List.mem_cons_self) (SeesAt.sub (by assumption) _ rfl) rfl ?_) | (refine Nx.hoLoad1 rfl rfl rfl rfl (List.mem_cons_of_mem _ List.mem_cons_self) (by assumption) rfl ?_) | (refine Nx.hoLoad rfl rfl rfl rfl (List.mem_cons_of_mem _ List.mem_cons_self) (by assumption) rfl rfl ?_) | (refine Nx.hoLoad1 rfl rfl rfl rfl (List.mem_cons_of_mem _ (List.mem_cons_of_mem _ List.mem_cons_self)) (SeesAt.sub (by assumption) _ rfl) rfl ?_) | (refine Nx.hoLoad1 rfl rfl rfl rfl (List.mem_cons_of_mem _ (List.mem_cons_of_mem _ List.mem_cons_self)) (by assumption) rfl ?_) | (refine Nx.hoLoad rfl rfl rfl rfl (List.mem_cons_of_mem _ (List.mem_cons_of_mem _ List.mem_cons_self)) (by assumption) rfl rfl ?_) | (refine Nx.hoLoad1 rfl rfl rfl rfl (List.mem_cons_of_mem _ (List.mem_cons_of_mem _ (List.mem_cons_of_mem _ List.mem_cons_self))) (SeesAt.sub (by assumption) _ rfl) rfl ?_) | (refine Nx.hoLoad1 rfl rfl rfl rfl (List.mem_cons_of_mem _ (List.mem_cons_of_mem _ (List.mem_cons_of_mem _ List.mem_cons_self))) (by assumption) rfl ?_) | (refine Nx.hoLoad rfl rfl rfl rfl (List.mem_cons_of_mem _ (List.mem_cons_of_mem _ (List.mem_cons_of_mem _ List.mem_cons_self))) (by assumption) rfl rfl ?_))
        | ((with_reducible refine atOps ?_); refine go 200 ?_; conv => whnf)
        | ((with_reducible refine atPlan ?_); refine Nx.runP (n := 200) rfl (by repeat (first | exact subB.nil _ | refine subB.cons rfl ?_)) ?_; conv => whnf)
        | ((with_reducible refine atAftL ?_); refine Nx.late ?_)
        | ((fail_if_success (with_reducible refine atRet ?_)); (fail_if_success (with_reducible refine atLoop ?_)); (fail_if_success (with_reducible refine atIn ?_)); (fail_if_success (with_reducible refine atDrawn ?_)); (fail_if_success (with_reducible refine atEnd ?_)); (with_reducible refine atRun ?_); refine go 200 ?_; conv => whnf))
      refine Nx.call [] [13,14] rfl rfl rfl rfl rfl (hF) rfl fun v Q hQ => ?_
      obtain ⟨A2, c2, B2, d2, rfl, rfl⟩ := hQ
      obtain ⟨y, hy⟩ : ∃ y, y = fourA c.toNat a.toNat b.toNat d.toNat := ⟨_, rfl⟩
      have hfr : fromA (c :: a :: b :: d :: r) = y :: fromA r := by rw [hy]; rfl
      rw [← hy]
      refine Nx.share 13 (rdS A2 y.after.length 1 (intsV y.after)) rfl own_share ?_
      refine Nx.share 14 (rdS B2 y.evs.length 2 (evsV y.evs)) rfl own_share ?_
      refine Nx.turn [6,13,14] [6] [rdAll (L ++ [⟨y, A2, c2, B2, d2⟩])] rfl (rdAll_more (L := L) (x := ⟨y, A2, c2, B2, d2⟩)) ?_
      repeat' (first
        | ((with_reducible refine atBr ?_); (first | refine BrM.t rfl ?_ | refine BrM.f rfl ?_ | refine BrM.dec (fun _ => ?_) (fun _ => ?_) | refine BrM.mk (fun _ => ?_) (fun _ => ?_)) <;> conv => whnf)
        | ((with_reducible refine atAr ?_); refine Ar.i64 (by omega) (by omega) ?_; conv => whnf)
        | ((with_reducible refine atAftK ?_); refine Nx.keepN [1] rfl (by repeat (first | exact subB.nil _ | refine subB.cons rfl ?_)) (by repeat (first | exact subM.nil _ | refine subM.cons rfl rfl rfl ?_)) rfl ?_)
        | ((with_reducible refine atApp ?_); refine Nx.append 5 (sz := 10) (by_ := 112) (news := (lnC y A2 c2 B2 d2)) rfl rfl rfl rfl rfl Tryz.underlying60 rfl rfl rfl rfl rfl (by unfold maxLen; omega) (by omega) fun A' c'' => ?_)
        | ((with_reducible refine atSlice ?_); refine Nx.reslice (l := 4) (h := (r.length + 4)) (m := wc) rfl rfl Tryz.underlying66 rfl rfl (rfl) (rfl) (rfl) (by simp) (by omega) (by omega) (by omega) ?_)
        | ((with_reducible refine atOps ?_); refine go 200 ?_; conv => whnf)
        | ((with_reducible refine atPlan ?_); refine Nx.runP (n := 200) rfl (by repeat (first | exact subB.nil _ | refine subB.cons rfl ?_)) ?_; conv => whnf)
        | ((with_reducible refine atAftL ?_); refine Nx.late ?_)
        | ((fail_if_success (with_reducible refine atRet ?_)); (fail_if_success (with_reducible refine atLoop ?_)); (fail_if_success (with_reducible refine atIn ?_)); (fail_if_success (with_reducible refine atDrawn ?_)); (fail_if_success (with_reducible refine atEnd ?_)); (with_reducible refine atRun ?_); refine go 200 ?_; conv => whnf))
      refine Nx.turn [1] [1] [rdS (resl W 4 wc 1) r.length 1 (u8s r)] rfl (fun r' h hs => ?_) ?_
      · obtain ⟨r1, h1, h2, a1, a2, a3, a4, a5, a6⟩ := hs
        exact ⟨r1, h1, h2, a1, a2, a3, a4, rd_cut4 hwc _ _ a5, a6⟩
      refine (ih ⟨L ++ [⟨y, A2, c2, B2, d2⟩], A', c'', r, resl W 4 wc 1, wc - 4⟩ ⟨by rw [he, hfr]; simp, by simp only [List.length_append, List.length_singleton]; omega, by simp only [List.length_append, List.length_singleton]; omega, by show r.length ≤ wc - 4; omega⟩ (by show r.length < (c :: a :: b :: d :: r).length; omega)).weak ?_ ?_ ?_ ?_
      · exact .cons rfl rfl (.cons rfl (by simp) (.nil _))
      · repeat (first | exact subM.nil _ | refine subM.cons rfl rfl rfl ?_)
      · repeat (first | exact subB.nil _ | refine subB.cons rfl ?_)
      · exact .cons rfl rfl (.cons rfl rfl (.cons rfl (by simp) (.cons rfl rfl (.nil _))))
    | [], h, _, _, _, _ => exact absurd (by simp) h
    | [_], h, _, _, _, _ => exact absurd (by simp) h
    | [_, _], h, _, _, _, _ => exact absurd (by simp) h
    | [_, _, _], h, _, _, _, _ => exact absurd (by simp) h
end Go.Proofs.YtkfnbpbhcnekiaaGreatDoor

/- ScriptBytes: the law. -/
namespace Go.Proofs.YtkfnbpbhcnekiaaGreatDoor
open Go.RowKit Go.Lib
attribute [local irreducible] Nx Ar BrM Int.tmod Int.tdiv
set_option maxRecDepth 20000
set_option maxHeartbeats 4000000

theorem fromA_len : ∀ l : List UInt8, (fromA l).length = l.length / 4
  | [] => rfl
  | [_] => by simp [fromA]
  | [_, _] => by simp [fromA]
  | [_, _, _] => by simp [fromA]
  | c :: a :: b :: d :: r => by
    have := fromA_len r
    rw [fromA]; simp only [List.length_cons, this]; omega
theorem fromA_get : ∀ (l : List UInt8) (k : Nat) (h : 4 * k + 3 < l.length), (fromA l)[k]? = some (fourA (l[4 * k]'(by omega)).toNat (l[4 * k + 1]'(by omega)).toNat (l[4 * k + 2]'(by omega)).toNat (l[4 * k + 3]'h).toNat)
  | [], _, h => by simp at h
  | [_], _, h => by simp at h <;> omega
  | [_, _], _, h => by simp at h <;> omega
  | [_, _, _], _, h => by simp at h <;> omega
  | c :: a :: b :: d :: r, 0, h => rfl
  | c :: a :: b :: d :: r, k + 1, h => by
    have h' : 4 * k + 3 < r.length := by simp at h; omega
    exact fromA_get r k h'
theorem oneN_len (n : Nat) : (oneN n).length ≤ 1 := by unfold oneN; split <;> simp
theorem fourA_len (c a b d : Nat) : (fourA c a b d).after.length ≤ 64 ∧ (fourA c a b d).evs.length ≤ 64 := by
  have h1 := oneN_len d
  have h2 := bitsTo_len a 8
  have h3 := evsTo_len d (1 + b % 4)
  constructor
  · show (if 2 ≤ fourK c ∧ fourK c ≤ 4 then oneN d else if fourK c = 5 then bitsTo a 8 else []).length ≤ 64
    split
    · omega
    · split
      · omega
      · simp
  · show (if fourK c = 6 ∨ fourK c = 7 then evsTo d (1 + b % 4) else []).length ≤ 64
    split
    · omega
    · simp
theorem Bytes_ok {m : PH} (hG : Glo m) (A : Option Addr) (c : Nat) (l : List UInt8) (hR : Rd m A l.length 1 (u8s l)) (hc : l.length ≤ c) : FnOk Tryz.prog 7 [.slice A l.length c] [roAll m] (fun v Q => v = .bool true ∧ Q = [roAll m]) := by
  refine FnOk.start Tryz.func7 rfl rfl rfl rfl fun F os tape output => ?_
  refine Nx.also 0 1 (rdS A l.length 1 (u8s l)) rfl (fun r h hs => hR.mono hs) ?_
  by_cases h5 : 2000 < l.length
  · repeat' (first
      | ((with_reducible refine atBr ?_); refine BrM.yes (by omega) ?_; conv => whnf)
      | ((with_reducible refine atBr ?_); (first | refine BrM.t rfl ?_ | refine BrM.f rfl ?_ | refine BrM.dec (fun _ => ?_) (fun _ => ?_) | refine BrM.mk (fun _ => ?_) (fun _ => ?_)) <;> conv => whnf)
      | ((with_reducible refine atAr ?_); refine Ar.i64 (by omega) (by omega) ?_; conv => whnf)
      | ((with_reducible refine (atCall 10) ?_); refine Nx.call [0] [0] rfl rfl rfl rfl rfl ((awake_ok hG)) rfl fun v Q hQ => ?_; obtain ⟨rfl, rfl⟩ := hQ)
      | ((with_reducible refine atRet ?_); refine Nx.ret [0] Tryz.func7 rfl rfl ?_; (exact ⟨rfl, rfl⟩))
      | ((with_reducible refine atOps ?_); refine go 200 ?_; conv => whnf)
      | ((with_reducible refine atPlan ?_); refine Nx.runP (n := 200) rfl (by repeat (first | exact subB.nil _ | refine subB.cons rfl ?_)) ?_; conv => whnf)
      | ((with_reducible refine atAftL ?_); refine Nx.late ?_)
      | ((fail_if_success (with_reducible refine atRet ?_)); (fail_if_success (with_reducible refine atLoop ?_)); (fail_if_success (with_reducible refine atIn ?_)); (fail_if_success (with_reducible refine atDrawn ?_)); (fail_if_success (with_reducible refine atEnd ?_)); (with_reducible refine atRun ?_); refine go 200 ?_; conv => whnf))
  · have hF := From_ok A c l hR hc (by omega)
    have hlf := fromA_len l
    have hsee : Sees (rdS A l.length 1 (u8s l)) A l.length 1 (l.flatMap fun b : UInt8 => [Value.int .u8 b.toNat]) := by rw [u8_flat]; exact rdS_sees _ _ _ _
    repeat' (first
      | ((with_reducible refine atBr ?_); refine BrM.not (by omega) ?_; conv => whnf)
      | ((with_reducible refine atBr ?_); (first | refine BrM.t rfl ?_ | refine BrM.f rfl ?_ | refine BrM.dec (fun _ => ?_) (fun _ => ?_) | refine BrM.mk (fun _ => ?_) (fun _ => ?_)) <;> conv => whnf)
      | ((with_reducible refine atAr ?_); refine Ar.i64 (by omega) (by omega) ?_; conv => whnf)
      | ((with_reducible refine atOps ?_); refine go 200 ?_; conv => whnf)
      | ((with_reducible refine atPlan ?_); refine Nx.runP (n := 200) rfl (by repeat (first | exact subB.nil _ | refine subB.cons rfl ?_)) ?_; conv => whnf)
      | ((with_reducible refine atAftL ?_); refine Nx.late ?_)
      | ((fail_if_success (with_reducible refine atRet ?_)); (fail_if_success (with_reducible refine atLoop ?_)); (fail_if_success (with_reducible refine atIn ?_)); (fail_if_success (with_reducible refine atDrawn ?_)); (fail_if_success (with_reducible refine atEnd ?_)); (with_reducible refine atRun ?_); refine go 200 ?_; conv => whnf))
    refine Nx.call [0] [0,3,4] rfl rfl rfl rfl rfl (hF) rfl fun v Q hQ => ?_
    obtain ⟨L, B, d, hL, rfl, rfl⟩ := hQ
    have hlen : L.length = l.length / 4 := by rw [← hlf, ← hL, List.length_map]
    repeat' (first
      | ((with_reducible refine atBr ?_); refine BrM.not (by omega) ?_; conv => whnf)
      | ((with_reducible refine atBr ?_); (first | refine BrM.t rfl ?_ | refine BrM.f rfl ?_ | refine BrM.dec (fun _ => ?_) (fun _ => ?_) | refine BrM.mk (fun _ => ?_) (fun _ => ?_)) <;> conv => whnf)
      | ((with_reducible refine atAr ?_); refine Ar.i64 (by omega) (by omega) ?_; conv => whnf)
      | ((with_reducible refine atQuo ?_); refine Nx.divI rfl (.inr ⟨rfl, (td l.length 4 (by omega))⟩) rfl rfl (by decide) rfl ?_)
      | ((with_reducible refine atOps ?_); refine go 200 ?_; conv => whnf)
      | ((with_reducible refine atPlan ?_); refine Nx.runP (n := 200) rfl (by repeat (first | exact subB.nil _ | refine subB.cons rfl ?_)) ?_; conv => whnf)
      | ((with_reducible refine atAftL ?_); refine Nx.late ?_)
      | ((fail_if_success (with_reducible refine atRet ?_)); (fail_if_success (with_reducible refine atLoop ?_)); (fail_if_success (with_reducible refine atIn ?_)); (fail_if_success (with_reducible refine atDrawn ?_)); (fail_if_success (with_reducible refine atEnd ?_)); (with_reducible refine atRun ?_); refine go 200 ?_; conv => whnf))
    refine Nx.loop (X := Nat) (fun k => k ≤ L.length) (fun k => L.length - k) (fun k => [(0, sl A l.length c), (3, sl B L.length d), (18, iv L.length), (19, iv k)]) (fun _ => []) []
      (fun _ => [(0, roAll m), (1, rdS A l.length 1 (u8s l)), (3, ownS 37 B L.length d 10 (L.flatMap LnS.enc)), (4, rdAll L)]) 0 (Nat.zero_le _) ?_ ?_ ?_ ?_ ?_
    · repeat (first | exact subE.nil _ | refine subE.cons rfl rfl ?_ | refine subE.cons' rfl (fun _ => rfl) ?_)
    · repeat (first | exact subM.nil _ | refine subM.cons rfl rfl rfl ?_)
    · repeat (first | exact subB.nil _ | refine subB.cons rfl ?_)
    · repeat (first | exact subR.nil _ | refine subR.cons rfl rfl ?_)
    intro k hk ih
    by_cases hlt : k < L.length
    · have hk4 : 4 * k + 3 < l.length := by omega
      have s1 := rdAll_sees1 (List.getElem_mem hlt)
      have s2 := rdAll_sees2 (List.getElem_mem hlt)
      have hx : L[k].o = fourA (l[4 * k]'(by omega)).toNat (l[4 * k + 1]'(by omega)).toNat (l[4 * k + 2]'(by omega)).toNat (l[4 * k + 3]'hk4).toNat := by
        have h1 := fromA_get l k hk4
        rw [← hL, List.getElem?_map, List.getElem?_eq_getElem hlt] at h1
        exact Option.some.inj h1
      have q0 : (l[4 * k]'(by omega)).toNat < 256 := UInt8.toNat_lt _
      have q1 : (l[4 * k + 1]'(by omega)).toNat < 256 := UInt8.toNat_lt _
      have q2 : (l[4 * k + 2]'(by omega)).toNat < 256 := UInt8.toNat_lt _
      have q3 : (l[4 * k + 3]'hk4).toNat < 256 := UInt8.toNat_lt _
      have hF4 := fourR_ok _ _ _ _ q0 q1 q2 q3
      rw [← hx] at hF4
      obtain ⟨b1, b2⟩ : L[k].o.after.length ≤ 64 ∧ L[k].o.evs.length ≤ 64 := by rw [hx]; exact fourA_len _ _ _ _
      refine Nx.also 4 14 (rdAll L) rfl (fun _ _ h => h) ?_
      repeat' (first
        | ((with_reducible refine atBr ?_); refine BrM.yes (by omega) ?_; conv => whnf)
        | ((with_reducible refine atAr ?_); refine Ar.to (k := .i64) (((4*k:Nat):Int)) (by omega) ⟨by omega, by omega⟩ ?_; conv => whnf)
        | ((with_reducible refine atAr ?_); refine Ar.to (k := .i64) (((4*k+1:Nat):Int)) (by omega) ⟨by omega, by omega⟩ ?_; conv => whnf)
        | ((with_reducible refine atAr ?_); refine Ar.to (k := .i64) (((4*k+2:Nat):Int)) (by omega) ⟨by omega, by omega⟩ ?_; conv => whnf)
        | ((with_reducible refine atAr ?_); refine Ar.to (k := .i64) (((4*k+3:Nat):Int)) (by omega) ⟨by omega, by omega⟩ ?_; conv => whnf)
        | ((with_reducible refine atBr ?_); (first | refine BrM.t rfl ?_ | refine BrM.f rfl ?_ | refine BrM.dec (fun _ => ?_) (fun _ => ?_) | refine BrM.mk (fun _ => ?_) (fun _ => ?_)) <;> conv => whnf)
        | ((with_reducible refine atAr ?_); refine Ar.i64 (by omega) (by omega) ?_; conv => whnf)
        | ((with_reducible refine atDrawn ?_); refine Nx.drawn0 [3,1] [.pure 0, .pure 1, .pure 2, .held 3, .pure 4, .pure 5, .pure 6, .pure 7, .held 8, .pure 9, .pure 10, .pure 11, .pure 12, .pure 13, .pure 14, .held 15, .pure 16, .pure 17, .pure 18, .pure 19, .pure 20, .pure 21, .held 22, .pure 23, .pure 24, .pure 25, .pure 26, .pure 27, .pure 28, .held 29, .pure 30, .ex 31 true, .ex 32 true, .pure 33] rfl (by kernel_rfl) rfl (by kernel_rfl) rfl (by repeat (first | exact subB.nil _ | refine subB.cons rfl ?_)) rfl ?_)
        | ((with_reducible refine atHoIdx ?_); refine Nx.hoIdx 3 rfl rfl rfl Tryz.underlying60 rfl rfl rfl enc_len (ownS_sees 37 B L.length d 10 (L.flatMap LnS.enc)) rfl rfl (by omega) fun _ _ _ => ?_)
        | ((with_reducible refine atHoIdx ?_); refine Nx.hoIdx 1 rfl rfl rfl Tryz.underlying66 rfl rfl rfl u8_len hsee rfl rfl (by omega) fun _ _ _ => ?_)
        | ((with_reducible refine atHoLoad ?_); first | (refine Nx.hoLoad1 rfl rfl rfl rfl List.mem_cons_self (SeesAt.sub (by assumption) _ rfl) rfl ?_) | (refine Nx.hoLoad1 rfl rfl rfl rfl List.mem_cons_self (by assumption) rfl ?_) | (refine Nx.hoLoad rfl rfl rfl rfl List.mem_cons_self (by assumption) rfl rfl ?_) | (refine Nx.hoLoad1 rfl rfl rfl rfl (List.mem_cons_of_mem _ List.mem_cons_self) (SeesAt.sub (by assumption) _ rfl) rfl ?_) | (refine Nx.hoLoad1 rfl rfl rfl rfl (List.mem_cons_of_mem _ List.mem_cons_self) (by assumption) rfl ?_) | (refine Nx.hoLoad rfl rfl rfl rfl (List.mem_cons_of_mem _ List.mem_cons_self) (by assumption) rfl rfl ?_) | (refine Nx.hoLoad1 rfl rfl rfl rfl (List.mem_cons_of_mem _ (List.mem_cons_of_mem _ List.mem_cons_self)) (SeesAt.sub (by assumption) _ rfl) rfl ?_) | (refine Nx.hoLoad1 rfl rfl rfl rfl (List.mem_cons_of_mem _ (List.mem_cons_of_mem _ List.mem_cons_self)) (by assumption) rfl ?_) | (refine Nx.hoLoad rfl rfl rfl rfl (List.mem_cons_of_mem _ (List.mem_cons_of_mem _ List.mem_cons_self)) (by assumption) rfl rfl ?_) | (refine Nx.hoLoad1 rfl rfl rfl rfl (List.mem_cons_of_mem _ (List.mem_cons_of_mem _ (List.mem_cons_of_mem _ List.mem_cons_self))) (SeesAt.sub (by assumption) _ rfl) rfl ?_) | (refine Nx.hoLoad1 rfl rfl rfl rfl (List.mem_cons_of_mem _ (List.mem_cons_of_mem _ (List.mem_cons_of_mem _ List.mem_cons_self))) (by assumption) rfl ?_) | (refine Nx.hoLoad rfl rfl rfl rfl (List.mem_cons_of_mem _ (List.mem_cons_of_mem _ (List.mem_cons_of_mem _ List.mem_cons_self))) (by assumption) rfl rfl ?_))
        | ((with_reducible refine atOps ?_); refine go 200 ?_; conv => whnf)
        | ((with_reducible refine atPlan ?_); refine Nx.runP (n := 200) rfl (by repeat (first | exact subB.nil _ | refine subB.cons rfl ?_)) ?_; conv => whnf)
        | ((with_reducible refine atAftL ?_); refine Nx.late ?_)
        | ((fail_if_success (with_reducible refine atRet ?_)); (fail_if_success (with_reducible refine atLoop ?_)); (fail_if_success (with_reducible refine atIn ?_)); (fail_if_success (with_reducible refine atDrawn ?_)); (fail_if_success (with_reducible refine atEnd ?_)); (with_reducible refine atRun ?_); refine go 200 ?_; conv => whnf))
      refine Nx.call [] [15,16] rfl rfl rfl rfl rfl (hF4) rfl fun v Q hQ => ?_
      obtain ⟨A2, c2, B2, d2, rfl, rfl⟩ := hQ
      have hS := same_ok (rdAll L) (rdAll L) (ownS 3 A2 L[k].o.after.length c2 1 (intsV L[k].o.after)) (ownS 72 B2 L[k].o.evs.length d2 2 (evsV L[k].o.evs)) L[k].o L[k].o L[k].A L[k].B A2 B2 L[k].c L[k].d c2 d2 s1 s2 (ownS_sees 3 A2 _ c2 1 _) (ownS_sees 72 B2 _ d2 2 _) (by omega) (by omega)
      rw [decide_eq_true rfl] at hS
      repeat' (first
        | ((with_reducible refine atAr ?_); refine Ar.to (k := .i64) (((k+1:Nat):Int)) (by omega) ⟨by omega, by omega⟩ ?_; conv => whnf)
        | ((with_reducible refine atBr ?_); (first | refine BrM.t rfl ?_ | refine BrM.f rfl ?_ | refine BrM.dec (fun _ => ?_) (fun _ => ?_) | refine BrM.mk (fun _ => ?_) (fun _ => ?_)) <;> conv => whnf)
        | ((with_reducible refine atAr ?_); refine Ar.i64 (by omega) (by omega) ?_; conv => whnf)
        | ((with_reducible refine atAftK ?_); refine Nx.keepN [3,1] rfl (by repeat (first | exact subB.nil _ | refine subB.cons rfl ?_)) (by repeat (first | exact subM.nil _ | refine subM.cons rfl rfl rfl ?_)) rfl ?_)
        | ((with_reducible refine (atCall 17) ?_); refine Nx.call [4,14,15,16] [4,14,15,16] rfl rfl rfl rfl rfl (hS) rfl fun v Q hQ => ?_; obtain ⟨rfl, rfl⟩ := hQ)
        | ((with_reducible refine atIn ?_); refine Nx.weak ((ih (k + 1) hlt (by omega))) ?_ ?_ ?_ ?_ <;> (first | exact subM.nil _ | exact subB.nil _ | exact subR.nil _ | ((repeat (first | exact subE.nil _ | refine subE.cons rfl rfl ?_ | refine subE.cons' rfl (fun _ => rfl) ?_ | (refine subE.cons rfl ?_ ?_; · (simp; done)))); done) | ((repeat (first | exact subM.nil _ | refine subM.cons rfl rfl rfl ?_)); done) | ((repeat (first | exact subB.nil _ | refine subB.cons rfl ?_)); done) | ((repeat (first | exact subR.nil _ | refine subR.cons rfl rfl ?_)); done) | omega | (dsimp only; omega) | (skip) | skip))
        | ((with_reducible refine atOps ?_); refine go 200 ?_; conv => whnf)
        | ((with_reducible refine atPlan ?_); refine Nx.runP (n := 200) rfl (by repeat (first | exact subB.nil _ | refine subB.cons rfl ?_)) ?_; conv => whnf)
        | ((with_reducible refine atAftL ?_); refine Nx.late ?_)
        | ((fail_if_success (with_reducible refine atRet ?_)); (fail_if_success (with_reducible refine atLoop ?_)); (fail_if_success (with_reducible refine atIn ?_)); (fail_if_success (with_reducible refine atDrawn ?_)); (fail_if_success (with_reducible refine atEnd ?_)); (with_reducible refine atRun ?_); refine go 200 ?_; conv => whnf))
    · clear ih
      repeat' (first
        | ((with_reducible refine atBr ?_); refine BrM.not (by omega) ?_; conv => whnf)
        | ((with_reducible refine atBr ?_); (first | refine BrM.t rfl ?_ | refine BrM.f rfl ?_ | refine BrM.dec (fun _ => ?_) (fun _ => ?_) | refine BrM.mk (fun _ => ?_) (fun _ => ?_)) <;> conv => whnf)
        | ((with_reducible refine atAr ?_); refine Ar.i64 (by omega) (by omega) ?_; conv => whnf)
        | ((with_reducible refine (atCall 10) ?_); refine Nx.call [0] [0] rfl rfl rfl rfl rfl ((awake_ok hG)) rfl fun v Q hQ => ?_; obtain ⟨rfl, rfl⟩ := hQ)
        | ((with_reducible refine atRet ?_); refine Nx.ret [0] Tryz.func7 rfl rfl ?_; (exact ⟨rfl, rfl⟩))
        | ((with_reducible refine atOps ?_); refine go 200 ?_; conv => whnf)
        | ((with_reducible refine atPlan ?_); refine Nx.runP (n := 200) rfl (by repeat (first | exact subB.nil _ | refine subB.cons rfl ?_)) ?_; conv => whnf)
        | ((with_reducible refine atAftL ?_); refine Nx.late ?_)
        | ((fail_if_success (with_reducible refine atRet ?_)); (fail_if_success (with_reducible refine atLoop ?_)); (fail_if_success (with_reducible refine atIn ?_)); (fail_if_success (with_reducible refine atDrawn ?_)); (fail_if_success (with_reducible refine atEnd ?_)); (with_reducible refine atRun ?_); refine go 200 ?_; conv => whnf))
end Go.Proofs.YtkfnbpbhcnekiaaGreatDoor

/- ScriptBytes: the statement's tied card holds: for all bytes the law returns true, and they read as they did, where the listed package-level variables hold what the program's text lays. -/
namespace Go.Proofs.YtkfnbpbhcnekiaaGreatDoor
open Go.ChangeShapes Go.WideShapes Go.ChangeAt Go.RowKit

set_option maxRecDepth 100000 in
theorem scriptBytes_lifted (os : Os) (started : os.Started) (H : Type) (enc : TypeId × Value → H) :
    ReturnsInHanded {} Tryz.checked os 7 .any (fun w args => (Rows.scriptBytesSpec.pre enc Tryz.prog Tryz.f7 [] false w args ∧ laidMetH Tryz.prog Rows.scriptBytesRow.laid w) ∧ sizedMet enc Tryz.prog Tryz.f7 (OpenSpec.ofChange Rows.scriptBytesSpec) false w args)
      (Rows.scriptBytesSpec.post enc Tryz.prog Tryz.f7 false true false false) := by
  refine law_laid (C := Tryz.checked) (tb := 4) laid0 rfl rfl Tryz.underlying4 ?_ (by kernel_rfl) own0 started (by kernel_rfl) Tryz.func7
    (ChangeSpec.witness_shaped (enc := enc) (C := Tryz.checked) (os := os) (X := fun w _ => laidMetH Tryz.prog Rows.scriptBytesRow.laid w) false (World.laidAll Tryz.prog os Rows.scriptBytesRow.laid) #[.slice none 0 0] 8 (World.laidAll_os _ _ _)
      (World.shaped_of_ZipB (by kernel_rfl) (by kernel_rfl)) (by kernel_rfl) (by kernel_rfl) (by kernel_rfl)
      (by rw [MakeChecks.laidMetH_plain _ _ _ (by kernel_rfl)]; exact laidMet_laidAll _ (by kernel_rfl) (by kernel_rfl))) ?_
  · intro ds hl
    match ds, hl with
    | [d1], _ => exact ⟨rfl, rfl, rfl⟩
  intro W base args ds ps hval hA _ hsh hL
  rw [MakeChecks.laidMetH_plain _ _ _ (by kernel_rfl)] at hL
  rw [Tryz.params7] at hval hA
  rw [chk0] at hval hA hsh hL
  have hG : Glo (hw W) := glo_of hsh fun x hx => Lib.laidMet.reads hL (by
    simp only [laidL, List.mem_cons, List.not_mem_nil, or_false] at hx
    rcases hx with rfl | rfl | rfl | rfl | rfl | rfl <;> simp [Rows.scriptBytesRow])
  obtain ⟨v0, r0, d0, e_0, p0, q0, rfl, rfl, rfl, h0, hA⟩ := trodAll_cons hA
  obtain ⟨rfl, rfl, rfl⟩ := trodAll_nil hA
  obtain ⟨A0, l0, c0, rfl, hr0, hc0⟩ := open_bytes (hval 0 66 v0 rfl rfl) h0
  exact (Bytes_ok hG A0 c0 l0 hr0 hc0).law fun v Q h => h.1

theorem scriptBytes_holds : Rows.ScriptBytesSaid :=
  OpenClaim.holds_of_wide 7 Tryz.f7 rfl rfl rfl rfl rfl rfl rfl ⟨rfl, rfl, rfl, rfl, rfl⟩ rfl rfl rfl rfl rfl (by kernel_rfl) Tryz.func7 (by kernel_rfl)
    (of_decide_eq_true (by kernel_rfl)) (by unfold Func.isWrapper; first | (rw [if_pos (by decide +kernel)]; kernel_rfl) | (rw [if_neg (by decide +kernel)]; exact ⟨rfl, rfl⟩))
    (fun os started H enc _ => scriptBytes_lifted os started H enc)

theorem scriptBytes_card : Rows.ScriptBytesCardSaid :=
  Claim7.holds_tied_plain_at .later [] [.data, .data, .data, .data, .sentinel, .sentinel, .data, .data, .data, .pinned] true Rows.scriptBytesCard.stood.harness true
    scriptBytes_holds (fun _ h => by cases h) (by kernel_rfl) (fun _ h => by cases h) scriptBytes_row_tie rfl ⟨rfl, rfl⟩ (by kernel_rfl) rfl
    (fun f fn hf hfn => by
      obtain rfl : f = 7 := Option.some.inj ((show Tryz.prog.funcNamed "noria/norialaw25.ScriptBytes" = some 7 by kernel_rfl).symm.trans hf) |>.symm
      obtain rfl : fn = Tryz.f7 := (Option.some.inj (Tryz.func7.symm.trans hfn)).symm
      exact ⟨by kernel_rfl, fun j t ht => by
        rw [Tryz.params7] at ht
        have hm : t ∈ [66] := by simpa using Array.mem_of_getElem? ht
        have hall : ([66].all fun u => !Tryz.prog.wantsStandIn u) = true := by kernel_rfl
        exact (show Tryz.prog.wantsStandIn t = false by simpa using List.all_eq_true.1 hall t hm)⟩)
    (by kernel_rfl)
end Go.Proofs.YtkfnbpbhcnekiaaGreatDoor
