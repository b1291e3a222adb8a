/- Rows of norialaw23: operations among the arguments. -/
import Derived.Test.YtngfadijcpnblaaMf
set_option linter.unusedSimpArgs false
set_option linter.unusedVariables false
/- ModelRefuses, walked. -/
namespace Go.Proofs.Ytngfadijcpnblaa
open Go.RowKit
set_option maxRecDepth 20000
set_option maxHeartbeats 8000000
structure RfX where
  M : MdH
  K : MdH
  i : Nat
attribute [local irreducible] Nx Ar BrM
theorem refuses_ok (m : PH) (l : List OpH) (A : Option Addr) (c : Nat) (hl : l.length ≤ 9223372036854775807) (hs : Rd m A l.length 16 (l.flatMap OpH.enc)) (hok : ∀ x ∈ l, OpOk m x) :
    FnOk Try.prog 5 [.slice A l.length c] [roAll m] (fun v _ => v = .bool true) := by
  have hS := roAll_sees hs
  have hsm := small7_ok m l A c hl hs hok
  by_cases sm : (∀ x ∈ l, OpS x) ∧ l.length ≤ 120
  case neg =>
    rw [decide_eq_false sm] at hsm
    refine FnOk.start Try.func5 rfl rfl rfl rfl fun F os tape output => ?_
    refine go 200 ?_
    conv => whnf
    repeat' (first
      | ((with_reducible refine atBr ?_); (first | refine BrM.t rfl ?_ | refine BrM.f rfl ?_ | refine BrM.dec (fun _ => ?_) (fun _ => ?_) | refine BrM.mk (fun _ => ?_) (fun _ => ?_)) <;> conv => whnf)
      | ((with_reducible refine atAr ?_); refine Ar.i64 (by omega) (by omega) ?_; conv => whnf)
      | ((with_reducible refine (atCall 7) ?_); refine Nx.call [0] [0] rfl rfl rfl rfl rfl (hsm) rfl fun v Q hQ => ?_; obtain ⟨rfl, rfl⟩ := hQ)
      | ((with_reducible refine (atCall 8) ?_); refine Nx.call [] [] rfl rfl rfl rfl rfl (awake_ok) rfl fun v Q hQ => ?_; obtain rfl := hQ)
      | ((with_reducible refine atRet ?_); refine Nx.ret [] Try.func5 rfl rfl ?_; (exact rfl))
      | ((with_reducible refine atOps ?_); refine go 200 ?_; conv => whnf)
      | ((with_reducible refine atPlan ?_); refine Nx.runP (n := 200) rfl (by repeat (first | exact subB.nil _ | refine subB.cons rfl ?_)) ?_; conv => whnf)
      | ((with_reducible refine atAftL ?_); refine Nx.late ?_)
      | ((fail_if_success (with_reducible refine atRet ?_)); (fail_if_success (with_reducible refine atLoop ?_)); (fail_if_success (with_reducible refine atIn ?_)); (fail_if_success (with_reducible refine atDrawn ?_)); (fail_if_success (with_reducible refine atEnd ?_)); (with_reducible refine atRun ?_); refine go 200 ?_; conv => whnf))
  rw [decide_eq_true sm] at hsm
  have hl120 := sm.2
  refine FnOk.start Try.func5 rfl rfl rfl rfl fun F os tape output => ?_
  refine go 200 ?_
  conv => whnf
  repeat' (first
    | ((with_reducible refine atBr ?_); (first | refine BrM.t rfl ?_ | refine BrM.f rfl ?_ | refine BrM.dec (fun _ => ?_) (fun _ => ?_) | refine BrM.mk (fun _ => ?_) (fun _ => ?_)) <;> conv => whnf)
    | ((with_reducible refine atAr ?_); refine Ar.i64 (by omega) (by omega) ?_; conv => whnf)
    | ((with_reducible refine (atCall 7) ?_); refine Nx.call [0] [9] rfl rfl rfl rfl rfl (hsm) rfl fun v Q hQ => ?_; obtain ⟨rfl, rfl⟩ := hQ)
    | (fail)
    | ((with_reducible refine atOps ?_); refine go 200 ?_; conv => whnf)
    | ((with_reducible refine atPlan ?_); refine Nx.runP (n := 200) rfl (by repeat (first | exact subB.nil _ | refine subB.cons rfl ?_)) ?_; conv => whnf)
    | ((with_reducible refine atAftL ?_); refine Nx.late ?_)
    | ((fail_if_success (with_reducible refine atRet ?_)); (fail_if_success (with_reducible refine atLoop ?_)); (fail_if_success (with_reducible refine atIn ?_)); (fail_if_success (with_reducible refine atDrawn ?_)); (fail_if_success (with_reducible refine atEnd ?_)); (with_reducible refine atRun ?_); refine go 200 ?_; conv => whnf))
  refine Nx.call [] [1] rfl rfl rfl rfl rfl New_ok rfl fun v Q hQ => ?_
  obtain ⟨M0, rfl, eM, rfl⟩ := hQ
  repeat' (first
    | ((with_reducible refine atBr ?_); (first | refine BrM.t rfl ?_ | refine BrM.f rfl ?_ | refine BrM.dec (fun _ => ?_) (fun _ => ?_) | refine BrM.mk (fun _ => ?_) (fun _ => ?_)) <;> conv => whnf)
    | ((with_reducible refine atAr ?_); refine Ar.i64 (by omega) (by omega) ?_; conv => whnf)
    | (fail)
    | ((with_reducible refine atOps ?_); refine go 200 ?_; conv => whnf)
    | ((with_reducible refine atPlan ?_); refine Nx.runP (n := 200) rfl (by repeat (first | exact subB.nil _ | refine subB.cons rfl ?_)) ?_; conv => whnf)
    | ((with_reducible refine atAftL ?_); refine Nx.late ?_)
    | ((fail_if_success (with_reducible refine atRet ?_)); (fail_if_success (with_reducible refine atLoop ?_)); (fail_if_success (with_reducible refine atIn ?_)); (fail_if_success (with_reducible refine atDrawn ?_)); (fail_if_success (with_reducible refine atEnd ?_)); (with_reducible refine atRun ?_); refine go 200 ?_; conv => whnf))
  refine Nx.call [] [2] rfl rfl rfl rfl rfl New_ok rfl fun v Q hQ => ?_
  obtain ⟨K0, rfl, eK, rfl⟩ := hQ
  repeat' (first
    | ((with_reducible refine atBr ?_); (first | refine BrM.t rfl ?_ | refine BrM.f rfl ?_ | refine BrM.dec (fun _ => ?_) (fun _ => ?_) | refine BrM.mk (fun _ => ?_) (fun _ => ?_)) <;> conv => whnf)
    | ((with_reducible refine atAr ?_); refine Ar.i64 (by omega) (by omega) ?_; conv => whnf)
    | (fail)
    | ((with_reducible refine atOps ?_); refine go 200 ?_; conv => whnf)
    | ((with_reducible refine atPlan ?_); refine Nx.runP (n := 200) rfl (by repeat (first | exact subB.nil _ | refine subB.cons rfl ?_)) ?_; conv => whnf)
    | ((with_reducible refine atAftL ?_); refine Nx.late ?_)
    | ((fail_if_success (with_reducible refine atRet ?_)); (fail_if_success (with_reducible refine atLoop ?_)); (fail_if_success (with_reducible refine atIn ?_)); (fail_if_success (with_reducible refine atDrawn ?_)); (fail_if_success (with_reducible refine atEnd ?_)); (with_reducible refine atRun ?_); refine go 200 ?_; conv => whnf))
  refine Nx.loop (X := RfX) (fun x => x.i ≤ l.length ∧ x.M.b = M0.b ∧ x.K.b = K0.b ∧ x.K.p = x.M.p ∧ Bnd8 x.M.p x.i ∧ ∃ G, Sim x.M.p G) (fun x => l.length - x.i)
    (fun x => [(0, sl A l.length c), (3, .c (.v (ptr M0.b))), (4, .c (.v (ptr K0.b))), (27, sl A l.length c), (28, iv l.length), (29, iv x.i)]) (fun _ => []) [] (fun x => [(1, x.M.sp), (2, x.K.sp), (9, roAll m)]) ⟨M0, K0, 0⟩ ⟨Nat.zero_le _, rfl, rfl, by rw [eM, eK], by rw [eM]; exact Bnd8.nil, by rw [eM]; exact ⟨_, Sim.nil⟩⟩ ?_ ?_ ?_ ?_ ?_
  · repeat (first | exact subE.nil _ | refine subE.cons rfl rfl ?_ | refine subE.cons' rfl (fun _ => rfl) ?_)
  · repeat (first | exact subM.nil _ | refine subM.cons rfl rfl rfl ?_)
  · repeat (first | exact subB.nil _ | refine subB.cons rfl ?_)
  · repeat (first | exact subR.nil _ | refine subR.cons rfl rfl ?_)
  intro ⟨M, K, i⟩ ⟨hi, hMb, hKb, hKp, hB, G, hG⟩ ih
  dsimp only at hi hMb hKb hKp hB hG ih ⊢
  have hm : MdW M.p := hG.mdw hB (by omega)
  have hmK : MdW K.p := by rw [hKp]; exact hm
  by_cases hlt : i < l.length
  · have hxm := List.getElem_mem hlt
    have smx := sm.1 _ hxm
    have hap := apply_ok m M hm l[i] (hok _ hxm) smx
    have hak := apply_ok m K hmK l[i] (hok _ hxm) smx
    rw [hMb] at hap
    rw [hKb, hKp] at hak
    unfold OpH.v at hap hak
    have hB2 := hB.apply hG (l[i]).o (by have := smx.2.1; omega)
    have hG2 := hG.apply (l[i]).o
    repeat' (first
      | ((with_reducible refine atBr ?_); refine BrM.yes (by omega) ?_; conv => whnf)
      | ((with_reducible refine atBr ?_); (first | refine BrM.t rfl ?_ | refine BrM.f rfl ?_ | refine BrM.dec (fun _ => ?_) (fun _ => ?_) | refine BrM.mk (fun _ => ?_) (fun _ => ?_)) <;> conv => whnf)
      | ((with_reducible refine atAr ?_); refine Ar.i64 (by omega) (by omega) ?_; conv => whnf)
      | ((with_reducible refine atIdx ?_); refine Nx.idx 9 (j := i) rfl rfl rfl Try.underlying22 rfl rfl rfl OpH.enc_len hS rfl (by omega) (by omega) fun _ _ _ => ?_)
      | ((with_reducible refine atLoad ?_); first | (refine Nx.load1 9 rfl rfl rfl rfl (SeesAt.sub (by assumption) _ rfl) rfl ?_) | (refine Nx.load1 9 rfl rfl rfl rfl (by assumption) rfl ?_) | (refine Nx.load 9 rfl rfl rfl rfl (by assumption) rfl rfl ?_))
      | ((with_reducible refine atOps ?_); refine go 200 ?_; conv => whnf)
      | ((with_reducible refine atPlan ?_); refine Nx.runP (n := 200) rfl (by repeat (first | exact subB.nil _ | refine subB.cons rfl ?_)) ?_; conv => whnf)
      | ((with_reducible refine atAftL ?_); refine Nx.late ?_)
      | ((fail_if_success (with_reducible refine atRet ?_)); (fail_if_success (with_reducible refine atLoop ?_)); (fail_if_success (with_reducible refine atIn ?_)); (fail_if_success (with_reducible refine atDrawn ?_)); (fail_if_success (with_reducible refine atEnd ?_)); (with_reducible refine atRun ?_); refine go 200 ?_; conv => whnf))
    refine Nx.also 9 8 (roAll m) rfl (fun _ _ h => h) ?_
    by_cases hc : (M.p.apply (l[i]).o).2 = 0
    · refine Nx.call [1, 8] [1] rfl rfl rfl rfl rfl (hap.mono fun _ _ h => h.z hc) rfl fun v Q hQ => ?_
      obtain ⟨M', e1, e2, rfl, rfl⟩ := hQ
      repeat' (first
        | ((with_reducible refine atBr ?_); (first | refine BrM.t rfl ?_ | refine BrM.f rfl ?_ | refine BrM.dec (fun _ => ?_) (fun _ => ?_) | refine BrM.mk (fun _ => ?_) (fun _ => ?_)) <;> conv => whnf)
        | ((with_reducible refine atAr ?_); refine Ar.i64 (by omega) (by omega) ?_; conv => whnf)
        | (fail)
        | ((with_reducible refine atOps ?_); refine go 200 ?_; conv => whnf)
        | ((with_reducible refine atPlan ?_); refine Nx.runP (n := 200) rfl (by repeat (first | exact subB.nil _ | refine subB.cons rfl ?_)) ?_; conv => whnf)
        | ((with_reducible refine atAftL ?_); refine Nx.late ?_)
        | ((fail_if_success (with_reducible refine atRet ?_)); (fail_if_success (with_reducible refine atLoop ?_)); (fail_if_success (with_reducible refine atIn ?_)); (fail_if_success (with_reducible refine atDrawn ?_)); (fail_if_success (with_reducible refine atEnd ?_)); (with_reducible refine atRun ?_); refine go 200 ?_; conv => whnf))
      refine Nx.also 9 8 (roAll m) rfl (fun _ _ h => h) ?_
      refine Nx.call [2, 8] [2] rfl rfl rfl rfl rfl (hak.mono fun _ _ h => h.z hc) rfl fun v Q hQ => ?_
      obtain ⟨K', f1, f2, rfl, rfl⟩ := hQ
      repeat' (first
        | ((with_reducible refine atBr ?_); (first | refine BrM.t rfl ?_ | refine BrM.f rfl ?_ | refine BrM.dec (fun _ => ?_) (fun _ => ?_) | refine BrM.mk (fun _ => ?_) (fun _ => ?_)) <;> conv => whnf)
        | ((with_reducible refine atAr ?_); refine Ar.i64 (by omega) (by omega) ?_; conv => whnf)
        | (fail)
        | ((with_reducible refine atOps ?_); refine go 200 ?_; conv => whnf)
        | ((with_reducible refine atPlan ?_); refine Nx.runP (n := 200) rfl (by repeat (first | exact subB.nil _ | refine subB.cons rfl ?_)) ?_; conv => whnf)
        | ((with_reducible refine atAftL ?_); refine Nx.late ?_)
        | ((fail_if_success (with_reducible refine atRet ?_)); (fail_if_success (with_reducible refine atLoop ?_)); (fail_if_success (with_reducible refine atIn ?_)); (fail_if_success (with_reducible refine atDrawn ?_)); (fail_if_success (with_reducible refine atEnd ?_)); (with_reducible refine atRun ?_); refine go 200 ?_; conv => whnf))
      refine (ih ⟨M', K', i + 1⟩ ⟨by dsimp only; omega, e1, f1, by dsimp only; rw [e2, f2], by dsimp only; rw [e2]; exact hB2, by dsimp only; rw [e2]; exact ⟨_, hG2.2⟩⟩ (by dsimp only; omega)).weak ?_ ?_ ?_ ?_
      · repeat (first | exact subE.nil _ | refine subE.cons rfl rfl ?_ | refine subE.cons' rfl (fun _ => rfl) ?_)
      · repeat (first | exact subM.nil _ | refine subM.cons rfl rfl rfl ?_)
      · repeat (first | exact subB.nil _ | refine subB.cons rfl ?_)
      · repeat (first | exact subR.nil _ | refine subR.cons rfl rfl ?_)
    · refine Nx.call [1, 8] [1] rfl rfl rfl rfl rfl (hap.mono fun _ _ h => h.nz hc) rfl fun v Q hQ => ?_
      obtain ⟨M', b', q', e1, e2, rfl, rfl⟩ := hQ
      have e3 : M'.p = M.p := by rw [e2]; exact hG.refused _ hc
      repeat' (first
        | ((with_reducible refine atBr ?_); (first | refine BrM.t rfl ?_ | refine BrM.f rfl ?_ | refine BrM.dec (fun _ => ?_) (fun _ => ?_) | refine BrM.mk (fun _ => ?_) (fun _ => ?_)) <;> conv => whnf)
        | ((with_reducible refine atAr ?_); refine Ar.i64 (by omega) (by omega) ?_; conv => whnf)
        | (fail)
        | ((with_reducible refine atOps ?_); refine go 200 ?_; conv => whnf)
        | ((with_reducible refine atPlan ?_); refine Nx.runP (n := 200) rfl (by repeat (first | exact subB.nil _ | refine subB.cons rfl ?_)) ?_; conv => whnf)
        | ((with_reducible refine atAftL ?_); refine Nx.late ?_)
        | ((fail_if_success (with_reducible refine atRet ?_)); (fail_if_success (with_reducible refine atLoop ?_)); (fail_if_success (with_reducible refine atIn ?_)); (fail_if_success (with_reducible refine atDrawn ?_)); (fail_if_success (with_reducible refine atEnd ?_)); (with_reducible refine atRun ?_); refine go 200 ?_; conv => whnf))
      refine (ih ⟨M', K, i + 1⟩ ⟨by dsimp only; omega, e1, hKb, by dsimp only; rw [e3, hKp], by dsimp only; rw [e3]; exact hB.more, by dsimp only; rw [e3]; exact ⟨G, hG⟩⟩ (by dsimp only; omega)).weak ?_ ?_ ?_ ?_
      · repeat (first | exact subE.nil _ | refine subE.cons rfl rfl ?_ | refine subE.cons' rfl (fun _ => rfl) ?_)
      · repeat (first | exact subM.nil _ | refine subM.cons rfl rfl rfl ?_)
      · repeat (first | exact subB.nil _ | refine subB.cons rfl ?_)
      · repeat (first | exact subR.nil _ | refine subR.cons rfl rfl ?_)
  clear ih
  repeat' (first
    | ((with_reducible refine atBr ?_); refine BrM.not (by omega) ?_; conv => whnf)
    | ((with_reducible refine atBr ?_); (first | refine BrM.t rfl ?_ | refine BrM.f rfl ?_ | refine BrM.dec (fun _ => ?_) (fun _ => ?_) | refine BrM.mk (fun _ => ?_) (fun _ => ?_)) <;> conv => whnf)
    | ((with_reducible refine atAr ?_); refine Ar.i64 (by omega) (by omega) ?_; conv => whnf)
    | ((with_reducible refine atOps ?_); refine go 200 ?_; conv => whnf)
    | ((with_reducible refine atPlan ?_); refine Nx.runP (n := 200) rfl (by repeat (first | exact subB.nil _ | refine subB.cons rfl ?_)) ?_; conv => whnf)
    | ((with_reducible refine atAftL ?_); refine Nx.late ?_)
    | ((fail_if_success (with_reducible refine atRet ?_)); (fail_if_success (with_reducible refine atLoop ?_)); (fail_if_success (with_reducible refine atIn ?_)); (fail_if_success (with_reducible refine atDrawn ?_)); (fail_if_success (with_reducible refine atEnd ?_)); (with_reducible refine atRun ?_); refine go 200 ?_; conv => whnf))
  refine Nx.loop (X := Nat) (fun j => j ≤ 8) (fun j => 8 - j)
    (fun j => [(0, sl A l.length c), (3, .c (.v (ptr M0.b))), (4, .c (.v (ptr K0.b))), (44, iv j)]) (fun _ => []) [] (fun _ => [(1, M.sp), (2, K.sp), (9, roAll m)]) 0 (Nat.zero_le _) ?_ ?_ ?_ ?_ ?_
  · repeat (first | exact subE.nil _ | refine subE.cons rfl rfl ?_ | refine subE.cons' rfl (fun _ => rfl) ?_)
  · repeat (first | exact subM.nil _ | refine subM.cons rfl rfl rfl ?_)
  · repeat (first | exact subB.nil _ | refine subB.cons rfl ?_)
  · repeat (first | exact subR.nil _ | refine subR.cons rfl rfl ?_)
  intro j hj ih
  by_cases hj8 : j < 8
  case neg =>
    repeat' (first
      | ((with_reducible refine atBr ?_); refine BrM.not (by omega) ?_; conv => whnf)
      | ((with_reducible refine atBr ?_); (first | refine BrM.t rfl ?_ | refine BrM.f rfl ?_ | refine BrM.dec (fun _ => ?_) (fun _ => ?_) | refine BrM.mk (fun _ => ?_) (fun _ => ?_)) <;> conv => whnf)
      | ((with_reducible refine atAr ?_); refine Ar.i64 (by omega) (by omega) ?_; conv => whnf)
      | ((with_reducible refine (atCall 8) ?_); refine Nx.call [] [] rfl rfl rfl rfl rfl (awake_ok) rfl fun v Q hQ => ?_; obtain rfl := hQ)
      | ((with_reducible refine atRet ?_); refine Nx.ret [] Try.func5 rfl rfl ?_; (exact rfl))
      | ((with_reducible refine atOps ?_); refine go 200 ?_; conv => whnf)
      | ((with_reducible refine atPlan ?_); refine Nx.runP (n := 200) rfl (by repeat (first | exact subB.nil _ | refine subB.cons rfl ?_)) ?_; conv => whnf)
      | ((with_reducible refine atAftL ?_); refine Nx.late ?_)
      | ((fail_if_success (with_reducible refine atRet ?_)); (fail_if_success (with_reducible refine atLoop ?_)); (fail_if_success (with_reducible refine atIn ?_)); (fail_if_success (with_reducible refine atDrawn ?_)); (fail_if_success (with_reducible refine atEnd ?_)); (with_reducible refine atRun ?_); refine go 200 ?_; conv => whnf))
  have hLm := Length_ok M hm j
  have hLk := Length_ok K hmK j
  rw [hMb] at hLm
  rw [hKb, hKp] at hLk
  repeat' (first
    | ((with_reducible refine atBr ?_); refine BrM.yes (by omega) ?_; conv => whnf)
    | ((with_reducible refine atBr ?_); (first | refine BrM.t rfl ?_ | refine BrM.f rfl ?_ | refine BrM.dec (fun _ => ?_) (fun _ => ?_) | refine BrM.mk (fun _ => ?_) (fun _ => ?_)) <;> conv => whnf)
    | ((with_reducible refine atAr ?_); refine Ar.i64 (by omega) (by omega) ?_; conv => whnf)
    | ((with_reducible refine atOps ?_); refine go 200 ?_; conv => whnf)
    | ((with_reducible refine atPlan ?_); refine Nx.runP (n := 200) rfl (by repeat (first | exact subB.nil _ | refine subB.cons rfl ?_)) ?_; conv => whnf)
    | ((with_reducible refine atAftL ?_); refine Nx.late ?_)
    | ((fail_if_success (with_reducible refine atRet ?_)); (fail_if_success (with_reducible refine atLoop ?_)); (fail_if_success (with_reducible refine atIn ?_)); (fail_if_success (with_reducible refine atDrawn ?_)); (fail_if_success (with_reducible refine atEnd ?_)); (with_reducible refine atRun ?_); refine go 200 ?_; conv => whnf))
  refine Nx.call [1] [1] rfl rfl rfl rfl rfl hLm rfl fun v Q hQ => ?_
  obtain ⟨n1, rfl, q1, rfl⟩ := hQ
  repeat' (first
    | ((with_reducible refine atBr ?_); (first | refine BrM.t rfl ?_ | refine BrM.f rfl ?_ | refine BrM.dec (fun _ => ?_) (fun _ => ?_) | refine BrM.mk (fun _ => ?_) (fun _ => ?_)) <;> conv => whnf)
    | ((with_reducible refine atAr ?_); refine Ar.i64 (by omega) (by omega) ?_; conv => whnf)
    | (fail)
    | ((with_reducible refine atOps ?_); refine go 200 ?_; conv => whnf)
    | ((with_reducible refine atPlan ?_); refine Nx.runP (n := 200) rfl (by repeat (first | exact subB.nil _ | refine subB.cons rfl ?_)) ?_; conv => whnf)
    | ((with_reducible refine atAftL ?_); refine Nx.late ?_)
    | ((fail_if_success (with_reducible refine atRet ?_)); (fail_if_success (with_reducible refine atLoop ?_)); (fail_if_success (with_reducible refine atIn ?_)); (fail_if_success (with_reducible refine atDrawn ?_)); (fail_if_success (with_reducible refine atEnd ?_)); (with_reducible refine atRun ?_); refine go 200 ?_; conv => whnf))
  refine Nx.call [2] [2] rfl rfl rfl rfl rfl hLk rfl fun v Q hQ => ?_
  obtain ⟨n2, rfl, q2, rfl⟩ := hQ
  obtain rfl := q1.one q2
  repeat' (first
    | ((with_reducible refine atBr ?_); refine BrM.not (by omega) ?_; conv => whnf)
    | ((with_reducible refine atBr ?_); (first | refine BrM.t rfl ?_ | refine BrM.f rfl ?_ | refine BrM.dec (fun _ => ?_) (fun _ => ?_) | refine BrM.mk (fun _ => ?_) (fun _ => ?_)) <;> conv => whnf)
    | ((with_reducible refine atAr ?_); refine Ar.i64 (by omega) (by omega) ?_; conv => whnf)
    | ((with_reducible refine atOps ?_); refine go 200 ?_; conv => whnf)
    | ((with_reducible refine atPlan ?_); refine Nx.runP (n := 200) rfl (by repeat (first | exact subB.nil _ | refine subB.cons rfl ?_)) ?_; conv => whnf)
    | ((with_reducible refine atAftL ?_); refine Nx.late ?_)
    | ((fail_if_success (with_reducible refine atRet ?_)); (fail_if_success (with_reducible refine atLoop ?_)); (fail_if_success (with_reducible refine atIn ?_)); (fail_if_success (with_reducible refine atDrawn ?_)); (fail_if_success (with_reducible refine atEnd ?_)); (with_reducible refine atRun ?_); refine go 200 ?_; conv => whnf))
  refine Nx.loop (X := Nat) (fun k => k ≤ 40) (fun k => 40 - k)
    (fun k => [(0, sl A l.length c), (3, .c (.v (ptr M0.b))), (4, .c (.v (ptr K0.b))), (44, iv j), (7, iv j), (54, iv k)]) (fun _ => []) [] (fun _ => [(1, M.sp), (2, K.sp), (9, roAll m)]) 0 (Nat.zero_le _) ?_ ?_ ?_ ?_ ?_
  · repeat (first | exact subE.nil _ | refine subE.cons rfl rfl ?_ | refine subE.cons' rfl (fun _ => rfl) ?_)
  · repeat (first | exact subM.nil _ | refine subM.cons rfl rfl rfl ?_)
  · repeat (first | exact subB.nil _ | refine subB.cons rfl ?_)
  · repeat (first | exact subR.nil _ | refine subR.cons rfl rfl ?_)
  intro k hk ih2
  by_cases hk40 : k < 40
  · have hEm := Event_ok M hm j k
    have hEk := Event_ok K hmK j k
    have hHm := Held_ok M hm j k (by omega)
    have hHk := Held_ok K hmK j k (by omega)
    rw [hMb] at hEm hHm
    rw [hKb, hKp] at hEk hHk
    have key : ∀ e : Ev, (if BinOp.neq = BinOp.eql then decide (e = e) else !decide (e = e)) = false := fun e => by simp
    cases he : M.p.event j k with
    | none =>
      rw [he] at hEm hEk
      cases hh : M.p.held j k with
      | true =>
        rw [hh] at hHm hHk
        repeat' (first
          | ((with_reducible refine atBr ?_); refine BrM.yes (by omega) ?_; conv => whnf)
          | ((with_reducible refine atBr ?_); (first | refine BrM.t rfl ?_ | refine BrM.f rfl ?_ | refine BrM.dec (fun _ => ?_) (fun _ => ?_) | refine BrM.mk (fun _ => ?_) (fun _ => ?_)) <;> conv => whnf)
          | ((with_reducible refine atAr ?_); refine Ar.i64 (by omega) (by omega) ?_; conv => whnf)
          | ((with_reducible refine atOps ?_); refine go 200 ?_; conv => whnf)
          | ((with_reducible refine atPlan ?_); refine Nx.runP (n := 200) rfl (by repeat (first | exact subB.nil _ | refine subB.cons rfl ?_)) ?_; conv => whnf)
          | ((with_reducible refine atAftL ?_); refine Nx.late ?_)
          | ((fail_if_success (with_reducible refine atRet ?_)); (fail_if_success (with_reducible refine atLoop ?_)); (fail_if_success (with_reducible refine atIn ?_)); (fail_if_success (with_reducible refine atDrawn ?_)); (fail_if_success (with_reducible refine atEnd ?_)); (with_reducible refine atRun ?_); refine go 200 ?_; conv => whnf))
        refine Nx.call [1] [1] rfl rfl rfl rfl rfl hEm rfl fun v Q hQ => ?_
        obtain ⟨rfl, rfl⟩ := hQ
        repeat' (first
          | ((with_reducible refine atBr ?_); (first | refine BrM.t rfl ?_ | refine BrM.f rfl ?_ | refine BrM.dec (fun _ => ?_) (fun _ => ?_) | refine BrM.mk (fun _ => ?_) (fun _ => ?_)) <;> conv => whnf)
          | ((with_reducible refine atAr ?_); refine Ar.i64 (by omega) (by omega) ?_; conv => whnf)
          | (fail)
          | ((with_reducible refine atOps ?_); refine go 200 ?_; conv => whnf)
          | ((with_reducible refine atPlan ?_); refine Nx.runP (n := 200) rfl (by repeat (first | exact subB.nil _ | refine subB.cons rfl ?_)) ?_; conv => whnf)
          | ((with_reducible refine atAftL ?_); refine Nx.late ?_)
          | ((fail_if_success (with_reducible refine atRet ?_)); (fail_if_success (with_reducible refine atLoop ?_)); (fail_if_success (with_reducible refine atIn ?_)); (fail_if_success (with_reducible refine atDrawn ?_)); (fail_if_success (with_reducible refine atEnd ?_)); (with_reducible refine atRun ?_); refine go 200 ?_; conv => whnf))
        refine Nx.call [2] [2] rfl rfl rfl rfl rfl hEk rfl fun v Q hQ => ?_
        obtain ⟨rfl, rfl⟩ := hQ
        repeat' (first
          | ((with_reducible refine atBr ?_); refine BrM.f ((key (⟨0, 0⟩ : Ev))) ?_; conv => whnf)
          | ((with_reducible refine atBr ?_); (first | refine BrM.t rfl ?_ | refine BrM.f rfl ?_ | refine BrM.dec (fun _ => ?_) (fun _ => ?_) | refine BrM.mk (fun _ => ?_) (fun _ => ?_)) <;> conv => whnf)
          | ((with_reducible refine atAr ?_); refine Ar.i64 (by omega) (by omega) ?_; conv => whnf)
          | ((with_reducible refine atOne ?_); refine Nx.eqS rfl (.inr rfl) rfl rfl rfl rfl (by kernel_rfl) (eq39 (⟨0, 0⟩ : Ev) (⟨0, 0⟩ : Ev)) rfl ?_)
          | ((with_reducible refine atOps ?_); refine go 200 ?_; conv => whnf)
          | ((with_reducible refine atPlan ?_); refine Nx.runP (n := 200) rfl (by repeat (first | exact subB.nil _ | refine subB.cons rfl ?_)) ?_; conv => whnf)
          | ((with_reducible refine atAftL ?_); refine Nx.late ?_)
          | ((fail_if_success (with_reducible refine atRet ?_)); (fail_if_success (with_reducible refine atLoop ?_)); (fail_if_success (with_reducible refine atIn ?_)); (fail_if_success (with_reducible refine atDrawn ?_)); (fail_if_success (with_reducible refine atEnd ?_)); (with_reducible refine atRun ?_); refine go 200 ?_; conv => whnf))
        refine Nx.call [1] [1] rfl rfl rfl rfl rfl hHm rfl fun v Q hQ => ?_
        obtain ⟨rfl, rfl⟩ := hQ
        repeat' (first
          | ((with_reducible refine atBr ?_); (first | refine BrM.t rfl ?_ | refine BrM.f rfl ?_ | refine BrM.dec (fun _ => ?_) (fun _ => ?_) | refine BrM.mk (fun _ => ?_) (fun _ => ?_)) <;> conv => whnf)
          | ((with_reducible refine atAr ?_); refine Ar.i64 (by omega) (by omega) ?_; conv => whnf)
          | (fail)
          | ((with_reducible refine atOps ?_); refine go 200 ?_; conv => whnf)
          | ((with_reducible refine atPlan ?_); refine Nx.runP (n := 200) rfl (by repeat (first | exact subB.nil _ | refine subB.cons rfl ?_)) ?_; conv => whnf)
          | ((with_reducible refine atAftL ?_); refine Nx.late ?_)
          | ((fail_if_success (with_reducible refine atRet ?_)); (fail_if_success (with_reducible refine atLoop ?_)); (fail_if_success (with_reducible refine atIn ?_)); (fail_if_success (with_reducible refine atDrawn ?_)); (fail_if_success (with_reducible refine atEnd ?_)); (with_reducible refine atRun ?_); refine go 200 ?_; conv => whnf))
        refine Nx.call [2] [2] rfl rfl rfl rfl rfl hHk rfl fun v Q hQ => ?_
        obtain ⟨rfl, rfl⟩ := hQ
        repeat' (first
          | ((with_reducible refine atBr ?_); (first | refine BrM.t rfl ?_ | refine BrM.f rfl ?_ | refine BrM.dec (fun _ => ?_) (fun _ => ?_) | refine BrM.mk (fun _ => ?_) (fun _ => ?_)) <;> conv => whnf)
          | ((with_reducible refine atAr ?_); refine Ar.i64 (by omega) (by omega) ?_; conv => whnf)
          | (fail)
          | ((with_reducible refine atOps ?_); refine go 200 ?_; conv => whnf)
          | ((with_reducible refine atPlan ?_); refine Nx.runP (n := 200) rfl (by repeat (first | exact subB.nil _ | refine subB.cons rfl ?_)) ?_; conv => whnf)
          | ((with_reducible refine atAftL ?_); refine Nx.late ?_)
          | ((fail_if_success (with_reducible refine atRet ?_)); (fail_if_success (with_reducible refine atLoop ?_)); (fail_if_success (with_reducible refine atIn ?_)); (fail_if_success (with_reducible refine atDrawn ?_)); (fail_if_success (with_reducible refine atEnd ?_)); (with_reducible refine atRun ?_); refine go 200 ?_; conv => whnf))
        refine (ih2 (k + 1) (by omega) (by omega)).weak ?_ ?_ ?_ ?_
        · repeat (first | exact subE.nil _ | refine subE.cons rfl rfl ?_ | refine subE.cons' rfl (fun _ => rfl) ?_)
        · repeat (first | exact subM.nil _ | refine subM.cons rfl rfl rfl ?_)
        · repeat (first | exact subB.nil _ | refine subB.cons rfl ?_)
        · repeat (first | exact subR.nil _ | refine subR.cons rfl rfl ?_)
      | false =>
        rw [hh] at hHm hHk
        repeat' (first
          | ((with_reducible refine atBr ?_); refine BrM.yes (by omega) ?_; conv => whnf)
          | ((with_reducible refine atBr ?_); (first | refine BrM.t rfl ?_ | refine BrM.f rfl ?_ | refine BrM.dec (fun _ => ?_) (fun _ => ?_) | refine BrM.mk (fun _ => ?_) (fun _ => ?_)) <;> conv => whnf)
          | ((with_reducible refine atAr ?_); refine Ar.i64 (by omega) (by omega) ?_; conv => whnf)
          | ((with_reducible refine atOps ?_); refine go 200 ?_; conv => whnf)
          | ((with_reducible refine atPlan ?_); refine Nx.runP (n := 200) rfl (by repeat (first | exact subB.nil _ | refine subB.cons rfl ?_)) ?_; conv => whnf)
          | ((with_reducible refine atAftL ?_); refine Nx.late ?_)
          | ((fail_if_success (with_reducible refine atRet ?_)); (fail_if_success (with_reducible refine atLoop ?_)); (fail_if_success (with_reducible refine atIn ?_)); (fail_if_success (with_reducible refine atDrawn ?_)); (fail_if_success (with_reducible refine atEnd ?_)); (with_reducible refine atRun ?_); refine go 200 ?_; conv => whnf))
        refine Nx.call [1] [1] rfl rfl rfl rfl rfl hEm rfl fun v Q hQ => ?_
        obtain ⟨rfl, rfl⟩ := hQ
        repeat' (first
          | ((with_reducible refine atBr ?_); (first | refine BrM.t rfl ?_ | refine BrM.f rfl ?_ | refine BrM.dec (fun _ => ?_) (fun _ => ?_) | refine BrM.mk (fun _ => ?_) (fun _ => ?_)) <;> conv => whnf)
          | ((with_reducible refine atAr ?_); refine Ar.i64 (by omega) (by omega) ?_; conv => whnf)
          | (fail)
          | ((with_reducible refine atOps ?_); refine go 200 ?_; conv => whnf)
          | ((with_reducible refine atPlan ?_); refine Nx.runP (n := 200) rfl (by repeat (first | exact subB.nil _ | refine subB.cons rfl ?_)) ?_; conv => whnf)
          | ((with_reducible refine atAftL ?_); refine Nx.late ?_)
          | ((fail_if_success (with_reducible refine atRet ?_)); (fail_if_success (with_reducible refine atLoop ?_)); (fail_if_success (with_reducible refine atIn ?_)); (fail_if_success (with_reducible refine atDrawn ?_)); (fail_if_success (with_reducible refine atEnd ?_)); (with_reducible refine atRun ?_); refine go 200 ?_; conv => whnf))
        refine Nx.call [2] [2] rfl rfl rfl rfl rfl hEk rfl fun v Q hQ => ?_
        obtain ⟨rfl, rfl⟩ := hQ
        repeat' (first
          | ((with_reducible refine atBr ?_); refine BrM.f ((key (⟨0, 0⟩ : Ev))) ?_; conv => whnf)
          | ((with_reducible refine atBr ?_); (first | refine BrM.t rfl ?_ | refine BrM.f rfl ?_ | refine BrM.dec (fun _ => ?_) (fun _ => ?_) | refine BrM.mk (fun _ => ?_) (fun _ => ?_)) <;> conv => whnf)
          | ((with_reducible refine atAr ?_); refine Ar.i64 (by omega) (by omega) ?_; conv => whnf)
          | ((with_reducible refine atOne ?_); refine Nx.eqS rfl (.inr rfl) rfl rfl rfl rfl (by kernel_rfl) (eq39 (⟨0, 0⟩ : Ev) (⟨0, 0⟩ : Ev)) rfl ?_)
          | ((with_reducible refine atOps ?_); refine go 200 ?_; conv => whnf)
          | ((with_reducible refine atPlan ?_); refine Nx.runP (n := 200) rfl (by repeat (first | exact subB.nil _ | refine subB.cons rfl ?_)) ?_; conv => whnf)
          | ((with_reducible refine atAftL ?_); refine Nx.late ?_)
          | ((fail_if_success (with_reducible refine atRet ?_)); (fail_if_success (with_reducible refine atLoop ?_)); (fail_if_success (with_reducible refine atIn ?_)); (fail_if_success (with_reducible refine atDrawn ?_)); (fail_if_success (with_reducible refine atEnd ?_)); (with_reducible refine atRun ?_); refine go 200 ?_; conv => whnf))
        refine Nx.call [1] [1] rfl rfl rfl rfl rfl hHm rfl fun v Q hQ => ?_
        obtain ⟨rfl, rfl⟩ := hQ
        repeat' (first
          | ((with_reducible refine atBr ?_); (first | refine BrM.t rfl ?_ | refine BrM.f rfl ?_ | refine BrM.dec (fun _ => ?_) (fun _ => ?_) | refine BrM.mk (fun _ => ?_) (fun _ => ?_)) <;> conv => whnf)
          | ((with_reducible refine atAr ?_); refine Ar.i64 (by omega) (by omega) ?_; conv => whnf)
          | (fail)
          | ((with_reducible refine atOps ?_); refine go 200 ?_; conv => whnf)
          | ((with_reducible refine atPlan ?_); refine Nx.runP (n := 200) rfl (by repeat (first | exact subB.nil _ | refine subB.cons rfl ?_)) ?_; conv => whnf)
          | ((with_reducible refine atAftL ?_); refine Nx.late ?_)
          | ((fail_if_success (with_reducible refine atRet ?_)); (fail_if_success (with_reducible refine atLoop ?_)); (fail_if_success (with_reducible refine atIn ?_)); (fail_if_success (with_reducible refine atDrawn ?_)); (fail_if_success (with_reducible refine atEnd ?_)); (with_reducible refine atRun ?_); refine go 200 ?_; conv => whnf))
        refine Nx.call [2] [2] rfl rfl rfl rfl rfl hHk rfl fun v Q hQ => ?_
        obtain ⟨rfl, rfl⟩ := hQ
        repeat' (first
          | ((with_reducible refine atBr ?_); (first | refine BrM.t rfl ?_ | refine BrM.f rfl ?_ | refine BrM.dec (fun _ => ?_) (fun _ => ?_) | refine BrM.mk (fun _ => ?_) (fun _ => ?_)) <;> conv => whnf)
          | ((with_reducible refine atAr ?_); refine Ar.i64 (by omega) (by omega) ?_; conv => whnf)
          | (fail)
          | ((with_reducible refine atOps ?_); refine go 200 ?_; conv => whnf)
          | ((with_reducible refine atPlan ?_); refine Nx.runP (n := 200) rfl (by repeat (first | exact subB.nil _ | refine subB.cons rfl ?_)) ?_; conv => whnf)
          | ((with_reducible refine atAftL ?_); refine Nx.late ?_)
          | ((fail_if_success (with_reducible refine atRet ?_)); (fail_if_success (with_reducible refine atLoop ?_)); (fail_if_success (with_reducible refine atIn ?_)); (fail_if_success (with_reducible refine atDrawn ?_)); (fail_if_success (with_reducible refine atEnd ?_)); (with_reducible refine atRun ?_); refine go 200 ?_; conv => whnf))
        refine (ih2 (k + 1) (by omega) (by omega)).weak ?_ ?_ ?_ ?_
        · repeat (first | exact subE.nil _ | refine subE.cons rfl rfl ?_ | refine subE.cons' rfl (fun _ => rfl) ?_)
        · repeat (first | exact subM.nil _ | refine subM.cons rfl rfl rfl ?_)
        · repeat (first | exact subB.nil _ | refine subB.cons rfl ?_)
        · repeat (first | exact subR.nil _ | refine subR.cons rfl rfl ?_)
    | some e =>
      rw [he] at hEm hEk
      cases hh : M.p.held j k with
      | true =>
        rw [hh] at hHm hHk
        repeat' (first
          | ((with_reducible refine atBr ?_); refine BrM.yes (by omega) ?_; conv => whnf)
          | ((with_reducible refine atBr ?_); (first | refine BrM.t rfl ?_ | refine BrM.f rfl ?_ | refine BrM.dec (fun _ => ?_) (fun _ => ?_) | refine BrM.mk (fun _ => ?_) (fun _ => ?_)) <;> conv => whnf)
          | ((with_reducible refine atAr ?_); refine Ar.i64 (by omega) (by omega) ?_; conv => whnf)
          | ((with_reducible refine atOps ?_); refine go 200 ?_; conv => whnf)
          | ((with_reducible refine atPlan ?_); refine Nx.runP (n := 200) rfl (by repeat (first | exact subB.nil _ | refine subB.cons rfl ?_)) ?_; conv => whnf)
          | ((with_reducible refine atAftL ?_); refine Nx.late ?_)
          | ((fail_if_success (with_reducible refine atRet ?_)); (fail_if_success (with_reducible refine atLoop ?_)); (fail_if_success (with_reducible refine atIn ?_)); (fail_if_success (with_reducible refine atDrawn ?_)); (fail_if_success (with_reducible refine atEnd ?_)); (with_reducible refine atRun ?_); refine go 200 ?_; conv => whnf))
        refine Nx.call [1] [1] rfl rfl rfl rfl rfl hEm rfl fun v Q hQ => ?_
        obtain ⟨rfl, rfl⟩ := hQ
        repeat' (first
          | ((with_reducible refine atBr ?_); (first | refine BrM.t rfl ?_ | refine BrM.f rfl ?_ | refine BrM.dec (fun _ => ?_) (fun _ => ?_) | refine BrM.mk (fun _ => ?_) (fun _ => ?_)) <;> conv => whnf)
          | ((with_reducible refine atAr ?_); refine Ar.i64 (by omega) (by omega) ?_; conv => whnf)
          | (fail)
          | ((with_reducible refine atOps ?_); refine go 200 ?_; conv => whnf)
          | ((with_reducible refine atPlan ?_); refine Nx.runP (n := 200) rfl (by repeat (first | exact subB.nil _ | refine subB.cons rfl ?_)) ?_; conv => whnf)
          | ((with_reducible refine atAftL ?_); refine Nx.late ?_)
          | ((fail_if_success (with_reducible refine atRet ?_)); (fail_if_success (with_reducible refine atLoop ?_)); (fail_if_success (with_reducible refine atIn ?_)); (fail_if_success (with_reducible refine atDrawn ?_)); (fail_if_success (with_reducible refine atEnd ?_)); (with_reducible refine atRun ?_); refine go 200 ?_; conv => whnf))
        refine Nx.call [2] [2] rfl rfl rfl rfl rfl hEk rfl fun v Q hQ => ?_
        obtain ⟨rfl, rfl⟩ := hQ
        repeat' (first
          | ((with_reducible refine atBr ?_); refine BrM.f ((key e)) ?_; conv => whnf)
          | ((with_reducible refine atBr ?_); (first | refine BrM.t rfl ?_ | refine BrM.f rfl ?_ | refine BrM.dec (fun _ => ?_) (fun _ => ?_) | refine BrM.mk (fun _ => ?_) (fun _ => ?_)) <;> conv => whnf)
          | ((with_reducible refine atAr ?_); refine Ar.i64 (by omega) (by omega) ?_; conv => whnf)
          | ((with_reducible refine atOne ?_); refine Nx.eqS rfl (.inr rfl) rfl rfl rfl rfl (by kernel_rfl) (eq39 e e) rfl ?_)
          | ((with_reducible refine atOps ?_); refine go 200 ?_; conv => whnf)
          | ((with_reducible refine atPlan ?_); refine Nx.runP (n := 200) rfl (by repeat (first | exact subB.nil _ | refine subB.cons rfl ?_)) ?_; conv => whnf)
          | ((with_reducible refine atAftL ?_); refine Nx.late ?_)
          | ((fail_if_success (with_reducible refine atRet ?_)); (fail_if_success (with_reducible refine atLoop ?_)); (fail_if_success (with_reducible refine atIn ?_)); (fail_if_success (with_reducible refine atDrawn ?_)); (fail_if_success (with_reducible refine atEnd ?_)); (with_reducible refine atRun ?_); refine go 200 ?_; conv => whnf))
        refine Nx.call [1] [1] rfl rfl rfl rfl rfl hHm rfl fun v Q hQ => ?_
        obtain ⟨rfl, rfl⟩ := hQ
        repeat' (first
          | ((with_reducible refine atBr ?_); (first | refine BrM.t rfl ?_ | refine BrM.f rfl ?_ | refine BrM.dec (fun _ => ?_) (fun _ => ?_) | refine BrM.mk (fun _ => ?_) (fun _ => ?_)) <;> conv => whnf)
          | ((with_reducible refine atAr ?_); refine Ar.i64 (by omega) (by omega) ?_; conv => whnf)
          | (fail)
          | ((with_reducible refine atOps ?_); refine go 200 ?_; conv => whnf)
          | ((with_reducible refine atPlan ?_); refine Nx.runP (n := 200) rfl (by repeat (first | exact subB.nil _ | refine subB.cons rfl ?_)) ?_; conv => whnf)
          | ((with_reducible refine atAftL ?_); refine Nx.late ?_)
          | ((fail_if_success (with_reducible refine atRet ?_)); (fail_if_success (with_reducible refine atLoop ?_)); (fail_if_success (with_reducible refine atIn ?_)); (fail_if_success (with_reducible refine atDrawn ?_)); (fail_if_success (with_reducible refine atEnd ?_)); (with_reducible refine atRun ?_); refine go 200 ?_; conv => whnf))
        refine Nx.call [2] [2] rfl rfl rfl rfl rfl hHk rfl fun v Q hQ => ?_
        obtain ⟨rfl, rfl⟩ := hQ
        repeat' (first
          | ((with_reducible refine atBr ?_); (first | refine BrM.t rfl ?_ | refine BrM.f rfl ?_ | refine BrM.dec (fun _ => ?_) (fun _ => ?_) | refine BrM.mk (fun _ => ?_) (fun _ => ?_)) <;> conv => whnf)
          | ((with_reducible refine atAr ?_); refine Ar.i64 (by omega) (by omega) ?_; conv => whnf)
          | (fail)
          | ((with_reducible refine atOps ?_); refine go 200 ?_; conv => whnf)
          | ((with_reducible refine atPlan ?_); refine Nx.runP (n := 200) rfl (by repeat (first | exact subB.nil _ | refine subB.cons rfl ?_)) ?_; conv => whnf)
          | ((with_reducible refine atAftL ?_); refine Nx.late ?_)
          | ((fail_if_success (with_reducible refine atRet ?_)); (fail_if_success (with_reducible refine atLoop ?_)); (fail_if_success (with_reducible refine atIn ?_)); (fail_if_success (with_reducible refine atDrawn ?_)); (fail_if_success (with_reducible refine atEnd ?_)); (with_reducible refine atRun ?_); refine go 200 ?_; conv => whnf))
        refine (ih2 (k + 1) (by omega) (by omega)).weak ?_ ?_ ?_ ?_
        · repeat (first | exact subE.nil _ | refine subE.cons rfl rfl ?_ | refine subE.cons' rfl (fun _ => rfl) ?_)
        · repeat (first | exact subM.nil _ | refine subM.cons rfl rfl rfl ?_)
        · repeat (first | exact subB.nil _ | refine subB.cons rfl ?_)
        · repeat (first | exact subR.nil _ | refine subR.cons rfl rfl ?_)
      | false =>
        rw [hh] at hHm hHk
        repeat' (first
          | ((with_reducible refine atBr ?_); refine BrM.yes (by omega) ?_; conv => whnf)
          | ((with_reducible refine atBr ?_); (first | refine BrM.t rfl ?_ | refine BrM.f rfl ?_ | refine BrM.dec (fun _ => ?_) (fun _ => ?_) | refine BrM.mk (fun _ => ?_) (fun _ => ?_)) <;> conv => whnf)
          | ((with_reducible refine atAr ?_); refine Ar.i64 (by omega) (by omega) ?_; conv => whnf)
          | ((with_reducible refine atOps ?_); refine go 200 ?_; conv => whnf)
          | ((with_reducible refine atPlan ?_); refine Nx.runP (n := 200) rfl (by repeat (first | exact subB.nil _ | refine subB.cons rfl ?_)) ?_; conv => whnf)
          | ((with_reducible refine atAftL ?_); refine Nx.late ?_)
          | ((fail_if_success (with_reducible refine atRet ?_)); (fail_if_success (with_reducible refine atLoop ?_)); (fail_if_success (with_reducible refine atIn ?_)); (fail_if_success (with_reducible refine atDrawn ?_)); (fail_if_success (with_reducible refine atEnd ?_)); (with_reducible refine atRun ?_); refine go 200 ?_; conv => whnf))
        refine Nx.call [1] [1] rfl rfl rfl rfl rfl hEm rfl fun v Q hQ => ?_
        obtain ⟨rfl, rfl⟩ := hQ
        repeat' (first
          | ((with_reducible refine atBr ?_); (first | refine BrM.t rfl ?_ | refine BrM.f rfl ?_ | refine BrM.dec (fun _ => ?_) (fun _ => ?_) | refine BrM.mk (fun _ => ?_) (fun _ => ?_)) <;> conv => whnf)
          | ((with_reducible refine atAr ?_); refine Ar.i64 (by omega) (by omega) ?_; conv => whnf)
          | (fail)
          | ((with_reducible refine atOps ?_); refine go 200 ?_; conv => whnf)
          | ((with_reducible refine atPlan ?_); refine Nx.runP (n := 200) rfl (by repeat (first | exact subB.nil _ | refine subB.cons rfl ?_)) ?_; conv => whnf)
          | ((with_reducible refine atAftL ?_); refine Nx.late ?_)
          | ((fail_if_success (with_reducible refine atRet ?_)); (fail_if_success (with_reducible refine atLoop ?_)); (fail_if_success (with_reducible refine atIn ?_)); (fail_if_success (with_reducible refine atDrawn ?_)); (fail_if_success (with_reducible refine atEnd ?_)); (with_reducible refine atRun ?_); refine go 200 ?_; conv => whnf))
        refine Nx.call [2] [2] rfl rfl rfl rfl rfl hEk rfl fun v Q hQ => ?_
        obtain ⟨rfl, rfl⟩ := hQ
        repeat' (first
          | ((with_reducible refine atBr ?_); refine BrM.f ((key e)) ?_; conv => whnf)
          | ((with_reducible refine atBr ?_); (first | refine BrM.t rfl ?_ | refine BrM.f rfl ?_ | refine BrM.dec (fun _ => ?_) (fun _ => ?_) | refine BrM.mk (fun _ => ?_) (fun _ => ?_)) <;> conv => whnf)
          | ((with_reducible refine atAr ?_); refine Ar.i64 (by omega) (by omega) ?_; conv => whnf)
          | ((with_reducible refine atOne ?_); refine Nx.eqS rfl (.inr rfl) rfl rfl rfl rfl (by kernel_rfl) (eq39 e e) rfl ?_)
          | ((with_reducible refine atOps ?_); refine go 200 ?_; conv => whnf)
          | ((with_reducible refine atPlan ?_); refine Nx.runP (n := 200) rfl (by repeat (first | exact subB.nil _ | refine subB.cons rfl ?_)) ?_; conv => whnf)
          | ((with_reducible refine atAftL ?_); refine Nx.late ?_)
          | ((fail_if_success (with_reducible refine atRet ?_)); (fail_if_success (with_reducible refine atLoop ?_)); (fail_if_success (with_reducible refine atIn ?_)); (fail_if_success (with_reducible refine atDrawn ?_)); (fail_if_success (with_reducible refine atEnd ?_)); (with_reducible refine atRun ?_); refine go 200 ?_; conv => whnf))
        refine Nx.call [1] [1] rfl rfl rfl rfl rfl hHm rfl fun v Q hQ => ?_
        obtain ⟨rfl, rfl⟩ := hQ
        repeat' (first
          | ((with_reducible refine atBr ?_); (first | refine BrM.t rfl ?_ | refine BrM.f rfl ?_ | refine BrM.dec (fun _ => ?_) (fun _ => ?_) | refine BrM.mk (fun _ => ?_) (fun _ => ?_)) <;> conv => whnf)
          | ((with_reducible refine atAr ?_); refine Ar.i64 (by omega) (by omega) ?_; conv => whnf)
          | (fail)
          | ((with_reducible refine atOps ?_); refine go 200 ?_; conv => whnf)
          | ((with_reducible refine atPlan ?_); refine Nx.runP (n := 200) rfl (by repeat (first | exact subB.nil _ | refine subB.cons rfl ?_)) ?_; conv => whnf)
          | ((with_reducible refine atAftL ?_); refine Nx.late ?_)
          | ((fail_if_success (with_reducible refine atRet ?_)); (fail_if_success (with_reducible refine atLoop ?_)); (fail_if_success (with_reducible refine atIn ?_)); (fail_if_success (with_reducible refine atDrawn ?_)); (fail_if_success (with_reducible refine atEnd ?_)); (with_reducible refine atRun ?_); refine go 200 ?_; conv => whnf))
        refine Nx.call [2] [2] rfl rfl rfl rfl rfl hHk rfl fun v Q hQ => ?_
        obtain ⟨rfl, rfl⟩ := hQ
        repeat' (first
          | ((with_reducible refine atBr ?_); (first | refine BrM.t rfl ?_ | refine BrM.f rfl ?_ | refine BrM.dec (fun _ => ?_) (fun _ => ?_) | refine BrM.mk (fun _ => ?_) (fun _ => ?_)) <;> conv => whnf)
          | ((with_reducible refine atAr ?_); refine Ar.i64 (by omega) (by omega) ?_; conv => whnf)
          | (fail)
          | ((with_reducible refine atOps ?_); refine go 200 ?_; conv => whnf)
          | ((with_reducible refine atPlan ?_); refine Nx.runP (n := 200) rfl (by repeat (first | exact subB.nil _ | refine subB.cons rfl ?_)) ?_; conv => whnf)
          | ((with_reducible refine atAftL ?_); refine Nx.late ?_)
          | ((fail_if_success (with_reducible refine atRet ?_)); (fail_if_success (with_reducible refine atLoop ?_)); (fail_if_success (with_reducible refine atIn ?_)); (fail_if_success (with_reducible refine atDrawn ?_)); (fail_if_success (with_reducible refine atEnd ?_)); (with_reducible refine atRun ?_); refine go 200 ?_; conv => whnf))
        refine (ih2 (k + 1) (by omega) (by omega)).weak ?_ ?_ ?_ ?_
        · repeat (first | exact subE.nil _ | refine subE.cons rfl rfl ?_ | refine subE.cons' rfl (fun _ => rfl) ?_)
        · repeat (first | exact subM.nil _ | refine subM.cons rfl rfl rfl ?_)
        · repeat (first | exact subB.nil _ | refine subB.cons rfl ?_)
        · repeat (first | exact subR.nil _ | refine subR.cons rfl rfl ?_)
  · repeat' (first
      | ((with_reducible refine atBr ?_); refine BrM.not (by omega) ?_; conv => whnf)
      | ((with_reducible refine atBr ?_); (first | refine BrM.t rfl ?_ | refine BrM.f rfl ?_ | refine BrM.dec (fun _ => ?_) (fun _ => ?_) | refine BrM.mk (fun _ => ?_) (fun _ => ?_)) <;> conv => whnf)
      | ((with_reducible refine atAr ?_); refine Ar.i64 (by omega) (by omega) ?_; conv => whnf)
      | ((with_reducible refine atOps ?_); refine go 200 ?_; conv => whnf)
      | ((with_reducible refine atPlan ?_); refine Nx.runP (n := 200) rfl (by repeat (first | exact subB.nil _ | refine subB.cons rfl ?_)) ?_; conv => whnf)
      | ((with_reducible refine atAftL ?_); refine Nx.late ?_)
      | ((fail_if_success (with_reducible refine atRet ?_)); (fail_if_success (with_reducible refine atLoop ?_)); (fail_if_success (with_reducible refine atIn ?_)); (fail_if_success (with_reducible refine atDrawn ?_)); (fail_if_success (with_reducible refine atEnd ?_)); (with_reducible refine atRun ?_); refine go 200 ?_; conv => whnf))
    refine Nx.loop (X := Nat) (fun p => p ≤ l.length) (fun p => l.length - p)
      (fun p => [(0, sl A l.length c), (3, .c (.v (ptr M0.b))), (4, .c (.v (ptr K0.b))), (44, iv j), (7, iv j), (91, sl A l.length c), (92, iv l.length), (93, iv p)]) (fun _ => []) [] (fun _ => [(1, M.sp), (2, K.sp), (9, roAll m)]) 0 (Nat.zero_le _) ?_ ?_ ?_ ?_ ?_
    · repeat (first | exact subE.nil _ | refine subE.cons rfl rfl ?_ | refine subE.cons' rfl (fun _ => rfl) ?_)
    · repeat (first | exact subM.nil _ | refine subM.cons rfl rfl rfl ?_)
    · repeat (first | exact subB.nil _ | refine subB.cons rfl ?_)
    · repeat (first | exact subR.nil _ | refine subR.cons rfl rfl ?_)
    intro p hp ih3
    by_cases hpl : p < l.length
    · have hxm := List.getElem_mem hpl
      have smx := sm.1 _ hxm
      have hAll := roAll_sees (hok _ hxm).ra
      obtain ⟨s1, _, _⟩ := smx
      repeat' (first
        | ((with_reducible refine atBr ?_); refine BrM.yes (by omega) ?_; conv => whnf)
        | ((with_reducible refine atBr ?_); (first | refine BrM.t rfl ?_ | refine BrM.f rfl ?_ | refine BrM.dec (fun _ => ?_) (fun _ => ?_) | refine BrM.mk (fun _ => ?_) (fun _ => ?_)) <;> conv => whnf)
        | ((with_reducible refine atAr ?_); refine Ar.i64 (by omega) (by omega) ?_; conv => whnf)
        | ((with_reducible refine atIdx ?_); refine Nx.idx 9 (j := p) rfl rfl rfl Try.underlying22 rfl rfl rfl OpH.enc_len hS rfl (by omega) (by omega) fun _ _ _ => ?_)
        | ((with_reducible refine atLoad ?_); first | (refine Nx.load1 9 rfl rfl rfl rfl (SeesAt.sub (by assumption) _ rfl) rfl ?_) | (refine Nx.load1 9 rfl rfl rfl rfl (by assumption) rfl ?_) | (refine Nx.load 9 rfl rfl rfl rfl (by assumption) rfl rfl ?_))
        | ((with_reducible refine atOps ?_); refine go 200 ?_; conv => whnf)
        | ((with_reducible refine atPlan ?_); refine Nx.runP (n := 200) rfl (by repeat (first | exact subB.nil _ | refine subB.cons rfl ?_)) ?_; conv => whnf)
        | ((with_reducible refine atAftL ?_); refine Nx.late ?_)
        | ((fail_if_success (with_reducible refine atRet ?_)); (fail_if_success (with_reducible refine atLoop ?_)); (fail_if_success (with_reducible refine atIn ?_)); (fail_if_success (with_reducible refine atDrawn ?_)); (fail_if_success (with_reducible refine atEnd ?_)); (with_reducible refine atRun ?_); refine go 200 ?_; conv => whnf))
      refine Nx.bind (l := 102) (fun b => ?_) rfl
      refine Nx.realS 102 (l := 102) rfl rfl ?_
      refine Nx.out 102 rfl rfl rfl rfl ?_
      refine Nx.turn [102] [5] [ownS 3 (some ⟨b, 0, none⟩) 2 2 1 [.int .i64 (l[p]).o.who, .int .i64 (l[p]).o.n.who]] rfl (fun r h hs => ?_) ?_
      · obtain ⟨r1, g1, g2, a1, a2, a3, a4, a5, a6⟩ := hs
        exact ⟨r1, g1, g2, a1, a2, a3, a4, own_blk (cells := [.int .i64 (l[p]).o.who, .int .i64 (l[p]).o.n.who]) (by show 2 ≤ maxLen; decide) _ _ a5, a6⟩
      repeat' (first
        | ((with_reducible refine atBr ?_); (first | refine BrM.t rfl ?_ | refine BrM.f rfl ?_ | refine BrM.dec (fun _ => ?_) (fun _ => ?_) | refine BrM.mk (fun _ => ?_) (fun _ => ?_)) <;> conv => whnf)
        | ((with_reducible refine atAr ?_); refine Ar.i64 (by omega) (by omega) ?_; conv => whnf)
        | (fail)
        | ((with_reducible refine atOps ?_); refine go 200 ?_; conv => whnf)
        | ((with_reducible refine atPlan ?_); refine Nx.runP (n := 200) rfl (by repeat (first | exact subB.nil _ | refine subB.cons rfl ?_)) ?_; conv => whnf)
        | ((with_reducible refine atAftL ?_); refine Nx.late ?_)
        | ((fail_if_success (with_reducible refine atRet ?_)); (fail_if_success (with_reducible refine atLoop ?_)); (fail_if_success (with_reducible refine atIn ?_)); (fail_if_success (with_reducible refine atDrawn ?_)); (fail_if_success (with_reducible refine atEnd ?_)); (with_reducible refine atRun ?_); refine go 200 ?_; conv => whnf))
      refine Nx.appendS 5 9 (sz := 1) (by_ := 8) rfl rfl rfl Try.underlying35 rfl rfl rfl rfl hAll (inC_one _) (by unfold maxLen; omega) (by omega) fun B bc => ?_
      obtain ⟨ws, hws⟩ : ∃ ws : List Int, ws = (l[p]).o.who :: (l[p]).o.n.who :: (l[p]).o.all := ⟨_, rfl⟩
      have hwl : 2 + (l[p]).o.all.length = ws.length := by rw [hws]; simp; omega
      have hwc : [Value.int .i64 (l[p]).o.who, .int .i64 (l[p]).o.n.who] ++ (l[p]).o.all.flatMap inC = ws.flatMap inC := by rw [hws]; rfl
      rw [hwl, hwc]
      have hW := ownS_sees 3 B ws.length bc 1 (ws.flatMap inC)
      have hws32 : ws.length ≤ 32 := by omega
      repeat' (first
        | ((with_reducible refine atBr ?_); (first | refine BrM.t rfl ?_ | refine BrM.f rfl ?_ | refine BrM.dec (fun _ => ?_) (fun _ => ?_) | refine BrM.mk (fun _ => ?_) (fun _ => ?_)) <;> conv => whnf)
        | ((with_reducible refine atAr ?_); refine Ar.i64 (by omega) (by omega) ?_; conv => whnf)
        | (fail)
        | ((with_reducible refine atOps ?_); refine go 200 ?_; conv => whnf)
        | ((with_reducible refine atPlan ?_); refine Nx.runP (n := 200) rfl (by repeat (first | exact subB.nil _ | refine subB.cons rfl ?_)) ?_; conv => whnf)
        | ((with_reducible refine atAftL ?_); refine Nx.late ?_)
        | ((fail_if_success (with_reducible refine atRet ?_)); (fail_if_success (with_reducible refine atLoop ?_)); (fail_if_success (with_reducible refine atIn ?_)); (fail_if_success (with_reducible refine atDrawn ?_)); (fail_if_success (with_reducible refine atEnd ?_)); (with_reducible refine atRun ?_); refine go 200 ?_; conv => whnf))
      refine Nx.loop (X := Nat) (fun q => q ≤ ws.length) (fun q => ws.length - q)
        (fun q => [(0, sl A l.length c), (3, .c (.v (ptr M0.b))), (4, .c (.v (ptr K0.b))), (44, iv j), (7, iv j), (91, sl A l.length c), (92, iv l.length), (93, iv p), (105, sl B ws.length bc), (106, iv ws.length), (107, iv q)]) (fun _ => []) [] (fun _ => [(1, M.sp), (2, K.sp), (9, roAll m), (5, ownS 3 B ws.length bc 1 (ws.flatMap inC))]) 0 (Nat.zero_le _) ?_ ?_ ?_ ?_ ?_
      · repeat (first | exact subE.nil _ | refine subE.cons rfl rfl ?_ | refine subE.cons' rfl (fun _ => rfl) ?_)
      · repeat (first | exact subM.nil _ | refine subM.cons rfl rfl rfl ?_)
      · repeat (first | exact subB.nil _ | refine subB.cons rfl ?_)
      · repeat (first | exact subR.nil _ | refine subR.cons rfl rfl ?_)
      intro q hq ih4
      by_cases hql : q < ws.length
      · have hCm := Cursor_ok M hm ws[q] j
        have hCk := Cursor_ok K hmK ws[q] j
        rw [hMb] at hCm
        rw [hKb, hKp] at hCk
        cases hcu : M.p.cursor ws[q] j with
        | none =>
          rw [hcu] at hCm hCk
          repeat' (first
            | ((with_reducible refine atBr ?_); refine BrM.yes (by omega) ?_; conv => whnf)
            | ((with_reducible refine atBr ?_); (first | refine BrM.t rfl ?_ | refine BrM.f rfl ?_ | refine BrM.dec (fun _ => ?_) (fun _ => ?_) | refine BrM.mk (fun _ => ?_) (fun _ => ?_)) <;> conv => whnf)
            | ((with_reducible refine atAr ?_); refine Ar.i64 (by omega) (by omega) ?_; conv => whnf)
            | ((with_reducible refine atIdx ?_); refine Nx.idx 5 (j := q) rfl rfl rfl Try.underlying35 rfl rfl rfl inC_len hW rfl (by omega) (by omega) fun _ _ _ => ?_)
            | ((with_reducible refine atLoad ?_); first | (refine Nx.load1 5 rfl rfl rfl rfl (SeesAt.sub (by assumption) _ rfl) rfl ?_) | (refine Nx.load1 5 rfl rfl rfl rfl (by assumption) rfl ?_) | (refine Nx.load 5 rfl rfl rfl rfl (by assumption) rfl rfl ?_))
            | ((with_reducible refine atOps ?_); refine go 200 ?_; conv => whnf)
            | ((with_reducible refine atPlan ?_); refine Nx.runP (n := 200) rfl (by repeat (first | exact subB.nil _ | refine subB.cons rfl ?_)) ?_; conv => whnf)
            | ((with_reducible refine atAftL ?_); refine Nx.late ?_)
            | ((fail_if_success (with_reducible refine atRet ?_)); (fail_if_success (with_reducible refine atLoop ?_)); (fail_if_success (with_reducible refine atIn ?_)); (fail_if_success (with_reducible refine atDrawn ?_)); (fail_if_success (with_reducible refine atEnd ?_)); (with_reducible refine atRun ?_); refine go 200 ?_; conv => whnf))
          refine Nx.call [1] [1] rfl rfl rfl rfl rfl hCm rfl fun v Q hQ => ?_
          obtain ⟨rfl, rfl⟩ := hQ
          repeat' (first
            | ((with_reducible refine atBr ?_); (first | refine BrM.t rfl ?_ | refine BrM.f rfl ?_ | refine BrM.dec (fun _ => ?_) (fun _ => ?_) | refine BrM.mk (fun _ => ?_) (fun _ => ?_)) <;> conv => whnf)
            | ((with_reducible refine atAr ?_); refine Ar.i64 (by omega) (by omega) ?_; conv => whnf)
            | (fail)
            | ((with_reducible refine atOps ?_); refine go 200 ?_; conv => whnf)
            | ((with_reducible refine atPlan ?_); refine Nx.runP (n := 200) rfl (by repeat (first | exact subB.nil _ | refine subB.cons rfl ?_)) ?_; conv => whnf)
            | ((with_reducible refine atAftL ?_); refine Nx.late ?_)
            | ((fail_if_success (with_reducible refine atRet ?_)); (fail_if_success (with_reducible refine atLoop ?_)); (fail_if_success (with_reducible refine atIn ?_)); (fail_if_success (with_reducible refine atDrawn ?_)); (fail_if_success (with_reducible refine atEnd ?_)); (with_reducible refine atRun ?_); refine go 200 ?_; conv => whnf))
          refine Nx.call [2] [2] rfl rfl rfl rfl rfl hCk rfl fun v Q hQ => ?_
          obtain ⟨rfl, rfl⟩ := hQ
          repeat' (first
            | ((with_reducible refine atBr ?_); refine BrM.not (by omega) ?_; conv => whnf)
            | ((with_reducible refine atBr ?_); (first | refine BrM.t rfl ?_ | refine BrM.f rfl ?_ | refine BrM.dec (fun _ => ?_) (fun _ => ?_) | refine BrM.mk (fun _ => ?_) (fun _ => ?_)) <;> conv => whnf)
            | ((with_reducible refine atAr ?_); refine Ar.i64 (by omega) (by omega) ?_; conv => whnf)
            | ((with_reducible refine atOps ?_); refine go 200 ?_; conv => whnf)
            | ((with_reducible refine atPlan ?_); refine Nx.runP (n := 200) rfl (by repeat (first | exact subB.nil _ | refine subB.cons rfl ?_)) ?_; conv => whnf)
            | ((with_reducible refine atAftL ?_); refine Nx.late ?_)
            | ((fail_if_success (with_reducible refine atRet ?_)); (fail_if_success (with_reducible refine atLoop ?_)); (fail_if_success (with_reducible refine atIn ?_)); (fail_if_success (with_reducible refine atDrawn ?_)); (fail_if_success (with_reducible refine atEnd ?_)); (with_reducible refine atRun ?_); refine go 200 ?_; conv => whnf))
          refine (ih4 (q + 1) (by omega) (by omega)).weak ?_ ?_ ?_ ?_
          · repeat (first | exact subE.nil _ | refine subE.cons rfl rfl ?_ | refine subE.cons' rfl (fun _ => rfl) ?_)
          · repeat (first | exact subM.nil _ | refine subM.cons rfl rfl rfl ?_)
          · repeat (first | exact subB.nil _ | refine subB.cons rfl ?_)
          · repeat (first | exact subR.nil _ | refine subR.cons rfl rfl ?_)
        | some cu =>
          rw [hcu] at hCm hCk
          repeat' (first
            | ((with_reducible refine atBr ?_); refine BrM.yes (by omega) ?_; conv => whnf)
            | ((with_reducible refine atBr ?_); (first | refine BrM.t rfl ?_ | refine BrM.f rfl ?_ | refine BrM.dec (fun _ => ?_) (fun _ => ?_) | refine BrM.mk (fun _ => ?_) (fun _ => ?_)) <;> conv => whnf)
            | ((with_reducible refine atAr ?_); refine Ar.i64 (by omega) (by omega) ?_; conv => whnf)
            | ((with_reducible refine atIdx ?_); refine Nx.idx 5 (j := q) rfl rfl rfl Try.underlying35 rfl rfl rfl inC_len hW rfl (by omega) (by omega) fun _ _ _ => ?_)
            | ((with_reducible refine atLoad ?_); first | (refine Nx.load1 5 rfl rfl rfl rfl (SeesAt.sub (by assumption) _ rfl) rfl ?_) | (refine Nx.load1 5 rfl rfl rfl rfl (by assumption) rfl ?_) | (refine Nx.load 5 rfl rfl rfl rfl (by assumption) rfl rfl ?_))
            | ((with_reducible refine atOps ?_); refine go 200 ?_; conv => whnf)
            | ((with_reducible refine atPlan ?_); refine Nx.runP (n := 200) rfl (by repeat (first | exact subB.nil _ | refine subB.cons rfl ?_)) ?_; conv => whnf)
            | ((with_reducible refine atAftL ?_); refine Nx.late ?_)
            | ((fail_if_success (with_reducible refine atRet ?_)); (fail_if_success (with_reducible refine atLoop ?_)); (fail_if_success (with_reducible refine atIn ?_)); (fail_if_success (with_reducible refine atDrawn ?_)); (fail_if_success (with_reducible refine atEnd ?_)); (with_reducible refine atRun ?_); refine go 200 ?_; conv => whnf))
          refine Nx.call [1] [1] rfl rfl rfl rfl rfl hCm rfl fun v Q hQ => ?_
          obtain ⟨rfl, rfl⟩ := hQ
          repeat' (first
            | ((with_reducible refine atBr ?_); (first | refine BrM.t rfl ?_ | refine BrM.f rfl ?_ | refine BrM.dec (fun _ => ?_) (fun _ => ?_) | refine BrM.mk (fun _ => ?_) (fun _ => ?_)) <;> conv => whnf)
            | ((with_reducible refine atAr ?_); refine Ar.i64 (by omega) (by omega) ?_; conv => whnf)
            | (fail)
            | ((with_reducible refine atOps ?_); refine go 200 ?_; conv => whnf)
            | ((with_reducible refine atPlan ?_); refine Nx.runP (n := 200) rfl (by repeat (first | exact subB.nil _ | refine subB.cons rfl ?_)) ?_; conv => whnf)
            | ((with_reducible refine atAftL ?_); refine Nx.late ?_)
            | ((fail_if_success (with_reducible refine atRet ?_)); (fail_if_success (with_reducible refine atLoop ?_)); (fail_if_success (with_reducible refine atIn ?_)); (fail_if_success (with_reducible refine atDrawn ?_)); (fail_if_success (with_reducible refine atEnd ?_)); (with_reducible refine atRun ?_); refine go 200 ?_; conv => whnf))
          refine Nx.call [2] [2] rfl rfl rfl rfl rfl hCk rfl fun v Q hQ => ?_
          obtain ⟨rfl, rfl⟩ := hQ
          repeat' (first
            | ((with_reducible refine atBr ?_); refine BrM.not (by omega) ?_; conv => whnf)
            | ((with_reducible refine atBr ?_); (first | refine BrM.t rfl ?_ | refine BrM.f rfl ?_ | refine BrM.dec (fun _ => ?_) (fun _ => ?_) | refine BrM.mk (fun _ => ?_) (fun _ => ?_)) <;> conv => whnf)
            | ((with_reducible refine atAr ?_); refine Ar.i64 (by omega) (by omega) ?_; conv => whnf)
            | ((with_reducible refine atOps ?_); refine go 200 ?_; conv => whnf)
            | ((with_reducible refine atPlan ?_); refine Nx.runP (n := 200) rfl (by repeat (first | exact subB.nil _ | refine subB.cons rfl ?_)) ?_; conv => whnf)
            | ((with_reducible refine atAftL ?_); refine Nx.late ?_)
            | ((fail_if_success (with_reducible refine atRet ?_)); (fail_if_success (with_reducible refine atLoop ?_)); (fail_if_success (with_reducible refine atIn ?_)); (fail_if_success (with_reducible refine atDrawn ?_)); (fail_if_success (with_reducible refine atEnd ?_)); (with_reducible refine atRun ?_); refine go 200 ?_; conv => whnf))
          refine (ih4 (q + 1) (by omega) (by omega)).weak ?_ ?_ ?_ ?_
          · repeat (first | exact subE.nil _ | refine subE.cons rfl rfl ?_ | refine subE.cons' rfl (fun _ => rfl) ?_)
          · repeat (first | exact subM.nil _ | refine subM.cons rfl rfl rfl ?_)
          · repeat (first | exact subB.nil _ | refine subB.cons rfl ?_)
          · repeat (first | exact subR.nil _ | refine subR.cons rfl rfl ?_)
      · repeat' (first
          | ((with_reducible refine atBr ?_); refine BrM.not (by omega) ?_; conv => whnf)
          | ((with_reducible refine atBr ?_); (first | refine BrM.t rfl ?_ | refine BrM.f rfl ?_ | refine BrM.dec (fun _ => ?_) (fun _ => ?_) | refine BrM.mk (fun _ => ?_) (fun _ => ?_)) <;> conv => whnf)
          | ((with_reducible refine atAr ?_); refine Ar.i64 (by omega) (by omega) ?_; conv => whnf)
          | ((with_reducible refine atOps ?_); refine go 200 ?_; conv => whnf)
          | ((with_reducible refine atPlan ?_); refine Nx.runP (n := 200) rfl (by repeat (first | exact subB.nil _ | refine subB.cons rfl ?_)) ?_; conv => whnf)
          | ((with_reducible refine atAftL ?_); refine Nx.late ?_)
          | ((fail_if_success (with_reducible refine atRet ?_)); (fail_if_success (with_reducible refine atLoop ?_)); (fail_if_success (with_reducible refine atIn ?_)); (fail_if_success (with_reducible refine atDrawn ?_)); (fail_if_success (with_reducible refine atEnd ?_)); (with_reducible refine atRun ?_); refine go 200 ?_; conv => whnf))
        refine (ih3 (p + 1) (by omega) (by omega)).weak ?_ ?_ ?_ ?_
        · repeat (first | exact subE.nil _ | refine subE.cons rfl rfl ?_ | refine subE.cons' rfl (fun _ => rfl) ?_)
        · repeat (first | exact subM.nil _ | refine subM.cons rfl rfl rfl ?_)
        · repeat (first | exact subB.nil _ | refine subB.cons rfl ?_)
        · repeat (first | exact subR.nil _ | refine subR.cons rfl rfl ?_)
    · repeat' (first
        | ((with_reducible refine atBr ?_); refine BrM.not (by omega) ?_; conv => whnf)
        | ((with_reducible refine atBr ?_); (first | refine BrM.t rfl ?_ | refine BrM.f rfl ?_ | refine BrM.dec (fun _ => ?_) (fun _ => ?_) | refine BrM.mk (fun _ => ?_) (fun _ => ?_)) <;> conv => whnf)
        | ((with_reducible refine atAr ?_); refine Ar.i64 (by omega) (by omega) ?_; conv => whnf)
        | ((with_reducible refine atOps ?_); refine go 200 ?_; conv => whnf)
        | ((with_reducible refine atPlan ?_); refine Nx.runP (n := 200) rfl (by repeat (first | exact subB.nil _ | refine subB.cons rfl ?_)) ?_; conv => whnf)
        | ((with_reducible refine atAftL ?_); refine Nx.late ?_)
        | ((fail_if_success (with_reducible refine atRet ?_)); (fail_if_success (with_reducible refine atLoop ?_)); (fail_if_success (with_reducible refine atIn ?_)); (fail_if_success (with_reducible refine atDrawn ?_)); (fail_if_success (with_reducible refine atEnd ?_)); (with_reducible refine atRun ?_); refine go 200 ?_; conv => whnf))
      refine (ih (j + 1) (by omega) (by omega)).weak ?_ ?_ ?_ ?_
      · repeat (first | exact subE.nil _ | refine subE.cons rfl rfl ?_ | refine subE.cons' rfl (fun _ => rfl) ?_)
      · repeat (first | exact subM.nil _ | refine subM.cons rfl rfl rfl ?_)
      · repeat (first | exact subB.nil _ | refine subB.cons rfl ?_)
      · repeat (first | exact subR.nil _ | refine subR.cons rfl rfl ?_)
end Go.Proofs.Ytngfadijcpnblaa

/- Rows of norialaw23: operations among the arguments. -/
namespace Go.Proofs.Ytngfadijcpnblaa
open Go.ChangeShapes Go.WideShapes Go.ChangeAt Go.RowKit Go.Deep
set_option maxRecDepth 100000
theorem laid0 : laidOutB Try.prog = true := by kernel_rfl
theorem own0 : ownKnob Try.prog.godebug = none := by kernel_rfl
theorem chk0 : Try.checked.prog = Try.prog := rfl
section
variable {H : Type} {enc : TypeId × Value → H} {P : Program} {w : World} {base : Nat} {spare : Nat → Bool} {held : Bool}
theorem open_cells {α : Type} {encA : α → List Value} {Q : α → Prop} {t e : TypeId} {C : Nat} {fuel : Nat} {cs0 : List Value} {x0 : DataW H × List MemPlace} (ht : P.underlying t = some (.slice e)) (hC : P.cellsOf e = C) (hC0 : 0 < C)
    (hopen : ∀ (n : Nat) (cs : List Value) (y : DataW H × List MemPlace), DataW.trod enc P w base spare held n e cs = some y → ∃ x, cs = encA x ∧ Q x) (he : ∀ x, (encA x).length = C)
    (h : DataW.trod enc P w base spare held fuel t cs0 = some x0) :
    ∃ (A : Option Addr) (l : List α) (c : Nat), cs0 = [.slice A l.length c] ∧ Rd (hw w) A l.length C (l.flatMap encA) ∧ (∀ x ∈ l, Q x) ∧ l.length ≤ c ∧ c ≤ maxLen := by
  rcases open_slice ht h with ⟨hcs, _⟩ | ⟨a, len, cap, m, n, D, Pl, hcs, _, hlc, hcm, hm, _, hi⟩
  · exact ⟨none, [], 0, hcs, ⟨by simp, fun h => by simp at h⟩, by simp, Nat.le_refl _, Nat.zero_le _⟩
  · have hml : len ≤ m := by rw [hm]; split <;> omega
    obtain ⟨l, hl, hq⟩ := list_of (F := fun i x => w.cells? base (a.add (i * C)) C = some (encA x) ∧ Q x) len (fun i hi' => by
      obtain ⟨cs', h1, h2⟩ := hi i (by omega)
      obtain ⟨x, rfl, hx⟩ := hopen _ _ _ h2
      rw [hC] at h1
      exact ⟨x, h1, hx⟩)
    subst hl
    refine ⟨some a, l, cap, hcs, ⟨flat_len he l, fun hpos => ?_⟩, fun x hx => ?_, hlc, hcm⟩
    · have hcell : ∀ j, j < l.length * C → w.cell? (a.add j) = (l.flatMap encA)[j]? := by
        intro j hj
        have hjC : j % C < C := Nat.mod_lt _ hC0
        have hjd : j / C < l.length := Nat.div_lt_of_lt_mul (by rw [Nat.mul_comm]; exact hj)
        have e1 : j = j / C * C + j % C := by rw [Nat.mul_comm]; exact (Nat.div_add_mod j C).symm
        obtain ⟨_, _, hat⟩ := World.cells?_some (hq _ hjd).1
        have h2 := hat _ hjC
        rw [Go.Deep.add_add, ← e1] at h2
        rw [h2, ← flat_at he l _ hjd _ hjC, ← e1]
      have h0 := hcell 0 (by exact Nat.mul_pos hpos hC0)
      have hlen := flat_len he l
      have hp0 : 0 < (l.flatMap encA).length := by rw [hlen]; exact Nat.mul_pos hpos hC0
      rw [List.getElem?_eq_getElem hp0] at h0
      obtain ⟨b, off, spot⟩ := a
      have hspot : spot = none := by simpa [Addr.add] using World.cell?_spot h0
      subst hspot
      unfold World.cell? at h0
      split at h0
      · rename_i c tt fr hb
        simp only [Addr.add, if_true] at hb
        refine ⟨b, off, c, tt, fr, rfl, hb, fun j hj => ?_⟩
        have := hcell j hj
        rw [← this, add_plain]
        unfold World.cell?
        dsimp only
        rw [hb]
        rfl
      · cases h0
    · obtain ⟨i, hi1, rfl⟩ := List.getElem_of_mem hx
      exact (hq i hi1).2

end
structure OpI (x : OpH) : Prop where
  kind : I64 x.o.kind
  who : I64 x.o.who
  ring : I64 x.o.ring
  at' : I64 x.o.from'
  nn : I64 x.o.n.who ∧ I64 x.o.n.ring ∧ I64 x.o.n.deed ∧ I64 x.o.n.lo ∧ I64 x.o.n.seq ∧ I64 x.o.n.x.key ∧ I64 x.o.n.x.val ∧ I64 x.o.n.code
theorem open_op {H : Type} {enc : TypeId × Value → H} {W : World} {base : Nat} {sp : Nat → Bool} {held : Bool} {fuel : Nat} {cs : List Value} {y : DataW H × List MemPlace} (hf : DataW.trod enc Try.prog W base sp held fuel 44 cs = some y) :
    ∃ x : OpH, cs = x.enc ∧ OpOk (hw W) x ∧ OpI x := by
  obtain ⟨xs, n, _, _, hlen, hxl, hfld⟩ := DataW.trod_struct Try.underlying44 hf
  have hxl : xs.length = 9 := hxl
  have hlen : cs.length = 16 := hlen.trans (by kernel_rfl)
  have at_ : ∀ i, i < 9 → ∃ z, xs[i]? = some z := fun i hi => ⟨_, List.getElem?_eq_getElem (by omega)⟩
  have c2 : Try.prog.cellsOf 2 = 1 := by kernel_rfl
  have c3 : Try.prog.cellsOf 3 = 1 := by kernel_rfl
  have c4 : Try.prog.cellsOf 4 = 1 := by kernel_rfl
  have c35 : Try.prog.cellsOf 35 = 1 := by kernel_rfl
  have c36 : Try.prog.cellsOf 36 = 1 := by kernel_rfl
  have c39 : Try.prog.cellsOf 39 = 2 := by kernel_rfl
  have c42 : Try.prog.cellsOf 42 = 8 := by kernel_rfl
  have g0 : DataW.trod enc Try.prog W base sp held n 3 ((cs.drop 0).take (Try.prog.cellsOf 3)) = xs[0]? := hfld 0 _ rfl
  rw [c3] at g0
  have g1 : DataW.trod enc Try.prog W base sp held n 3 ((cs.drop 1).take (Try.prog.cellsOf 3)) = xs[1]? := hfld 1 _ rfl
  rw [c3] at g1
  have g2 : DataW.trod enc Try.prog W base sp held n 3 ((cs.drop 2).take (Try.prog.cellsOf 3)) = xs[2]? := hfld 2 _ rfl
  rw [c3] at g2
  have g3 : DataW.trod enc Try.prog W base sp held n 2 ((cs.drop 3).take (Try.prog.cellsOf 2)) = xs[3]? := hfld 3 _ rfl
  rw [c2] at g3
  have g4 : DataW.trod enc Try.prog W base sp held n 4 ((cs.drop 4).take (Try.prog.cellsOf 4)) = xs[4]? := hfld 4 _ rfl
  rw [c4] at g4
  have g5 : DataW.trod enc Try.prog W base sp held n 35 ((cs.drop 5).take (Try.prog.cellsOf 35)) = xs[5]? := hfld 5 _ rfl
  rw [c35] at g5
  have g6 : DataW.trod enc Try.prog W base sp held n 35 ((cs.drop 6).take (Try.prog.cellsOf 35)) = xs[6]? := hfld 6 _ rfl
  rw [c35] at g6
  have g7 : DataW.trod enc Try.prog W base sp held n 36 ((cs.drop 7).take (Try.prog.cellsOf 36)) = xs[7]? := hfld 7 _ rfl
  rw [c36] at g7
  have g8 : DataW.trod enc Try.prog W base sp held n 42 ((cs.drop 8).take (Try.prog.cellsOf 42)) = xs[8]? := hfld 8 _ rfl
  rw [c42] at g8
  obtain ⟨z0, e0⟩ := at_ 0 (by omega)
  rw [e0] at g0
  obtain ⟨z1, e1⟩ := at_ 1 (by omega)
  rw [e1] at g1
  obtain ⟨z2, e2⟩ := at_ 2 (by omega)
  rw [e2] at g2
  obtain ⟨z3, e3⟩ := at_ 3 (by omega)
  rw [e3] at g3
  obtain ⟨z4, e4⟩ := at_ 4 (by omega)
  rw [e4] at g4
  obtain ⟨z5, e5⟩ := at_ 5 (by omega)
  rw [e5] at g5
  obtain ⟨z6, e6⟩ := at_ 6 (by omega)
  rw [e6] at g6
  obtain ⟨z7, e7⟩ := at_ 7 (by omega)
  rw [e7] at g7
  obtain ⟨z8, e8⟩ := at_ 8 (by omega)
  rw [e8] at g8
  obtain ⟨n0, q0, _, w0⟩ := DataW.trod_int Try.underlying3 g0
  obtain ⟨n1, q1, _, w1⟩ := DataW.trod_int Try.underlying3 g1
  obtain ⟨n2, q2, _, w2⟩ := DataW.trod_int Try.underlying3 g2
  obtain ⟨n3, q3, _, w3⟩ := DataW.trod_int Try.underlying2 g3
  obtain ⟨n4, q4, _⟩ := DataW.trod_bool Try.underlying4 g4
  obtain ⟨A5, l5, k5, q5, r5, w5, h5, _⟩ := open_cells (encA := inC) (Q := I64) Try.underlying35 c3 (by omega) (fun n cs y hy => by
    obtain ⟨k, hk, _, hw⟩ := DataW.trod_int Try.underlying3 hy
    exact ⟨k, hk, I64.of_wf hw⟩) (fun _ => rfl) g5
  obtain ⟨A6, l6, k6, q6, r6, w6, h6, _⟩ := open_cells (encA := inC) (Q := I64) Try.underlying35 c3 (by omega) (fun n cs y hy => by
    obtain ⟨k, hk, _, hw⟩ := DataW.trod_int Try.underlying3 hy
    exact ⟨k, hk, I64.of_wf hw⟩) (fun _ => rfl) g6
  obtain ⟨A7, l7, k7, q7, r7, w7, h7, _⟩ := open_cells (encA := evC) (Q := fun x => I64 x.key ∧ I64 x.val) Try.underlying36 c39 (by omega) (fun n cs y hy => by
    obtain ⟨l, hl, hw⟩ := trod_ints 4 (t := 39) (by kernel_rfl) hy
    have hl2 : cs.length = 2 := by
      obtain ⟨_, _, _, _, hlen, _⟩ := DataW.trod_struct Try.underlying39 hy
      exact hlen.trans c39
    rw [hl] at hl2
    match l, hl2, hl, hw with
    | [a, b], _, hl, hw => exact ⟨⟨a, b⟩, hl, hw a (by simp), hw b (by simp)⟩) (fun _ => rfl) g7
  obtain ⟨l8, q8, w8⟩ := trod_ints 4 (t := 42) (by kernel_rfl) g8
  match cs, hlen with
  | [a0, a1, a2, a3, a4, a5, a6, a7, b0, b1, b2, b3, b4, b5, b6, b7], _ =>
    simp at q0 q1 q2 q3 q4 q5 q6 q7
    have q8 : [b0, b1, b2, b3, b4, b5, b6, b7] = ints64 l8 := q8
    match l8, q8, w8 with
    | [d0, d1, d2, d3, d4, d5, d6, d7], q8, w8 =>
      simp at q8
      obtain ⟨rfl, rfl, rfl, rfl, rfl, rfl, rfl, rfl⟩ := q8
      subst q0 q1 q2 q3 q4 q5 q6 q7
      exact ⟨⟨⟨n0, n1, n2, n3, n4, l5, l6, l7, ⟨d0, d1, d2, d3, d4, ⟨d5, d6⟩, d7⟩⟩, A5, k5, A6, k6, A7, k7⟩, rfl, ⟨r5, r6, r7, h5⟩, ⟨I64.of_wf w0, I64.of_wf w1, I64.of_wf w2, I64.of_wf w3, w8 d0 (by simp), w8 d1 (by simp), w8 d2 (by simp), w8 d3 (by simp), w8 d4 (by simp), w8 d5 (by simp), w8 d6 (by simp), w8 d7 (by simp)⟩⟩
theorem open_ops {H : Type} {enc : TypeId × Value → H} {W : World} {base : Nat} {sp : Nat → Bool} {held : Bool} {r : Reach} {b0 : Nat} {v : Value} {d : DataW H} {p : List MemPlace} (hval : Value.okWide Try.prog W r b0 22 v) (h : DataW.Trod enc Try.prog W base sp held 22 v d p) :
    ∃ (A : Option Addr) (l : List OpH) (c : Nat), v = .slice A l.length c ∧ Rd (hw W) A l.length 16 (l.flatMap OpH.enc) ∧ (∀ x ∈ l, OpOk (hw W) x ∧ OpI x) ∧ l.length ≤ c ∧ c ≤ maxLen :=
  open_flat (encA := OpH.enc) (Q := fun x => OpOk (hw W) x ∧ OpI x) Try.underlying22 (show Try.prog.cellsOf 44 = 16 by kernel_rfl) (by omega) (fun _ _ _ hy => open_op hy) OpH.enc_len hval h
end Go.Proofs.Ytngfadijcpnblaa
