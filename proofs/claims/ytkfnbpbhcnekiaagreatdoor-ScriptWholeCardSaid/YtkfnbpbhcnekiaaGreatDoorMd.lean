/- How the document reads a line: all that is left. -/
import Derived.Test.YtkfnbpbhcnekiaaGreatDoorMc
import Derived.Laws.Externs
set_option linter.unusedSimpArgs false
set_option linter.unusedVariables false
/- The reader of words: all numbers, all events that are left. -/
namespace Go.Proofs.YtkfnbpbhcnekiaaGreatDoor
open Go.RowKit Go.Lib
attribute [local irreducible] Nx Ar BrM
set_option maxRecDepth 20000
set_option maxHeartbeats 4000000

theorem blk_sees (b : Nat) (vs : List Value) (t : TypeId) (fr : Nat × Nat) (j : Nat) {v : Value} (hv : vs[j]? = some v) : SeesAt (blk b (.cells vs.toArray t fr)) b j [v] := by
  intro r h d hs
  refine ⟨_, _, _, PH.le_un_right d _ _ (show h b = _ from hs), fun i hi => ?_⟩
  have : i = 0 := by simpa using hi
  subst this
  simpa using hv
theorem Cut_no {m : PH} (hG : Glo m) (s : Str) (hs : s.length < 4294967281) (hp : pairC 58 s = none) : FnOk Tryz.prog 62 [str s, str [58]] [roAll m] (fun v Q => v = .tuple #[str s, str [], .bool false] ∧ Q = [roAll m]) :=
  (Cut_ok hG s hs).mono fun v Q ⟨h1, h2⟩ => by rw [hp] at h1; exact ⟨h1, h2⟩
theorem Cut_yes {m : PH} (hG : Glo m) (s : Str) {a b : Str} (hs : s.length < 4294967281) (hp : pairC 58 s = some (a, b)) : FnOk Tryz.prog 62 [str s, str [58]] [roAll m] (fun v Q => v = .tuple #[str a, str b, .bool true] ∧ Q = [roAll m]) :=
  (Cut_ok hG s hs).mono fun v Q ⟨h1, h2⟩ => by rw [hp] at h1; exact ⟨h1, h2⟩
structure OtX where
  out : List Int
  pre : List Str
  ws : List Str
  bad : Bool
  A : Option Addr
  c : Nat
structure OtI (ws0 : List Str) (bad0 : Bool) (x : OtX) : Prop where
  e : ws0 = x.pre ++ x.ws
  n : x.pre.length = x.out.length
  good : x.bad = false → bad0 = false ∧ x.pre.mapM numOf = some x.out
  ill : x.bad = true → bad0 = true ∨ ws0.mapM numOf = none
theorem mapM_snoc {α : Type} {g : Str → Option α} {pre : List Str} {out : List α} {s : Str} (h : pre.mapM g = some out) : (pre ++ [s]).mapM g = (g s).map fun x => out ++ [x] := by
  rw [List.mapM_append, h]
  cases hs : g s <;> simp [hs]
theorem mapM_bad {α : Type} {g : Str → Option α} {pre ws : List Str} {s : Str} (h : g s = none) : (pre ++ s :: ws).mapM g = none := by
  rw [List.mapM_append, List.mapM_cons, h]
  cases pre.mapM g <;> rfl
theorem ints_snoc (l : List Int) (x : Int) : (l ++ [x]).map (Value.int .i64) = l.map (Value.int .i64) ++ [.int .i64 x] := by simp
abbrev intsV (l : List Int) : List Value := l.map (Value.int .i64)
theorem others_rok {m : PH} (hG : Glo m) (b : Nat) (ws : List Str) (bad : Bool) (hl : ws.length ≤ 1000000) (hs : ∀ w ∈ ws, w.length ≤ 1000000) : FnOk Tryz.prog 46 [.pointer (some ⟨b, 0, none⟩)] [roAll m, rdr b ws bad]
    (fun v Q => ∃ (l : List Int) (A : Option Addr) (c : Nat) (ws' : List Str) (bad' : Bool), v = .slice A l.length c ∧ Q = [roAll m, rdr b ws' bad', ownS 3 A l.length c 1 (intsV l)] ∧ bad' = (bad || (ws.mapM numOf).isNone || decide (64 < ws.length)) ∧ (bad' = false → ws' = [] ∧ ws.mapM numOf = some l)) := by
  refine FnOk.start Tryz.func46 rfl rfl rfl rfl fun F os tape output => ?_
  refine go 200 ?_
  conv => whnf
  refine Nx.give 3 (ownS 3 none 0 0 1 []) (own_nil _ _ _ _) ?_
  refine Nx.loop (X := OtX) (OtI ws bad) (fun x => x.ws.length)
    (fun x => [(0, .c (.v (.pointer (some ⟨b, 0, none⟩)))), (3, sl x.A x.out.length x.c)]) (fun _ => []) [] (fun x => [(0, roAll m), (1, rdr b x.ws x.bad), (3, ownS 3 x.A x.out.length x.c 1 (intsV x.out))])
    ⟨[], [], ws, bad, none, 0⟩ ⟨rfl, rfl, fun h => ⟨h, rfl⟩, fun h => .inl h⟩ ?_ ?_ ?_ ?_ ?_
  · repeat (first | exact subE.nil _ | refine subE.cons rfl rfl ?_ | refine subE.cons' rfl (fun _ => rfl) ?_)
  · repeat (first | exact subM.nil _ | refine subM.cons rfl rfl rfl ?_)
  · repeat (first | exact subB.nil _ | refine subB.cons rfl ?_)
  · repeat (first | exact subR.nil _ | refine subR.cons rfl rfl ?_)
  intro x hx ih
  have hxe := hx.e
  have hxn := hx.n
  have hgd := hx.good
  have hil := hx.ill
  clear hx
  generalize x.ws = w1 at hxe hil ih ⊢
  generalize x.bad = bd at hgd hil ⊢
  generalize x.out = out at hxn hgd ⊢
  generalize x.pre = pre at hxe hxn hgd
  generalize x.A = A1
  generalize x.c = c1
  clear x
  have hxl : pre.length + w1.length = ws.length := by rw [hxe, List.length_append]
  have hws : ∀ w ∈ w1, w.length ≤ 1000000 := fun w hw => hs w (by rw [hxe]; exact List.mem_append_right _ hw)
  refine Nx.rdO 1 50 2 rfl fun A c hc => ?_
  rcases w1 with _ | ⟨s, r⟩
  · have hpre : pre = ws := by rw [hxe, List.append_nil]
    have hlen : ws.length = out.length := by rw [← hxn, hpre]
    refine Nx.inn 50 [0] rfl ⟨rfl, rfl⟩ rfl ⟨rfl, trivial⟩ ?_
    cases bd with
    | true =>
      have hf : (bad || (ws.mapM numOf).isNone || decide (64 < ws.length)) = true := by
        rcases hil rfl with h | h <;> rw [h] <;> simp
      repeat' (first
        | ((with_reducible refine atBr ?_); refine BrM.not (by omega) ?_; conv => whnf)
        | ((with_reducible refine atBr ?_); (first | refine BrM.t rfl ?_ | refine BrM.f rfl ?_ | refine BrM.dec (fun _ => ?_) (fun _ => ?_) | refine BrM.mk (fun _ => ?_) (fun _ => ?_)) <;> conv => whnf)
        | ((with_reducible refine atAr ?_); refine Ar.i64 (by omega) (by omega) ?_; conv => whnf)
        | ((with_reducible refine atRet ?_); refine Nx.out 50 rfl rfl rfl rfl ?_; refine Nx.rdC 50 2 1 rfl (by first | rfl | omega) hc ?_; refine Nx.ret [0,1,3] Tryz.func46 rfl rfl ?_; (exact ⟨out, A1, c1, [], true, rfl, rfl, hf.symm, fun h => by cases h⟩))
        | ((with_reducible refine atOps ?_); refine go 200 ?_; conv => whnf)
        | ((with_reducible refine atPlan ?_); refine Nx.runP (n := 200) rfl (by repeat (first | exact subB.nil _ | refine subB.cons rfl ?_)) ?_; conv => whnf)
        | ((with_reducible refine atAftL ?_); refine Nx.late ?_)
        | ((fail_if_success (with_reducible refine atRet ?_)); (fail_if_success (with_reducible refine atLoop ?_)); (fail_if_success (with_reducible refine atIn ?_)); (fail_if_success (with_reducible refine atDrawn ?_)); (fail_if_success (with_reducible refine atEnd ?_)); (with_reducible refine atRun ?_); refine go 200 ?_; conv => whnf))
    | false =>
      obtain ⟨h1, h2⟩ := hgd rfl
      rw [hpre] at h2
      have hf : (bad || (ws.mapM numOf).isNone || decide (64 < ws.length)) = decide (64 < (out.length : Int)) := by
        rw [h1, h2, hlen]; simp; omega
      repeat' (first
        | ((with_reducible refine atBr ?_); refine BrM.not (by omega) ?_; conv => whnf)
        | ((with_reducible refine atBr ?_); (first | refine BrM.t rfl ?_ | refine BrM.f rfl ?_ | refine BrM.dec (fun _ => ?_) (fun _ => ?_) | refine BrM.mk (fun _ => ?_) (fun _ => ?_)) <;> conv => whnf)
        | ((with_reducible refine atAr ?_); refine Ar.i64 (by omega) (by omega) ?_; conv => whnf)
        | ((with_reducible refine atRet ?_); refine Nx.out 50 rfl rfl rfl rfl ?_; refine Nx.rdC 50 2 1 rfl (by first | rfl | omega) hc ?_; refine Nx.ret [0,1,3] Tryz.func46 rfl rfl ?_; (exact ⟨out, A1, c1, [], _, rfl, rfl, hf.symm, fun _ => ⟨rfl, h2⟩⟩))
        | ((with_reducible refine atOps ?_); refine go 200 ?_; conv => whnf)
        | ((with_reducible refine atPlan ?_); refine Nx.runP (n := 200) rfl (by repeat (first | exact subB.nil _ | refine subB.cons rfl ?_)) ?_; conv => whnf)
        | ((with_reducible refine atAftL ?_); refine Nx.late ?_)
        | ((fail_if_success (with_reducible refine atRet ?_)); (fail_if_success (with_reducible refine atLoop ?_)); (fail_if_success (with_reducible refine atIn ?_)); (fail_if_success (with_reducible refine atDrawn ?_)); (fail_if_success (with_reducible refine atEnd ?_)); (with_reducible refine atRun ?_); refine go 200 ?_; conv => whnf))
  · have hlen : (s :: r).length = r.length + 1 := rfl
    cases bd with
    | true =>
      have hf : (bad || (ws.mapM numOf).isNone || decide (64 < ws.length)) = true := by
        rcases hil rfl with h | h <;> rw [h] <;> simp
      refine Nx.inn 50 [0] rfl ⟨rfl, rfl⟩ rfl ⟨rfl, trivial⟩ ?_
      repeat' (first
        | ((with_reducible refine atBr ?_); refine BrM.yes (by omega) ?_; conv => whnf)
        | ((with_reducible refine atBr ?_); (first | refine BrM.t rfl ?_ | refine BrM.f rfl ?_ | refine BrM.dec (fun _ => ?_) (fun _ => ?_) | refine BrM.mk (fun _ => ?_) (fun _ => ?_)) <;> conv => whnf)
        | ((with_reducible refine atAr ?_); refine Ar.i64 (by omega) (by omega) ?_; conv => whnf)
        | ((with_reducible refine atRet ?_); refine Nx.out 50 rfl rfl rfl rfl ?_; refine Nx.rdC 50 2 1 rfl (by first | rfl | omega) hc ?_; refine Nx.ret [0,1,3] Tryz.func46 rfl rfl ?_; (exact ⟨out, A1, c1, _, true, rfl, rfl, hf.symm, fun h => by cases h⟩))
        | ((with_reducible refine atOps ?_); refine go 200 ?_; conv => whnf)
        | ((with_reducible refine atPlan ?_); refine Nx.runP (n := 200) rfl (by repeat (first | exact subB.nil _ | refine subB.cons rfl ?_)) ?_; conv => whnf)
        | ((with_reducible refine atAftL ?_); refine Nx.late ?_)
        | ((fail_if_success (with_reducible refine atRet ?_)); (fail_if_success (with_reducible refine atLoop ?_)); (fail_if_success (with_reducible refine atIn ?_)); (fail_if_success (with_reducible refine atDrawn ?_)); (fail_if_success (with_reducible refine atEnd ?_)); (with_reducible refine atRun ?_); refine go 200 ?_; conv => whnf))
    | false =>
      obtain ⟨h1, h2⟩ := hgd rfl
      have hms := mapM_snoc (s := s) h2
      have nx : OtI ws bad ⟨out ++ [(numOf s).getD 0], pre ++ [s], r, (false || (numOf s).isNone), none, 0⟩ := by
        refine ⟨by rw [hxe]; simp, by simp [hxn], fun h => ⟨h1, ?_⟩, fun h => .inr ?_⟩
        · cases hn : numOf s with
          | none => rw [hn] at h; cases h
          | some v => rw [hn] at hms; exact hms
        · cases hn : numOf s with
          | none => rw [hxe]; exact mapM_bad hn
          | some v => rw [hn] at h; cases h
      repeat' (first
        | ((with_reducible refine atBr ?_); refine BrM.yes (by omega) ?_; conv => whnf)
        | ((with_reducible refine atBr ?_); (first | refine BrM.t rfl ?_ | refine BrM.f rfl ?_ | refine BrM.dec (fun _ => ?_) (fun _ => ?_) | refine BrM.mk (fun _ => ?_) (fun _ => ?_)) <;> conv => whnf)
        | ((with_reducible refine atAr ?_); refine Ar.i64 (by omega) (by omega) ?_; conv => whnf)
        | ((with_reducible refine atLoad ?_); refine Nx.load1 50 rfl rfl rfl rfl ((blk_sees b _ _ _ 0 rfl)) rfl ?_)
        | ((with_reducible refine atLoad ?_); refine Nx.load1 50 rfl rfl rfl rfl ((blk_sees b _ _ _ 1 rfl)) rfl ?_)
        | (with_reducible refine atCall 43 ?_; refine Nx.rdC 50 2 1 rfl rfl hc ?_; refine Nx.call [0,1] [0,1] rfl rfl rfl rfl rfl (int_rok hG b (s :: r) false (by omega) hws) rfl fun v Q hQ => ?_; obtain ⟨rfl, rfl⟩ := hQ)
        | ((with_reducible refine atApp ?_); refine Nx.append 3 (sz := 1) (by_ := 8) (news := [.int .i64 ((numOf s).getD 0)]) rfl rfl rfl rfl rfl Tryz.underlying25 rfl rfl rfl rfl rfl (by unfold maxLen; omega) (by omega) fun A' c'' => ?_)
        | ((with_reducible refine atOps ?_); refine go 200 ?_; conv => whnf)
        | ((with_reducible refine atPlan ?_); refine Nx.runP (n := 200) rfl (by repeat (first | exact subB.nil _ | refine subB.cons rfl ?_)) ?_; conv => whnf)
        | ((with_reducible refine atAftL ?_); refine Nx.late ?_)
        | ((fail_if_success (with_reducible refine atRet ?_)); (fail_if_success (with_reducible refine atLoop ?_)); (fail_if_success (with_reducible refine atIn ?_)); (fail_if_success (with_reducible refine atDrawn ?_)); (fail_if_success (with_reducible refine atEnd ?_)); (with_reducible refine atRun ?_); refine go 200 ?_; conv => whnf))
      refine (ih ⟨out ++ [(numOf s).getD 0], pre ++ [s], r, (false || (numOf s).isNone), A', c''⟩ ⟨nx.e, nx.n, nx.good, nx.ill⟩ (by show r.length < r.length + 1; omega)).weak ?_ ?_ ?_ ?_
      · exact .cons rfl rfl (.cons rfl (by simp) (.nil _))
      · repeat (first | exact subM.nil _ | refine subM.cons rfl rfl rfl ?_)
      · repeat (first | exact subB.nil _ | refine subB.cons rfl ?_)
      · exact .cons rfl rfl (.cons rfl rfl (.cons rfl (by simp) (.nil _)))
end Go.Proofs.YtkfnbpbhcnekiaaGreatDoor

/- The reader of words: all events that are left. -/
namespace Go.Proofs.YtkfnbpbhcnekiaaGreatDoor
open Go.RowKit Go.Lib
attribute [local irreducible] Nx Ar BrM
set_option maxRecDepth 20000
set_option maxHeartbeats 1000000
def evC (x : Ev) : List Value := [.int .i64 x.key, .int .i64 x.val]
theorem evC_len (x : Ev) : (evC x).length = 2 := rfl
abbrev evsV (l : List Ev) : List Value := l.flatMap evC
structure EvX where
  out : List Ev
  pre : List Str
  ws : List Str
  bad : Bool
  A : Option Addr
  c : Nat
structure EvI (ws0 : List Str) (bad0 : Bool) (x : EvX) : Prop where
  e : ws0 = x.pre ++ x.ws
  n : x.pre.length = x.out.length
  good : x.bad = false → bad0 = false ∧ x.pre.mapM readEv = some x.out
  ill : x.bad = true → bad0 = true ∨ ws0.mapM readEv = none
theorem events_rok {m : PH} (hG : Glo m) (b : Nat) (ws : List Str) (bad : Bool) (hl : ws.length ≤ 1000000) (hs : ∀ w ∈ ws, w.length ≤ 1000000) : FnOk Tryz.prog 47 [.pointer (some ⟨b, 0, none⟩)] [roAll m, rdr b ws bad]
    (fun v Q => ∃ (l : List Ev) (A : Option Addr) (c : Nat) (ws' : List Str) (bad' : Bool), v = .slice A l.length c ∧ Q = [roAll m, rdr b ws' bad', ownS 72 A l.length c 2 (evsV l)] ∧ bad' = (bad || (ws.mapM readEv).isNone || decide (64 < ws.length)) ∧ (bad' = false → ws' = [] ∧ ws.mapM readEv = some l)) := by
  refine FnOk.start Tryz.func47 rfl rfl rfl rfl fun F os tape output => ?_
  refine go 200 ?_
  conv => whnf
  refine Nx.give 3 (ownS 72 none 0 0 2 []) (own_nil _ _ _ _) ?_
  refine Nx.loop (X := EvX) (EvI ws bad) (fun x => x.ws.length)
    (fun x => [(0, .c (.v (.pointer (some ⟨b, 0, none⟩)))), (3, sl x.A x.out.length x.c)]) (fun _ => []) [] (fun x => [(0, roAll m), (1, rdr b x.ws x.bad), (3, ownS 72 x.A x.out.length x.c 2 (evsV x.out))])
    ⟨[], [], ws, bad, none, 0⟩ ⟨rfl, rfl, fun h => ⟨h, rfl⟩, fun h => .inl h⟩ ?_ ?_ ?_ ?_ ?_
  · repeat (first | exact subE.nil _ | refine subE.cons rfl rfl ?_ | refine subE.cons' rfl (fun _ => rfl) ?_)
  · repeat (first | exact subM.nil _ | refine subM.cons rfl rfl rfl ?_)
  · repeat (first | exact subB.nil _ | refine subB.cons rfl ?_)
  · repeat (first | exact subR.nil _ | refine subR.cons rfl rfl ?_)
  intro x hx ih
  have hxe := hx.e
  have hxn := hx.n
  have hgd := hx.good
  have hil := hx.ill
  clear hx
  generalize x.ws = w1 at hxe hil ih ⊢
  generalize x.bad = bd at hgd hil ⊢
  generalize x.out = out at hxn hgd ⊢
  generalize x.pre = pre at hxe hxn hgd
  generalize x.A = A1
  generalize x.c = c1
  clear x
  have hxl : pre.length + w1.length = ws.length := by rw [hxe, List.length_append]
  have hws : ∀ w ∈ w1, w.length ≤ 1000000 := fun w hw => hs w (by rw [hxe]; exact List.mem_append_right _ hw)
  refine Nx.rdO 1 50 2 rfl fun A c hc => ?_
  rcases w1 with _ | ⟨s, r⟩
  · have hpre : pre = ws := by rw [hxe, List.append_nil]
    have hlen : ws.length = out.length := by rw [← hxn, hpre]
    refine Nx.inn 50 [0] rfl ⟨rfl, rfl⟩ rfl ⟨rfl, trivial⟩ ?_
    cases bd with
    | true =>
      have hf : (bad || (ws.mapM readEv).isNone || decide (64 < ws.length)) = true := by
        rcases hil rfl with h | h <;> rw [h] <;> simp
      repeat' (first
        | ((with_reducible refine atBr ?_); refine BrM.not (by omega) ?_; conv => whnf)
        | ((with_reducible refine atBr ?_); (first | refine BrM.t rfl ?_ | refine BrM.f rfl ?_ | refine BrM.dec (fun _ => ?_) (fun _ => ?_) | refine BrM.mk (fun _ => ?_) (fun _ => ?_)) <;> conv => whnf)
        | ((with_reducible refine atAr ?_); refine Ar.i64 (by omega) (by omega) ?_; conv => whnf)
        | ((with_reducible refine atRet ?_); refine Nx.out 50 rfl rfl rfl rfl ?_; refine Nx.rdC 50 2 1 rfl (by first | rfl | omega) hc ?_; refine Nx.ret [0,1,3] Tryz.func47 rfl rfl ?_; (exact ⟨out, A1, c1, [], true, rfl, rfl, hf.symm, fun h => by cases h⟩))
        | ((with_reducible refine atOps ?_); refine go 200 ?_; conv => whnf)
        | ((with_reducible refine atPlan ?_); refine Nx.runP (n := 200) rfl (by repeat (first | exact subB.nil _ | refine subB.cons rfl ?_)) ?_; conv => whnf)
        | ((with_reducible refine atAftL ?_); refine Nx.late ?_)
        | ((fail_if_success (with_reducible refine atRet ?_)); (fail_if_success (with_reducible refine atLoop ?_)); (fail_if_success (with_reducible refine atIn ?_)); (fail_if_success (with_reducible refine atDrawn ?_)); (fail_if_success (with_reducible refine atEnd ?_)); (with_reducible refine atRun ?_); refine go 200 ?_; conv => whnf))
    | false =>
      obtain ⟨h1, h2⟩ := hgd rfl
      rw [hpre] at h2
      have hf : (bad || (ws.mapM readEv).isNone || decide (64 < ws.length)) = decide (64 < (out.length : Int)) := by
        rw [h1, h2, hlen]; simp; omega
      repeat' (first
        | ((with_reducible refine atBr ?_); refine BrM.not (by omega) ?_; conv => whnf)
        | ((with_reducible refine atBr ?_); (first | refine BrM.t rfl ?_ | refine BrM.f rfl ?_ | refine BrM.dec (fun _ => ?_) (fun _ => ?_) | refine BrM.mk (fun _ => ?_) (fun _ => ?_)) <;> conv => whnf)
        | ((with_reducible refine atAr ?_); refine Ar.i64 (by omega) (by omega) ?_; conv => whnf)
        | ((with_reducible refine atRet ?_); refine Nx.out 50 rfl rfl rfl rfl ?_; refine Nx.rdC 50 2 1 rfl (by first | rfl | omega) hc ?_; refine Nx.ret [0,1,3] Tryz.func47 rfl rfl ?_; (exact ⟨out, A1, c1, [], _, rfl, rfl, hf.symm, fun _ => ⟨rfl, h2⟩⟩))
        | ((with_reducible refine atOps ?_); refine go 200 ?_; conv => whnf)
        | ((with_reducible refine atPlan ?_); refine Nx.runP (n := 200) rfl (by repeat (first | exact subB.nil _ | refine subB.cons rfl ?_)) ?_; conv => whnf)
        | ((with_reducible refine atAftL ?_); refine Nx.late ?_)
        | ((fail_if_success (with_reducible refine atRet ?_)); (fail_if_success (with_reducible refine atLoop ?_)); (fail_if_success (with_reducible refine atIn ?_)); (fail_if_success (with_reducible refine atDrawn ?_)); (fail_if_success (with_reducible refine atEnd ?_)); (with_reducible refine atRun ?_); refine go 200 ?_; conv => whnf))
  · have hlen : (s :: r).length = r.length + 1 := rfl
    cases bd with
    | true =>
      have hf : (bad || (ws.mapM readEv).isNone || decide (64 < ws.length)) = true := by
        rcases hil rfl with h | h <;> rw [h] <;> simp
      refine Nx.inn 50 [0] rfl ⟨rfl, rfl⟩ rfl ⟨rfl, trivial⟩ ?_
      repeat' (first
        | ((with_reducible refine atBr ?_); refine BrM.yes (by omega) ?_; conv => whnf)
        | ((with_reducible refine atBr ?_); (first | refine BrM.t rfl ?_ | refine BrM.f rfl ?_ | refine BrM.dec (fun _ => ?_) (fun _ => ?_) | refine BrM.mk (fun _ => ?_) (fun _ => ?_)) <;> conv => whnf)
        | ((with_reducible refine atAr ?_); refine Ar.i64 (by omega) (by omega) ?_; conv => whnf)
        | ((with_reducible refine atRet ?_); refine Nx.out 50 rfl rfl rfl rfl ?_; refine Nx.rdC 50 2 1 rfl (by first | rfl | omega) hc ?_; refine Nx.ret [0,1,3] Tryz.func47 rfl rfl ?_; (exact ⟨out, A1, c1, _, true, rfl, rfl, hf.symm, fun h => by cases h⟩))
        | ((with_reducible refine atOps ?_); refine go 200 ?_; conv => whnf)
        | ((with_reducible refine atPlan ?_); refine Nx.runP (n := 200) rfl (by repeat (first | exact subB.nil _ | refine subB.cons rfl ?_)) ?_; conv => whnf)
        | ((with_reducible refine atAftL ?_); refine Nx.late ?_)
        | ((fail_if_success (with_reducible refine atRet ?_)); (fail_if_success (with_reducible refine atLoop ?_)); (fail_if_success (with_reducible refine atIn ?_)); (fail_if_success (with_reducible refine atDrawn ?_)); (fail_if_success (with_reducible refine atEnd ?_)); (with_reducible refine atRun ?_); refine go 200 ?_; conv => whnf))
    | false =>
      obtain ⟨h1, h2⟩ := hgd rfl
      have hms := mapM_snoc (s := s) h2
      have hsl : s.length ≤ 1000000 := hws s List.mem_cons_self
      have nx : ∀ x : Ev, (∀ y, readEv s = some y → x = y) → EvI ws bad ⟨out ++ [x], pre ++ [s], r, (readEv s).isNone, none, 0⟩ := by
        refine fun x hx => ⟨by rw [hxe]; simp, by simp [hxn], fun h => ⟨h1, ?_⟩, fun h => .inr ?_⟩
        · cases hn : readEv s with
          | none => rw [hn] at h; cases h
          | some v => rw [hn] at hms; rw [hx v hn]; exact hms
        · cases hn : readEv s with
          | none => rw [hxe]; exact mapM_bad hn
          | some v => rw [hn] at h; cases h
      cases hp : pairC 58 s with
      | none =>
        have hre : readEv s = none := by unfold readEv; rw [hp]
        repeat' (first
          | ((with_reducible refine atBr ?_); refine BrM.yes (by omega) ?_; conv => whnf)
          | ((with_reducible refine atBr ?_); (first | refine BrM.t rfl ?_ | refine BrM.f rfl ?_ | refine BrM.dec (fun _ => ?_) (fun _ => ?_) | refine BrM.mk (fun _ => ?_) (fun _ => ?_)) <;> conv => whnf)
          | ((with_reducible refine atAr ?_); refine Ar.i64 (by omega) (by omega) ?_; conv => whnf)
          | ((with_reducible refine atLoad ?_); refine Nx.load1 50 rfl rfl rfl rfl ((blk_sees b _ _ _ 0 rfl)) rfl ?_)
          | ((with_reducible refine atLoad ?_); refine Nx.load1 50 rfl rfl rfl rfl ((blk_sees b _ _ _ 1 rfl)) rfl ?_)
          | (with_reducible refine atCall 42 ?_; refine Nx.rdC 50 2 1 rfl rfl hc ?_; refine Nx.call [1] [1] rfl rfl rfl rfl rfl (word_ok b (s :: r) false (by omega)) rfl fun v Q hQ => ?_; obtain ⟨rfl, rfl⟩ := hQ)
          | ((with_reducible refine atOps ?_); refine go 200 ?_; conv => whnf)
          | ((with_reducible refine atPlan ?_); refine Nx.runP (n := 200) rfl (by repeat (first | exact subB.nil _ | refine subB.cons rfl ?_)) ?_; conv => whnf)
          | ((with_reducible refine atAftL ?_); refine Nx.late ?_)
          | ((fail_if_success (with_reducible refine atRet ?_)); (fail_if_success (with_reducible refine atLoop ?_)); (fail_if_success (with_reducible refine atIn ?_)); (fail_if_success (with_reducible refine atDrawn ?_)); (fail_if_success (with_reducible refine atEnd ?_)); (with_reducible refine atRun ?_); refine go 200 ?_; conv => whnf))
        refine Nx.call [0] [0] rfl rfl rfl rfl rfl (Cut_no hG s (by omega) hp) rfl fun v Q hQ => ?_
        obtain ⟨rfl, rfl⟩ := hQ
        refine Nx.rdO 1 50 2 rfl fun A2 c2 hc2 => ?_
        refine Nx.inn 50 [0] rfl ⟨rfl, rfl⟩ rfl ⟨rfl, trivial⟩ ?_
        repeat' (first
          | ((with_reducible refine atBr ?_); (first | refine BrM.t rfl ?_ | refine BrM.f rfl ?_ | refine BrM.dec (fun _ => ?_) (fun _ => ?_) | refine BrM.mk (fun _ => ?_) (fun _ => ?_)) <;> conv => whnf)
          | ((with_reducible refine atAr ?_); refine Ar.i64 (by omega) (by omega) ?_; conv => whnf)
          | (fail)
          | ((with_reducible refine atOps ?_); refine go 200 ?_; conv => whnf)
          | ((with_reducible refine atPlan ?_); refine Nx.runP (n := 200) rfl (by repeat (first | exact subB.nil _ | refine subB.cons rfl ?_)) ?_; conv => whnf)
          | ((with_reducible refine atAftL ?_); refine Nx.late ?_)
          | ((fail_if_success (with_reducible refine atRet ?_)); (fail_if_success (with_reducible refine atLoop ?_)); (fail_if_success (with_reducible refine atIn ?_)); (fail_if_success (with_reducible refine atDrawn ?_)); (fail_if_success (with_reducible refine atEnd ?_)); (with_reducible refine atRun ?_); refine go 200 ?_; conv => whnf))
        refine Nx.out 50 rfl rfl rfl rfl ?_
        refine Nx.rdC 50 2 1 (ws := r) (bad := true) rfl rfl hc2 ?_
        refine Nx.call [0,1] [0,1] rfl rfl rfl rfl rfl (value_ok hG b s r true hsl) rfl fun v Q hQ => ?_
        obtain ⟨rfl, rfl⟩ := hQ
        refine go 200 ?_
        conv => whnf
        refine Nx.call [0,1] [0,1] rfl rfl rfl rfl rfl (value_ok hG b [] r (true || (numOf s).isNone) (Nat.zero_le _)) rfl fun v Q hQ => ?_
        obtain ⟨rfl, rfl⟩ := hQ
        refine go 200 ?_
        conv => whnf
        refine Nx.append 3 (sz := 2) (by_ := 16) (news := [.int .i64 ((numOf s).getD 0),.int .i64 ((numOf []).getD 0)]) rfl rfl rfl rfl rfl Tryz.underlying26 rfl rfl rfl rfl rfl (by unfold maxLen; omega) (by omega) fun A' c'' => ?_
        refine go 200 ?_
        conv => whnf
        refine Nx.real 0 rfl rfl ?_
        have hbb : (true || (numOf s).isNone || (numOf []).isNone) = (readEv s).isNone := by
          rw [hre]; rfl
        have nx2 := nx ⟨(numOf s).getD 0, (numOf []).getD 0⟩ (fun y hy => by rw [hre] at hy; cases hy)
        rw [← hbb] at nx2
        refine (ih ⟨out ++ [⟨(numOf s).getD 0, (numOf []).getD 0⟩], pre ++ [s], r, (true || (numOf s).isNone || (numOf []).isNone), A', c''⟩ ⟨nx2.e, nx2.n, nx2.good, nx2.ill⟩ (by show r.length < r.length + 1; omega)).weak ?_ ?_ ?_ ?_
        · exact .cons rfl rfl (.cons rfl (by simp) (.nil _))
        · repeat (first | exact subM.nil _ | refine subM.cons rfl rfl rfl ?_)
        · repeat (first | exact subB.nil _ | refine subB.cons rfl ?_)
        · exact .cons rfl rfl (.cons rfl rfl (.cons rfl (by simp [evC]) (.nil _)))
      | some p =>
        obtain ⟨a, a2⟩ := p
        obtain ⟨la, lb⟩ := pair_len hp
        have hre : readEv s = match numOf a, numOf a2 with | some x, some y => some ⟨x, y⟩ | _, _ => none := by unfold readEv; rw [hp]; rfl
        repeat' (first
          | ((with_reducible refine atBr ?_); refine BrM.yes (by omega) ?_; conv => whnf)
          | ((with_reducible refine atBr ?_); (first | refine BrM.t rfl ?_ | refine BrM.f rfl ?_ | refine BrM.dec (fun _ => ?_) (fun _ => ?_) | refine BrM.mk (fun _ => ?_) (fun _ => ?_)) <;> conv => whnf)
          | ((with_reducible refine atAr ?_); refine Ar.i64 (by omega) (by omega) ?_; conv => whnf)
          | ((with_reducible refine atLoad ?_); refine Nx.load1 50 rfl rfl rfl rfl ((blk_sees b _ _ _ 0 rfl)) rfl ?_)
          | ((with_reducible refine atLoad ?_); refine Nx.load1 50 rfl rfl rfl rfl ((blk_sees b _ _ _ 1 rfl)) rfl ?_)
          | (with_reducible refine atCall 42 ?_; refine Nx.rdC 50 2 1 rfl rfl hc ?_; refine Nx.call [1] [1] rfl rfl rfl rfl rfl (word_ok b (s :: r) false (by omega)) rfl fun v Q hQ => ?_; obtain ⟨rfl, rfl⟩ := hQ)
          | ((with_reducible refine atOps ?_); refine go 200 ?_; conv => whnf)
          | ((with_reducible refine atPlan ?_); refine Nx.runP (n := 200) rfl (by repeat (first | exact subB.nil _ | refine subB.cons rfl ?_)) ?_; conv => whnf)
          | ((with_reducible refine atAftL ?_); refine Nx.late ?_)
          | ((fail_if_success (with_reducible refine atRet ?_)); (fail_if_success (with_reducible refine atLoop ?_)); (fail_if_success (with_reducible refine atIn ?_)); (fail_if_success (with_reducible refine atDrawn ?_)); (fail_if_success (with_reducible refine atEnd ?_)); (with_reducible refine atRun ?_); refine go 200 ?_; conv => whnf))
        refine Nx.call [0] [0] rfl rfl rfl rfl rfl (Cut_yes hG s (by omega) hp) rfl fun v Q hQ => ?_
        obtain ⟨rfl, rfl⟩ := hQ
        refine Nx.rdO 1 50 2 rfl fun A2 c2 hc2 => ?_
        refine Nx.inn 50 [0] rfl ⟨rfl, rfl⟩ rfl ⟨rfl, trivial⟩ ?_
        repeat' (first
          | ((with_reducible refine atBr ?_); (first | refine BrM.t rfl ?_ | refine BrM.f rfl ?_ | refine BrM.dec (fun _ => ?_) (fun _ => ?_) | refine BrM.mk (fun _ => ?_) (fun _ => ?_)) <;> conv => whnf)
          | ((with_reducible refine atAr ?_); refine Ar.i64 (by omega) (by omega) ?_; conv => whnf)
          | (fail)
          | ((with_reducible refine atOps ?_); refine go 200 ?_; conv => whnf)
          | ((with_reducible refine atPlan ?_); refine Nx.runP (n := 200) rfl (by repeat (first | exact subB.nil _ | refine subB.cons rfl ?_)) ?_; conv => whnf)
          | ((with_reducible refine atAftL ?_); refine Nx.late ?_)
          | ((fail_if_success (with_reducible refine atRet ?_)); (fail_if_success (with_reducible refine atLoop ?_)); (fail_if_success (with_reducible refine atIn ?_)); (fail_if_success (with_reducible refine atDrawn ?_)); (fail_if_success (with_reducible refine atEnd ?_)); (with_reducible refine atRun ?_); refine go 200 ?_; conv => whnf))
        refine Nx.out 50 rfl rfl rfl rfl ?_
        refine Nx.rdC 50 2 1 (ws := r) (bad := false) rfl rfl hc2 ?_
        refine Nx.call [0,1] [0,1] rfl rfl rfl rfl rfl (value_ok hG b a r false (Nat.le_trans la hsl)) rfl fun v Q hQ => ?_
        obtain ⟨rfl, rfl⟩ := hQ
        refine go 200 ?_
        conv => whnf
        refine Nx.call [0,1] [0,1] rfl rfl rfl rfl rfl (value_ok hG b a2 r (false || (numOf a).isNone) (Nat.le_trans lb hsl)) rfl fun v Q hQ => ?_
        obtain ⟨rfl, rfl⟩ := hQ
        refine go 200 ?_
        conv => whnf
        refine Nx.append 3 (sz := 2) (by_ := 16) (news := [.int .i64 ((numOf a).getD 0),.int .i64 ((numOf a2).getD 0)]) rfl rfl rfl rfl rfl Tryz.underlying26 rfl rfl rfl rfl rfl (by unfold maxLen; omega) (by omega) fun A' c'' => ?_
        refine go 200 ?_
        conv => whnf
        refine Nx.real 0 rfl rfl ?_
        have hbb : (false || (numOf a).isNone || (numOf a2).isNone) = (readEv s).isNone := by
          rw [hre]; cases numOf a <;> cases numOf a2 <;> rfl
        have nx2 := nx ⟨(numOf a).getD 0, (numOf a2).getD 0⟩ (fun y hy => by rw [hre] at hy; cases h1 : numOf a with | none => rw [h1] at hy; cases hy | some u => cases h2 : numOf a2 with | none => rw [h1, h2] at hy; cases hy | some v => rw [h1, h2] at hy; cases hy; rfl)
        rw [← hbb] at nx2
        refine (ih ⟨out ++ [⟨(numOf a).getD 0, (numOf a2).getD 0⟩], pre ++ [s], r, (false || (numOf a).isNone || (numOf a2).isNone), A', c''⟩ ⟨nx2.e, nx2.n, nx2.good, nx2.ill⟩ (by show r.length < r.length + 1; omega)).weak ?_ ?_ ?_ ?_
        · exact .cons rfl rfl (.cons rfl (by simp) (.nil _))
        · repeat (first | exact subM.nil _ | refine subM.cons rfl rfl rfl ?_)
        · repeat (first | exact subB.nil _ | refine subB.cons rfl ?_)
        · exact .cons rfl rfl (.cons rfl rfl (.cons rfl (by simp [evC]) (.nil _)))
end Go.Proofs.YtkfnbpbhcnekiaaGreatDoor

/- Plain laws: what the reader of words makes of a line. -/
namespace Go.Proofs.YtkfnbpbhcnekiaaGreatDoor
open Go.Lib

theorem numOf_nil' : numOf [] = none := rfl
theorem readF_num {c : UInt8} (h1 : c ≠ 97) (h2 : c ≠ 101) (h3 : c ≠ 107) (h4 : c ≠ 119) (o : Ln) (ws : List Str) (f : Str) : readF o ws (c :: f) = match numOf (ws.headD []) with | none => none | some n => readF (putN o c n) ws.tail f := by
  cases ws with
  | nil => simp [readF, h1, h2, numOf_nil']
  | cons s r => simp [readF, h1, h2, h3, h4]; cases numOf s <;> rfl
theorem readF_k (o : Ln) (ws : List Str) (f : Str) : readF o ws (107 :: f) = match readK (ws.headD []) with | none => none | some n => readF { o with ring := n } ws.tail f := by
  cases ws with
  | nil => simp [readF]; rfl
  | cons s r => simp [readF]; cases readK s <;> rfl
theorem readF_w (o : Ln) (ws : List Str) (f : Str) : readF o ws (119 :: f) = match readWay (ws.headD []) with | none => none | some n => readF { o with way := n } ws.tail f := by
  cases ws with
  | nil => simp [readF]; rfl
  | cons s r => simp [readF]; cases readWay s <;> rfl
theorem readF_end (o : Ln) (ws : List Str) : readF o ws [] = if ws = [] then some o else none := by cases ws <;> simp [readF]

/-- Is it read, and as what? -/
structure Fin (k : Nat) (ws : List Str) (o : Ln) (ws' : List Str) (bad : Bool) : Prop where
  yes : bad = false → ws' = [] → readF { Ln.zero with deed := k } ws (shape k) = some o
  no : (bad = true ∨ ws' ≠ []) → readF { Ln.zero with deed := k } ws (shape k) = none
theorem Fin.of {k : Nat} {ws : List Str} {o : Ln} {ws' : List Str} {bad : Bool} (h : readF { Ln.zero with deed := k } ws (shape k) = if bad = false ∧ ws' = [] then some o else none) : Fin k ws o ws' bad :=
  ⟨fun h1 h2 => by rw [h, if_pos ⟨h1, h2⟩], fun h1 => by rw [h, if_neg (fun ⟨h2, h3⟩ => h1.elim (fun e => by rw [h2] at e; cases e) (fun e => e h3))]⟩

theorem fin_n {k : Nat} {c : UInt8} (hs : shape k = [c]) (h1 : c ≠ 97) (h2 : c ≠ 101) (h3 : c ≠ 107) (h4 : c ≠ 119) (ws : List Str) :
    Fin k ws (putN { Ln.zero with deed := k } c ((numOf (ws.headD [])).getD 0)) ws.tail (false || (numOf (ws.headD [])).isNone) := by
  refine .of ?_
  rw [hs, readF_num h1 h2 h3 h4]
  cases numOf (ws.headD []) <;> simp [readF_end]
theorem fin_nn {k : Nat} (hs : shape k = [104, 110]) (ws : List Str) :
    Fin k ws { Ln.zero with deed := k, who := (numOf (ws.headD [])).getD 0, n := (numOf (ws.tail.headD [])).getD 0 } ws.tail.tail (false || (numOf (ws.headD [])).isNone || (numOf (ws.tail.headD [])).isNone) := by
  refine .of ?_
  rw [hs, readF_num (by decide) (by decide) (by decide) (by decide)]
  cases numOf (ws.headD []) with
  | none => simp
  | some n =>
    simp only [readF_num (c := 110) (by decide) (by decide) (by decide) (by decide)]
    cases numOf (ws.tail.headD []) <;> simp [readF_end, putN]
theorem fin_0 (ws : List Str) :
    Fin 0 ws { Ln.zero with deed := 0, n := (numOf (ws.headD [])).getD 0, ring := (readK (ws.tail.headD [])).getD 0 } ws.tail.tail (false || (numOf (ws.headD [])).isNone || (readK (ws.tail.headD [])).isNone) := by
  refine .of ?_
  have hs : shape 0 = [110, 107] := rfl
  rw [hs, readF_num (by decide) (by decide) (by decide) (by decide)]
  cases numOf (ws.headD []) with
  | none => simp
  | some n =>
    simp only [readF_k]
    cases readK (ws.tail.headD []) <;> simp [readF_end, putN]
theorem fin_1 (ws : List Str) (w : Way) (hw : ∀ w', readWay (ws.tail.headD []) = some w' → w = w') :
    Fin 1 ws { Ln.zero with deed := 1, ring := (numOf (ws.headD [])).getD 0, way := w } ws.tail.tail (false || (numOf (ws.headD [])).isNone || (readWay (ws.tail.headD [])).isNone) := by
  refine .of ?_
  have hs : shape 1 = [114, 119] := rfl
  rw [hs, readF_num (by decide) (by decide) (by decide) (by decide)]
  cases numOf (ws.headD []) with
  | none => simp
  | some n =>
    simp only [readF_w]
    cases h : readWay (ws.tail.headD []) with
    | none => simp
    | some w' => rw [hw w' h]; simp [readF_end, putN]
theorem oth_if {ws ws' : List Str} {l : List Int} {b bad : Bool} {o : Ln} (hb : b = (bad || (ws.mapM numOf).isNone || decide (64 < ws.length))) (hl : b = false → ws' = [] ∧ ws.mapM numOf = some l) :
    (if bad = false then (if 64 < ws.length then none else (ws.mapM numOf).map fun l => { o with after := l }) else none) = if b = false ∧ ws' = [] then some { o with after := l } else none := by
  cases bad with
  | true => simp only [Bool.true_or] at hb; rw [hb]; simp
  | false =>
    by_cases h64 : 64 < ws.length
    · rw [decide_eq_true h64, Bool.or_true] at hb; rw [hb]; simp [h64]
    · rw [decide_eq_false h64, Bool.or_false, Bool.false_or] at hb
      cases hm : ws.mapM numOf with
      | none => rw [hm] at hb; rw [hb]; simp
      | some l' =>
        rw [hm] at hb
        obtain ⟨h1, h2⟩ := hl hb
        rw [hm] at h2
        cases h2
        rw [hb, h1]; simp [h64]
theorem evs_if {ws ws' : List Str} {l : List Ev} {b bad : Bool} {o : Ln} (hb : b = (bad || (ws.mapM readEv).isNone || decide (64 < ws.length))) (hl : b = false → ws' = [] ∧ ws.mapM readEv = some l) :
    (if bad = false then (if 64 < ws.length then none else (ws.mapM readEv).map fun l => { o with evs := l }) else none) = if b = false ∧ ws' = [] then some { o with evs := l } else none := by
  cases bad with
  | true => simp only [Bool.true_or] at hb; rw [hb]; simp
  | false =>
    by_cases h64 : 64 < ws.length
    · rw [decide_eq_true h64, Bool.or_true] at hb; rw [hb]; simp [h64]
    · rw [decide_eq_false h64, Bool.or_false, Bool.false_or] at hb
      cases hm : ws.mapM readEv with
      | none => rw [hm] at hb; rw [hb]; simp
      | some l' =>
        rw [hm] at hb
        obtain ⟨h1, h2⟩ := hl hb
        rw [hm] at h2
        cases h2
        rw [hb, h1]; simp [h64]
theorem fin_5 (ws ws' : List Str) (l : List Int) (b : Bool) (hb : b = (false || (ws.mapM numOf).isNone || decide (64 < ws.length))) (hl : b = false → ws' = [] ∧ ws.mapM numOf = some l) :
    Fin 5 ws { Ln.zero with deed := 5, after := l } ws' b := by
  refine .of ?_
  have hs : shape 5 = [97] := rfl
  rw [hs, readF_a, ← oth_if (o := { Ln.zero with deed := 5 }) (bad := false) hb hl]
  simp
theorem fin_4 (ws ws' : List Str) (w : Way) (l : List Int) (b : Bool) (hw : ∀ w', readWay (ws.tail.headD []) = some w' → w = w')
    (hb : b = (false || (numOf (ws.headD [])).isNone || (readWay (ws.tail.headD [])).isNone || (ws.tail.tail.mapM numOf).isNone || decide (64 < ws.tail.tail.length))) (hl : b = false → ws' = [] ∧ ws.tail.tail.mapM numOf = some l) :
    Fin 4 ws { Ln.zero with deed := 4, ring := (numOf (ws.headD [])).getD 0, way := w, after := l } ws' b := by
  refine .of ?_
  have hs : shape 4 = [114, 119, 97] := rfl
  rw [hs, readF_num (by decide) (by decide) (by decide) (by decide)]
  cases hn : numOf (ws.headD []) with
  | none => rw [hn] at hb; simp at hb; rw [hb]; simp
  | some n =>
    simp only [readF_w]
    cases h : readWay (ws.tail.headD []) with
    | none => rw [hn, h] at hb; simp at hb; rw [hb]; simp
    | some w' =>
      rw [hn, h] at hb
      rw [hw w' h]
      simp only [readF_a]
      refine Eq.trans ?_ (oth_if (o := { Ln.zero with deed := 4, ring := n, way := w' }) (bad := false) (by simpa using hb) hl)
      simp [putN]
theorem fin_23 {k : Nat} (hs : shape k = [114, 119, 110, 97]) (ws ws' : List Str) (w : Way) (l : List Int) (b : Bool) (hw : ∀ w', readWay (ws.tail.headD []) = some w' → w = w')
    (hb : b = (false || (numOf (ws.headD [])).isNone || (readWay (ws.tail.headD [])).isNone || (numOf (ws.tail.tail.headD [])).isNone || (ws.tail.tail.tail.mapM numOf).isNone || decide (64 < ws.tail.tail.tail.length))) (hl : b = false → ws' = [] ∧ ws.tail.tail.tail.mapM numOf = some l) :
    Fin k ws { Ln.zero with deed := k, ring := (numOf (ws.headD [])).getD 0, way := w, n := (numOf (ws.tail.tail.headD [])).getD 0, after := l } ws' b := by
  refine .of ?_
  rw [hs, readF_num (by decide) (by decide) (by decide) (by decide)]
  cases hn : numOf (ws.headD []) with
  | none => rw [hn] at hb; simp at hb; rw [hb]; simp
  | some n =>
    simp only [readF_w]
    cases h : readWay (ws.tail.headD []) with
    | none => rw [hn, h] at hb; simp at hb; rw [hb]; simp
    | some w' =>
      simp only [readF_num (c := 110) (by decide) (by decide) (by decide) (by decide)]
      cases hn2 : numOf (ws.tail.tail.headD []) with
      | none => rw [hn, h, hn2] at hb; simp at hb; rw [hb]; simp
      | some n2 =>
        rw [hn, h, hn2] at hb
        rw [hw w' h]
        simp only [readF_a]
        refine Eq.trans ?_ (oth_if (o := { Ln.zero with deed := k, ring := n, way := w', n := n2 }) (bad := false) (by simpa using hb) hl)
        simp [putN]
theorem fin_67 {k : Nat} (hs : shape k = [104, 101]) (ws ws' : List Str) (l : List Ev) (b : Bool)
    (hb : b = (false || (numOf (ws.headD [])).isNone || (ws.tail.mapM readEv).isNone || decide (64 < ws.tail.length))) (hl : b = false → ws' = [] ∧ ws.tail.mapM readEv = some l) :
    Fin k ws { Ln.zero with deed := k, who := (numOf (ws.headD [])).getD 0, evs := l } ws' b := by
  refine .of ?_
  rw [hs, readF_num (by decide) (by decide) (by decide) (by decide)]
  cases hn : numOf (ws.headD []) with
  | none => rw [hn] at hb; simp at hb; rw [hb]; simp
  | some n =>
    rw [hn] at hb
    simp only [readF_e]
    refine Eq.trans ?_ (evs_if (o := { Ln.zero with deed := k, who := n }) (bad := false) (by simpa using hb) hl)
    simp [putN]
end Go.Proofs.YtkfnbpbhcnekiaaGreatDoor

/- Parse of script. -/
namespace Go.Proofs.YtkfnbpbhcnekiaaGreatDoor
open Go.RowKit Go.Lib
attribute [local irreducible] Nx Ar BrM
set_option maxRecDepth 20000
set_option maxHeartbeats 1000000

def errB (b : Nat) (q : Str × Int) (e : Int) : SP := blk b (.cells #[str q.1, .int .i64 q.2, .iface 85 (.int .i64 e)] 116 (0, 0))
abbrev lnC (o : Ln) (A : Option Addr) (c : Nat) (B : Option Addr) (d : Nat) : List Value := [.int .i64 o.deed, .int .i64 o.who, .int .i64 o.ring, .int .i64 o.n, .int .i64 o.at_, .int .i64 o.way.kind, .int .i64 o.way.tries, .int .i64 o.way.time, .slice A o.after.length c, .slice B o.evs.length d]
abbrev lnV (o : Ln) (A : Option Addr) (c : Nat) (B : Option Addr) (d : Nat) : Value := .agg (lnC o A c B d).toArray
/-- What Parse comes to. -/
def ParsePost (m : PH) (r : Except Int Ln) (v : Value) (Q : List SP) : Prop :=
  match r with
  | .ok o => ∃ A c B d, v = .tuple #[lnV o A c B d, .nilIface] ∧ Q = [roAll m, ownS 3 A o.after.length c 1 (intsV o.after), ownS 72 B o.evs.length d 2 (evsV o.evs)]
  | .error e => ∃ b q, v = .tuple #[lnV Ln.zero none 0 none 0, .iface 114 (.pointer (some ⟨b, 0, none⟩))] ∧ Q = [roAll m, errB b q e]
structure PaX where
  o : Ln
  A : Option Addr
  c : Nat
  B : Option Addr
  d : Nat
  ws : List Str
  bad : Bool
theorem split_le (c : UInt8) (s : Str) : (splitC c s).length ≤ s.length + 1 := by
  induction s with
  | nil => simp [splitC]
  | cons x r ih =>
    simp only [splitC]
    split
    · simp; omega
    · split
      · rename_i h; exact absurd h (splitC_ne _ _)
      · rename_i h; rw [h] at ih; simp at ih ⊢; omega
theorem split_each (c : UInt8) (s : Str) : ∀ w ∈ splitC c s, w.length ≤ s.length := by
  induction s with
  | nil => simp [splitC]
  | cons x r ih =>
    simp only [splitC]
    split
    · intro w hw
      rcases List.mem_cons.1 hw with rfl | hw
      · simp
      · have := ih w hw; simp; omega
    · split
      · intro w hw; simp at hw; subst hw; simp
      · rename_i u us h
        rw [h] at ih
        intro w hw
        rcases List.mem_cons.1 hw with rfl | hw
        · have := ih u List.mem_cons_self; simp; omega
        · have := ih w (List.mem_cons_of_mem _ hw); simp; omega
theorem Parse_ok {m : PH} (hG : Glo m) (s : Str) (hs : s.length ≤ 900000) : FnOk Tryz.prog 16 [str s] [roAll m] (ParsePost m (parseA s)) := by
  have hsz : (⟨s.toArray⟩ : ByteArray).size = s.length := by simp [ByteArray.size]
  refine FnOk.start Tryz.func16 rfl rfl rfl rfl fun F os tape output => ?_
  refine go 200 ?_
  conv => whnf
  by_cases h4 : 4000 < s.length
  · have hp : parseA s = .error 7 := by unfold parseA; rw [if_pos h4]
    rw [hp]
    repeat' (first
      | ((with_reducible refine atBr ?_); refine BrM.yes (by omega) ?_; conv => whnf)
      | ((with_reducible refine atBr ?_); (first | refine BrM.t rfl ?_ | refine BrM.f rfl ?_ | refine BrM.dec (fun _ => ?_) (fun _ => ?_) | refine BrM.mk (fun _ => ?_) (fun _ => ?_)) <;> conv => whnf)
      | ((with_reducible refine atAr ?_); refine Ar.i64 (by omega) (by omega) ?_; conv => whnf)
      | ((with_reducible refine (atCall 39) ?_); refine Nx.call [] [9] rfl rfl rfl rfl rfl ((Wrap_ok _ _ 7)) rfl fun v Q hQ => ?_; obtain ⟨b,rfl,rfl⟩ := hQ)
      | ((with_reducible refine atRet ?_); refine Nx.ret [0,9] Tryz.func16 rfl rfl ?_; (exact ⟨_, (_, _), rfl, rfl⟩))
      | ((with_reducible refine atOps ?_); refine go 200 ?_; conv => whnf)
      | ((with_reducible refine atPlan ?_); refine Nx.runP (n := 200) rfl (by repeat (first | exact subB.nil _ | refine subB.cons rfl ?_)) ?_; conv => whnf)
      | ((with_reducible refine atAftL ?_); refine Nx.late ?_)
      | ((fail_if_success (with_reducible refine atRet ?_)); (fail_if_success (with_reducible refine atLoop ?_)); (fail_if_success (with_reducible refine atIn ?_)); (fail_if_success (with_reducible refine atDrawn ?_)); (fail_if_success (with_reducible refine atEnd ?_)); (with_reducible refine atRun ?_); refine go 200 ?_; conv => whnf))
  · have hl1 := split_le 32 s
    have hl2 := split_each 32 s
    obtain ⟨w, r, hwr⟩ : ∃ w r, splitC 32 s = w :: r := by
      cases h : splitC 32 s with
      | nil => exact absurd h (splitC_ne _ _)
      | cons w r => exact ⟨w, r, rfl⟩
    have hlen : (splitC 32 s).length = r.length + 1 := by rw [hwr]; rfl
    have hp : parseA s = match deedOf w with | none => .error 3 | some d => match readF { Ln.zero with deed := d } r (shape d) with | none => .error 6 | some o => .ok o := by
      unfold parseA; rw [if_neg h4, hwr]; rfl
    have hrw : ∀ x ∈ r, x.length ≤ 1000000 := fun x hx => by have := hl2 x (by rw [hwr]; exact List.mem_cons_of_mem _ hx); omega
    have hE : ∀ e, parseA s = .error e → ∀ b q, ParsePost m (parseA s) (.tuple #[lnV Ln.zero none 0 none 0, .iface 114 (.pointer (some ⟨b, 0, none⟩))]) [roAll m, errB b q e] := fun e he b q => by rw [he]; exact ⟨b, q, rfl, rfl⟩
    have hO : ∀ o, parseA s = .ok o → ∀ A c B d, ParsePost m (parseA s) (.tuple #[lnV o A c B d, .nilIface]) [roAll m, ownS 3 A o.after.length c 1 (intsV o.after), ownS 72 B o.evs.length d 2 (evsV o.evs)] := fun o ho A c B d => by rw [ho]; exact ⟨A, c, B, d, rfl, rfl⟩
    repeat' (first
      | ((with_reducible refine atBr ?_); refine BrM.not (by omega) ?_; conv => whnf)
      | ((with_reducible refine atBr ?_); (first | refine BrM.t rfl ?_ | refine BrM.f rfl ?_ | refine BrM.dec (fun _ => ?_) (fun _ => ?_) | refine BrM.mk (fun _ => ?_) (fun _ => ?_)) <;> conv => whnf)
      | ((with_reducible refine atAr ?_); refine Ar.i64 (by omega) (by omega) ?_; conv => whnf)
      | ((with_reducible refine (atCall 40) ?_); refine Nx.call [0] [0,3] rfl rfl rfl rfl rfl ((Split_ok hG s 32 (by omega))) rfl fun v Q hQ => ?_; obtain ⟨b0,rfl,rfl⟩ := hQ)
      | ((with_reducible refine atOps ?_); refine go 200 ?_; conv => whnf)
      | ((with_reducible refine atPlan ?_); refine Nx.runP (n := 200) rfl (by repeat (first | exact subB.nil _ | refine subB.cons rfl ?_)) ?_; conv => whnf)
      | ((with_reducible refine atAftL ?_); refine Nx.late ?_)
      | ((fail_if_success (with_reducible refine atRet ?_)); (fail_if_success (with_reducible refine atLoop ?_)); (fail_if_success (with_reducible refine atIn ?_)); (fail_if_success (with_reducible refine atDrawn ?_)); (fail_if_success (with_reducible refine atEnd ?_)); (with_reducible refine atRun ?_); refine go 200 ?_; conv => whnf))
    intro b
    refine Nx.out 19 rfl rfl rfl rfl ?_
    refine Nx.share 3 (rdS _ _ _ _) rfl own_share ?_
    refine Nx.rdC 19 3 1 (ws := splitC 32 s) rfl rfl (Nat.le_refl _) ?_
    rw [hwr]
    refine go 200 ?_
    conv => whnf
    refine Nx.call [1] [1] rfl rfl rfl rfl rfl (word_ok b (w :: r) false (by simp at hlen ⊢; omega)) rfl fun v Q hQ => ?_
    obtain ⟨rfl, rfl⟩ := hQ
    refine go 200 ?_
    conv => whnf
    refine Nx.call [0] [0] rfl rfl rfl rfl rfl (deed_ok hG w) rfl fun v Q hQ => ?_
    obtain ⟨rfl, rfl⟩ := hQ
    cases hd : deedOf w with
    | none =>
      have h3 := hE 3 (by rw [hp, hd])
      repeat' (first
        | ((with_reducible refine atBr ?_); (first | refine BrM.t rfl ?_ | refine BrM.f rfl ?_ | refine BrM.dec (fun _ => ?_) (fun _ => ?_) | refine BrM.mk (fun _ => ?_) (fun _ => ?_)) <;> conv => whnf)
        | ((with_reducible refine atAr ?_); refine Ar.i64 (by omega) (by omega) ?_; conv => whnf)
        | ((with_reducible refine (atCall 39) ?_); refine Nx.call [] [9] rfl rfl rfl rfl rfl ((Wrap_ok _ _ 3)) rfl fun v Q hQ => ?_; obtain ⟨b,rfl,rfl⟩ := hQ)
        | ((with_reducible refine atRet ?_); refine Nx.ret [0,9] Tryz.func16 rfl rfl ?_; (exact h3 _ (_, _)))
        | ((with_reducible refine atOps ?_); refine go 200 ?_; conv => whnf)
        | ((with_reducible refine atPlan ?_); refine Nx.runP (n := 200) rfl (by repeat (first | exact subB.nil _ | refine subB.cons rfl ?_)) ?_; conv => whnf)
        | ((with_reducible refine atAftL ?_); refine Nx.late ?_)
        | ((fail_if_success (with_reducible refine atRet ?_)); (fail_if_success (with_reducible refine atLoop ?_)); (fail_if_success (with_reducible refine atIn ?_)); (fail_if_success (with_reducible refine atDrawn ?_)); (fail_if_success (with_reducible refine atEnd ?_)); (with_reducible refine atRun ?_); refine go 200 ?_; conv => whnf))
    | some k =>
      obtain ⟨hk, _⟩ := word_deed hd
      have hr0 : r.length ≤ 900001 := by omega
      have hr1 : r.tail.length ≤ 900001 := by simp; omega
      have hr2 : r.tail.tail.length ≤ 900001 := by simp; omega
      have hr3 : r.tail.tail.tail.length ≤ 900001 := by simp; omega
      have hw1 : ∀ x ∈ r.tail, x.length ≤ 1000000 := fun x hx => hrw x (List.mem_of_mem_tail hx)
      have hw2 : ∀ x ∈ r.tail.tail, x.length ≤ 1000000 := fun x hx => hw1 x (List.mem_of_mem_tail hx)
      have hw3 : ∀ x ∈ r.tail.tail.tail, x.length ≤ 1000000 := fun x hx => hw2 x (List.mem_of_mem_tail hx)
      refine goR 200 ?_
      conv => whnf
      refine goR 200 ?_
      conv => whnf
      refine goR 200 ?_
      conv => whnf
      refine BrM.f rfl ?_
      conv => whnf
      refine goR 200 ?_
      conv => whnf
      refine go 1 ?_
      conv => whnf
      refine Nx.real 4 rfl rfl ?_
      refine Nx.joinX (X := {x : PaX // Fin k r x.o x.ws x.bad}) (E := fun x => [(2, .c (.loc 2 0)), (4, .c (.v (.pointer (some ⟨b, 0, none⟩)))), (5, iv k), (7, .c (.loc 7 0))])
        (M := fun x => [(7, 37, (lnC x.1.o x.1.A x.1.c x.1.B x.1.d).map .v), (2, 37, (lnC Ln.zero none 0 none 0).map .v)]) (B := [])
        (R := fun x => [(0, roAll m), (1, rdr b x.1.ws x.1.bad), (3, ownS 3 x.1.A x.1.o.after.length x.1.c 1 (intsV x.1.o.after)), (4, ownS 72 x.1.B x.1.o.evs.length x.1.d 2 (evsV x.1.o.evs))]) (fun K => ?_) ?_
      · clear hp hd hwr hlen hl1 hl2 hE hO
        match k, hk, K with
        | 0, _, K =>
          refine Nx.give 3 (ownS 3 none 0 0 1 []) (own_nil _ _ _ _) ?_
          refine Nx.give 4 (ownS 72 none 0 0 2 []) (own_nil _ _ _ _) ?_
          have fin := fun (o : Ln) (ws2 : List Str) (b2 : Bool) (h : Fin 0 r o ws2 b2) => h
          repeat' (first
            | ((with_reducible refine atBr ?_); (first | refine BrM.t rfl ?_ | refine BrM.f rfl ?_ | refine BrM.dec (fun _ => ?_) (fun _ => ?_) | refine BrM.mk (fun _ => ?_) (fun _ => ?_)) <;> conv => whnf)
            | ((with_reducible refine atAr ?_); refine Ar.i64 (by omega) (by omega) ?_; conv => whnf)
            | (fail)
            | ((with_reducible refine atOps ?_); refine go 200 ?_; conv => whnf)
            | ((with_reducible refine atPlan ?_); refine Nx.runP (n := 200) rfl (by repeat (first | exact subB.nil _ | refine subB.cons rfl ?_)) ?_; conv => whnf)
            | ((with_reducible refine atAftL ?_); refine Nx.late ?_)
            | ((fail_if_success (with_reducible refine atRet ?_)); (fail_if_success (with_reducible refine atLoop ?_)); (fail_if_success (with_reducible refine atIn ?_)); (fail_if_success (with_reducible refine atDrawn ?_)); (fail_if_success (with_reducible refine atEnd ?_)); (with_reducible refine atRun ?_); refine go 200 ?_; conv => whnf))
          refine Nx.call [0,1] [0,1] rfl rfl rfl rfl rfl (int_rok hG b r (false) (Nat.le_trans hr0 (by omega)) hrw) rfl fun v Q hQ => ?_
          obtain ⟨rfl, rfl⟩ := hQ
          repeat' (first
            | ((with_reducible refine atBr ?_); (first | refine BrM.t rfl ?_ | refine BrM.f rfl ?_ | refine BrM.dec (fun _ => ?_) (fun _ => ?_) | refine BrM.mk (fun _ => ?_) (fun _ => ?_)) <;> conv => whnf)
            | ((with_reducible refine atAr ?_); refine Ar.i64 (by omega) (by omega) ?_; conv => whnf)
            | (fail)
            | ((with_reducible refine atOps ?_); refine go 200 ?_; conv => whnf)
            | ((with_reducible refine atPlan ?_); refine Nx.runP (n := 200) rfl (by repeat (first | exact subB.nil _ | refine subB.cons rfl ?_)) ?_; conv => whnf)
            | ((with_reducible refine atAftL ?_); refine Nx.late ?_)
            | ((fail_if_success (with_reducible refine atRet ?_)); (fail_if_success (with_reducible refine atLoop ?_)); (fail_if_success (with_reducible refine atIn ?_)); (fail_if_success (with_reducible refine atDrawn ?_)); (fail_if_success (with_reducible refine atEnd ?_)); (with_reducible refine atRun ?_); refine go 200 ?_; conv => whnf))
          refine Nx.call [0,1] [0,1] rfl rfl rfl rfl rfl (kind_rok hG b r.tail (false || (numOf (r.headD [])).isNone) (Nat.le_trans hr1 (by omega))) rfl fun v Q hQ => ?_
          obtain ⟨rfl, rfl⟩ := hQ
          repeat' (first
            | ((with_reducible refine Nx.weak K ?_ ?_ ?_ ?_) <;> (first | exact subM.nil _ | exact subB.nil _ | exact subR.nil _ | ((repeat (first | exact subE.nil _ | refine subE.cons rfl rfl ?_ | refine subE.cons' rfl (fun _ => rfl) ?_ | (refine subE.cons rfl ?_ ?_; · (simp; done)))); done) | ((repeat (first | exact subM.nil _ | refine subM.cons rfl rfl rfl ?_)); done) | ((repeat (first | exact subB.nil _ | refine subB.cons rfl ?_)); done) | ((repeat (first | exact subR.nil _ | refine subR.cons rfl rfl ?_)); done) | omega | (dsimp only; omega) | skip))
            | ((with_reducible refine atBr ?_); (first | refine BrM.t rfl ?_ | refine BrM.f rfl ?_ | refine BrM.dec (fun _ => ?_) (fun _ => ?_) | refine BrM.mk (fun _ => ?_) (fun _ => ?_)) <;> conv => whnf)
            | ((with_reducible refine atAr ?_); refine Ar.i64 (by omega) (by omega) ?_; conv => whnf)
            | ((with_reducible refine Nx.weak (K ⟨⟨{ Ln.zero with deed := 0, n := (numOf (r.headD [])).getD 0, ring := (readK (r.tail.headD [])).getD 0 }, none, 0, none, 0, r.tail.tail, (false || (numOf (r.headD [])).isNone || (readK (r.tail.headD [])).isNone)⟩, ?_⟩) ?_ ?_ ?_ ?_) <;> (first | exact fin_0 r | (first | exact subM.nil _ | exact subB.nil _ | exact subR.nil _ | ((repeat (first | exact subE.nil _ | refine subE.cons rfl rfl ?_ | refine subE.cons' rfl (fun _ => rfl) ?_ | (refine subE.cons rfl ?_ ?_; · (simp; done)))); done) | ((repeat (first | exact subM.nil _ | refine subM.cons rfl rfl rfl ?_)); done) | ((repeat (first | exact subB.nil _ | refine subB.cons rfl ?_)); done) | ((repeat (first | exact subR.nil _ | refine subR.cons rfl rfl ?_)); done) | omega | (dsimp only; omega)) | skip))
            | ((with_reducible refine atOps ?_); refine goR 200 ?_; conv => whnf)
            | ((with_reducible refine atPlan ?_); refine Nx.runP (n := 200) rfl (by repeat (first | exact subB.nil _ | refine subB.cons rfl ?_)) ?_; conv => whnf)
            | ((with_reducible refine atAftL ?_); refine Nx.late ?_)
            | ((fail_if_success (with_reducible refine atRet ?_)); (fail_if_success (with_reducible refine atLoop ?_)); (fail_if_success (with_reducible refine atIn ?_)); (fail_if_success (with_reducible refine atDrawn ?_)); (fail_if_success (with_reducible refine atEnd ?_)); (with_reducible refine atRun ?_); refine goR 1 ?_; conv => whnf))
        | 1, _, K =>
          refine Nx.give 3 (ownS 3 none 0 0 1 []) (own_nil _ _ _ _) ?_
          refine Nx.give 4 (ownS 72 none 0 0 2 []) (own_nil _ _ _ _) ?_
          have fin := fun (o : Ln) (ws2 : List Str) (b2 : Bool) (h : Fin 1 r o ws2 b2) => h
          repeat' (first
            | ((with_reducible refine atBr ?_); (first | refine BrM.t rfl ?_ | refine BrM.f rfl ?_ | refine BrM.dec (fun _ => ?_) (fun _ => ?_) | refine BrM.mk (fun _ => ?_) (fun _ => ?_)) <;> conv => whnf)
            | ((with_reducible refine atAr ?_); refine Ar.i64 (by omega) (by omega) ?_; conv => whnf)
            | (fail)
            | ((with_reducible refine atOps ?_); refine go 200 ?_; conv => whnf)
            | ((with_reducible refine atPlan ?_); refine Nx.runP (n := 200) rfl (by repeat (first | exact subB.nil _ | refine subB.cons rfl ?_)) ?_; conv => whnf)
            | ((with_reducible refine atAftL ?_); refine Nx.late ?_)
            | ((fail_if_success (with_reducible refine atRet ?_)); (fail_if_success (with_reducible refine atLoop ?_)); (fail_if_success (with_reducible refine atIn ?_)); (fail_if_success (with_reducible refine atDrawn ?_)); (fail_if_success (with_reducible refine atEnd ?_)); (with_reducible refine atRun ?_); refine go 200 ?_; conv => whnf))
          refine Nx.call [0,1] [0,1] rfl rfl rfl rfl rfl (int_rok hG b r (false) (Nat.le_trans hr0 (by omega)) hrw) rfl fun v Q hQ => ?_
          obtain ⟨rfl, rfl⟩ := hQ
          repeat' (first
            | ((with_reducible refine atBr ?_); (first | refine BrM.t rfl ?_ | refine BrM.f rfl ?_ | refine BrM.dec (fun _ => ?_) (fun _ => ?_) | refine BrM.mk (fun _ => ?_) (fun _ => ?_)) <;> conv => whnf)
            | ((with_reducible refine atAr ?_); refine Ar.i64 (by omega) (by omega) ?_; conv => whnf)
            | (fail)
            | ((with_reducible refine atOps ?_); refine go 200 ?_; conv => whnf)
            | ((with_reducible refine atPlan ?_); refine Nx.runP (n := 200) rfl (by repeat (first | exact subB.nil _ | refine subB.cons rfl ?_)) ?_; conv => whnf)
            | ((with_reducible refine atAftL ?_); refine Nx.late ?_)
            | ((fail_if_success (with_reducible refine atRet ?_)); (fail_if_success (with_reducible refine atLoop ?_)); (fail_if_success (with_reducible refine atIn ?_)); (fail_if_success (with_reducible refine atDrawn ?_)); (fail_if_success (with_reducible refine atEnd ?_)); (with_reducible refine atRun ?_); refine go 200 ?_; conv => whnf))
          refine Nx.call [0,1] [0,1] rfl rfl rfl rfl rfl (way_rok hG b r.tail (false || (numOf (r.headD [])).isNone) (Nat.le_trans hr1 (by omega)) hw1) rfl fun v Q hQ => ?_
          obtain ⟨w1, rfl, hw, rfl⟩ := hQ
          repeat' (first
            | ((with_reducible refine Nx.weak K ?_ ?_ ?_ ?_) <;> (first | exact subM.nil _ | exact subB.nil _ | exact subR.nil _ | ((repeat (first | exact subE.nil _ | refine subE.cons rfl rfl ?_ | refine subE.cons' rfl (fun _ => rfl) ?_ | (refine subE.cons rfl ?_ ?_; · (simp; done)))); done) | ((repeat (first | exact subM.nil _ | refine subM.cons rfl rfl rfl ?_)); done) | ((repeat (first | exact subB.nil _ | refine subB.cons rfl ?_)); done) | ((repeat (first | exact subR.nil _ | refine subR.cons rfl rfl ?_)); done) | omega | (dsimp only; omega) | skip))
            | ((with_reducible refine atBr ?_); (first | refine BrM.t rfl ?_ | refine BrM.f rfl ?_ | refine BrM.dec (fun _ => ?_) (fun _ => ?_) | refine BrM.mk (fun _ => ?_) (fun _ => ?_)) <;> conv => whnf)
            | ((with_reducible refine atAr ?_); refine Ar.i64 (by omega) (by omega) ?_; conv => whnf)
            | ((with_reducible refine Nx.weak (K ⟨⟨{ Ln.zero with deed := 1, ring := (numOf (r.headD [])).getD 0, way := w1 }, none, 0, none, 0, r.tail.tail, (false || (numOf (r.headD [])).isNone || (readWay (r.tail.headD [])).isNone)⟩, ?_⟩) ?_ ?_ ?_ ?_) <;> (first | exact fin_1 r w1 hw | (first | exact subM.nil _ | exact subB.nil _ | exact subR.nil _ | ((repeat (first | exact subE.nil _ | refine subE.cons rfl rfl ?_ | refine subE.cons' rfl (fun _ => rfl) ?_ | (refine subE.cons rfl ?_ ?_; · (simp; done)))); done) | ((repeat (first | exact subM.nil _ | refine subM.cons rfl rfl rfl ?_)); done) | ((repeat (first | exact subB.nil _ | refine subB.cons rfl ?_)); done) | ((repeat (first | exact subR.nil _ | refine subR.cons rfl rfl ?_)); done) | omega | (dsimp only; omega)) | skip))
            | ((with_reducible refine atOps ?_); refine goR 200 ?_; conv => whnf)
            | ((with_reducible refine atPlan ?_); refine Nx.runP (n := 200) rfl (by repeat (first | exact subB.nil _ | refine subB.cons rfl ?_)) ?_; conv => whnf)
            | ((with_reducible refine atAftL ?_); refine Nx.late ?_)
            | ((fail_if_success (with_reducible refine atRet ?_)); (fail_if_success (with_reducible refine atLoop ?_)); (fail_if_success (with_reducible refine atIn ?_)); (fail_if_success (with_reducible refine atDrawn ?_)); (fail_if_success (with_reducible refine atEnd ?_)); (with_reducible refine atRun ?_); refine goR 1 ?_; conv => whnf))
        | 2, _, K =>
          refine Nx.give 4 (ownS 72 none 0 0 2 []) (own_nil _ _ _ _) ?_
          have fin := fun (o : Ln) (ws2 : List Str) (b2 : Bool) (h : Fin 2 r o ws2 b2) => h
          repeat' (first
            | ((with_reducible refine atBr ?_); (first | refine BrM.t rfl ?_ | refine BrM.f rfl ?_ | refine BrM.dec (fun _ => ?_) (fun _ => ?_) | refine BrM.mk (fun _ => ?_) (fun _ => ?_)) <;> conv => whnf)
            | ((with_reducible refine atAr ?_); refine Ar.i64 (by omega) (by omega) ?_; conv => whnf)
            | (fail)
            | ((with_reducible refine atOps ?_); refine go 200 ?_; conv => whnf)
            | ((with_reducible refine atPlan ?_); refine Nx.runP (n := 200) rfl (by repeat (first | exact subB.nil _ | refine subB.cons rfl ?_)) ?_; conv => whnf)
            | ((with_reducible refine atAftL ?_); refine Nx.late ?_)
            | ((fail_if_success (with_reducible refine atRet ?_)); (fail_if_success (with_reducible refine atLoop ?_)); (fail_if_success (with_reducible refine atIn ?_)); (fail_if_success (with_reducible refine atDrawn ?_)); (fail_if_success (with_reducible refine atEnd ?_)); (with_reducible refine atRun ?_); refine go 200 ?_; conv => whnf))
          refine Nx.call [0,1] [0,1] rfl rfl rfl rfl rfl (int_rok hG b r (false) (Nat.le_trans hr0 (by omega)) hrw) rfl fun v Q hQ => ?_
          obtain ⟨rfl, rfl⟩ := hQ
          repeat' (first
            | ((with_reducible refine atBr ?_); (first | refine BrM.t rfl ?_ | refine BrM.f rfl ?_ | refine BrM.dec (fun _ => ?_) (fun _ => ?_) | refine BrM.mk (fun _ => ?_) (fun _ => ?_)) <;> conv => whnf)
            | ((with_reducible refine atAr ?_); refine Ar.i64 (by omega) (by omega) ?_; conv => whnf)
            | (fail)
            | ((with_reducible refine atOps ?_); refine go 200 ?_; conv => whnf)
            | ((with_reducible refine atPlan ?_); refine Nx.runP (n := 200) rfl (by repeat (first | exact subB.nil _ | refine subB.cons rfl ?_)) ?_; conv => whnf)
            | ((with_reducible refine atAftL ?_); refine Nx.late ?_)
            | ((fail_if_success (with_reducible refine atRet ?_)); (fail_if_success (with_reducible refine atLoop ?_)); (fail_if_success (with_reducible refine atIn ?_)); (fail_if_success (with_reducible refine atDrawn ?_)); (fail_if_success (with_reducible refine atEnd ?_)); (with_reducible refine atRun ?_); refine go 200 ?_; conv => whnf))
          refine Nx.call [0,1] [0,1] rfl rfl rfl rfl rfl (way_rok hG b r.tail (false || (numOf (r.headD [])).isNone) (Nat.le_trans hr1 (by omega)) hw1) rfl fun v Q hQ => ?_
          obtain ⟨w1, rfl, hw, rfl⟩ := hQ
          repeat' (first
            | ((with_reducible refine atBr ?_); (first | refine BrM.t rfl ?_ | refine BrM.f rfl ?_ | refine BrM.dec (fun _ => ?_) (fun _ => ?_) | refine BrM.mk (fun _ => ?_) (fun _ => ?_)) <;> conv => whnf)
            | ((with_reducible refine atAr ?_); refine Ar.i64 (by omega) (by omega) ?_; conv => whnf)
            | (fail)
            | ((with_reducible refine atOps ?_); refine go 200 ?_; conv => whnf)
            | ((with_reducible refine atPlan ?_); refine Nx.runP (n := 200) rfl (by repeat (first | exact subB.nil _ | refine subB.cons rfl ?_)) ?_; conv => whnf)
            | ((with_reducible refine atAftL ?_); refine Nx.late ?_)
            | ((fail_if_success (with_reducible refine atRet ?_)); (fail_if_success (with_reducible refine atLoop ?_)); (fail_if_success (with_reducible refine atIn ?_)); (fail_if_success (with_reducible refine atDrawn ?_)); (fail_if_success (with_reducible refine atEnd ?_)); (with_reducible refine atRun ?_); refine go 200 ?_; conv => whnf))
          refine Nx.call [0,1] [0,1] rfl rfl rfl rfl rfl (int_rok hG b r.tail.tail (false || (numOf (r.headD [])).isNone || (readWay (r.tail.headD [])).isNone) (Nat.le_trans hr2 (by omega)) hw2) rfl fun v Q hQ => ?_
          obtain ⟨rfl, rfl⟩ := hQ
          repeat' (first
            | ((with_reducible refine atBr ?_); (first | refine BrM.t rfl ?_ | refine BrM.f rfl ?_ | refine BrM.dec (fun _ => ?_) (fun _ => ?_) | refine BrM.mk (fun _ => ?_) (fun _ => ?_)) <;> conv => whnf)
            | ((with_reducible refine atAr ?_); refine Ar.i64 (by omega) (by omega) ?_; conv => whnf)
            | (fail)
            | ((with_reducible refine atOps ?_); refine go 200 ?_; conv => whnf)
            | ((with_reducible refine atPlan ?_); refine Nx.runP (n := 200) rfl (by repeat (first | exact subB.nil _ | refine subB.cons rfl ?_)) ?_; conv => whnf)
            | ((with_reducible refine atAftL ?_); refine Nx.late ?_)
            | ((fail_if_success (with_reducible refine atRet ?_)); (fail_if_success (with_reducible refine atLoop ?_)); (fail_if_success (with_reducible refine atIn ?_)); (fail_if_success (with_reducible refine atDrawn ?_)); (fail_if_success (with_reducible refine atEnd ?_)); (with_reducible refine atRun ?_); refine go 200 ?_; conv => whnf))
          refine Nx.call [0,1] [0,1,3] rfl rfl rfl rfl rfl (others_rok hG b r.tail.tail.tail (false || (numOf (r.headD [])).isNone || (readWay (r.tail.headD [])).isNone || (numOf (r.tail.tail.headD [])).isNone) (Nat.le_trans hr3 (by omega)) hw3) rfl fun v Q hQ => ?_
          obtain ⟨l, A1, c1, ws', bad', rfl, rfl, hb, hl⟩ := hQ
          repeat' (first
            | ((with_reducible refine Nx.weak K ?_ ?_ ?_ ?_) <;> (first | exact subM.nil _ | exact subB.nil _ | exact subR.nil _ | ((repeat (first | exact subE.nil _ | refine subE.cons rfl rfl ?_ | refine subE.cons' rfl (fun _ => rfl) ?_ | (refine subE.cons rfl ?_ ?_; · (simp; done)))); done) | ((repeat (first | exact subM.nil _ | refine subM.cons rfl rfl rfl ?_)); done) | ((repeat (first | exact subB.nil _ | refine subB.cons rfl ?_)); done) | ((repeat (first | exact subR.nil _ | refine subR.cons rfl rfl ?_)); done) | omega | (dsimp only; omega) | skip))
            | ((with_reducible refine atBr ?_); (first | refine BrM.t rfl ?_ | refine BrM.f rfl ?_ | refine BrM.dec (fun _ => ?_) (fun _ => ?_) | refine BrM.mk (fun _ => ?_) (fun _ => ?_)) <;> conv => whnf)
            | ((with_reducible refine atAr ?_); refine Ar.i64 (by omega) (by omega) ?_; conv => whnf)
            | ((with_reducible refine Nx.weak (K ⟨⟨{ Ln.zero with deed := 2, ring := (numOf (r.headD [])).getD 0, way := w1, n := (numOf (r.tail.tail.headD [])).getD 0, after := l }, A1, c1, none, 0, ws', bad'⟩, ?_⟩) ?_ ?_ ?_ ?_) <;> (first | exact fin_23 rfl r ws' w1 l bad' hw hb hl | (first | exact subM.nil _ | exact subB.nil _ | exact subR.nil _ | ((repeat (first | exact subE.nil _ | refine subE.cons rfl rfl ?_ | refine subE.cons' rfl (fun _ => rfl) ?_ | (refine subE.cons rfl ?_ ?_; · (simp; done)))); done) | ((repeat (first | exact subM.nil _ | refine subM.cons rfl rfl rfl ?_)); done) | ((repeat (first | exact subB.nil _ | refine subB.cons rfl ?_)); done) | ((repeat (first | exact subR.nil _ | refine subR.cons rfl rfl ?_)); done) | omega | (dsimp only; omega)) | skip))
            | ((with_reducible refine atOps ?_); refine goR 200 ?_; conv => whnf)
            | ((with_reducible refine atPlan ?_); refine Nx.runP (n := 200) rfl (by repeat (first | exact subB.nil _ | refine subB.cons rfl ?_)) ?_; conv => whnf)
            | ((with_reducible refine atAftL ?_); refine Nx.late ?_)
            | ((fail_if_success (with_reducible refine atRet ?_)); (fail_if_success (with_reducible refine atLoop ?_)); (fail_if_success (with_reducible refine atIn ?_)); (fail_if_success (with_reducible refine atDrawn ?_)); (fail_if_success (with_reducible refine atEnd ?_)); (with_reducible refine atRun ?_); refine goR 1 ?_; conv => whnf))
        | 3, _, K =>
          refine Nx.give 4 (ownS 72 none 0 0 2 []) (own_nil _ _ _ _) ?_
          have fin := fun (o : Ln) (ws2 : List Str) (b2 : Bool) (h : Fin 3 r o ws2 b2) => h
          repeat' (first
            | ((with_reducible refine atBr ?_); (first | refine BrM.t rfl ?_ | refine BrM.f rfl ?_ | refine BrM.dec (fun _ => ?_) (fun _ => ?_) | refine BrM.mk (fun _ => ?_) (fun _ => ?_)) <;> conv => whnf)
            | ((with_reducible refine atAr ?_); refine Ar.i64 (by omega) (by omega) ?_; conv => whnf)
            | (fail)
            | ((with_reducible refine atOps ?_); refine go 200 ?_; conv => whnf)
            | ((with_reducible refine atPlan ?_); refine Nx.runP (n := 200) rfl (by repeat (first | exact subB.nil _ | refine subB.cons rfl ?_)) ?_; conv => whnf)
            | ((with_reducible refine atAftL ?_); refine Nx.late ?_)
            | ((fail_if_success (with_reducible refine atRet ?_)); (fail_if_success (with_reducible refine atLoop ?_)); (fail_if_success (with_reducible refine atIn ?_)); (fail_if_success (with_reducible refine atDrawn ?_)); (fail_if_success (with_reducible refine atEnd ?_)); (with_reducible refine atRun ?_); refine go 200 ?_; conv => whnf))
          refine Nx.call [0,1] [0,1] rfl rfl rfl rfl rfl (int_rok hG b r (false) (Nat.le_trans hr0 (by omega)) hrw) rfl fun v Q hQ => ?_
          obtain ⟨rfl, rfl⟩ := hQ
          repeat' (first
            | ((with_reducible refine atBr ?_); (first | refine BrM.t rfl ?_ | refine BrM.f rfl ?_ | refine BrM.dec (fun _ => ?_) (fun _ => ?_) | refine BrM.mk (fun _ => ?_) (fun _ => ?_)) <;> conv => whnf)
            | ((with_reducible refine atAr ?_); refine Ar.i64 (by omega) (by omega) ?_; conv => whnf)
            | (fail)
            | ((with_reducible refine atOps ?_); refine go 200 ?_; conv => whnf)
            | ((with_reducible refine atPlan ?_); refine Nx.runP (n := 200) rfl (by repeat (first | exact subB.nil _ | refine subB.cons rfl ?_)) ?_; conv => whnf)
            | ((with_reducible refine atAftL ?_); refine Nx.late ?_)
            | ((fail_if_success (with_reducible refine atRet ?_)); (fail_if_success (with_reducible refine atLoop ?_)); (fail_if_success (with_reducible refine atIn ?_)); (fail_if_success (with_reducible refine atDrawn ?_)); (fail_if_success (with_reducible refine atEnd ?_)); (with_reducible refine atRun ?_); refine go 200 ?_; conv => whnf))
          refine Nx.call [0,1] [0,1] rfl rfl rfl rfl rfl (way_rok hG b r.tail (false || (numOf (r.headD [])).isNone) (Nat.le_trans hr1 (by omega)) hw1) rfl fun v Q hQ => ?_
          obtain ⟨w1, rfl, hw, rfl⟩ := hQ
          repeat' (first
            | ((with_reducible refine atBr ?_); (first | refine BrM.t rfl ?_ | refine BrM.f rfl ?_ | refine BrM.dec (fun _ => ?_) (fun _ => ?_) | refine BrM.mk (fun _ => ?_) (fun _ => ?_)) <;> conv => whnf)
            | ((with_reducible refine atAr ?_); refine Ar.i64 (by omega) (by omega) ?_; conv => whnf)
            | (fail)
            | ((with_reducible refine atOps ?_); refine go 200 ?_; conv => whnf)
            | ((with_reducible refine atPlan ?_); refine Nx.runP (n := 200) rfl (by repeat (first | exact subB.nil _ | refine subB.cons rfl ?_)) ?_; conv => whnf)
            | ((with_reducible refine atAftL ?_); refine Nx.late ?_)
            | ((fail_if_success (with_reducible refine atRet ?_)); (fail_if_success (with_reducible refine atLoop ?_)); (fail_if_success (with_reducible refine atIn ?_)); (fail_if_success (with_reducible refine atDrawn ?_)); (fail_if_success (with_reducible refine atEnd ?_)); (with_reducible refine atRun ?_); refine go 200 ?_; conv => whnf))
          refine Nx.call [0,1] [0,1] rfl rfl rfl rfl rfl (int_rok hG b r.tail.tail (false || (numOf (r.headD [])).isNone || (readWay (r.tail.headD [])).isNone) (Nat.le_trans hr2 (by omega)) hw2) rfl fun v Q hQ => ?_
          obtain ⟨rfl, rfl⟩ := hQ
          repeat' (first
            | ((with_reducible refine atBr ?_); (first | refine BrM.t rfl ?_ | refine BrM.f rfl ?_ | refine BrM.dec (fun _ => ?_) (fun _ => ?_) | refine BrM.mk (fun _ => ?_) (fun _ => ?_)) <;> conv => whnf)
            | ((with_reducible refine atAr ?_); refine Ar.i64 (by omega) (by omega) ?_; conv => whnf)
            | (fail)
            | ((with_reducible refine atOps ?_); refine go 200 ?_; conv => whnf)
            | ((with_reducible refine atPlan ?_); refine Nx.runP (n := 200) rfl (by repeat (first | exact subB.nil _ | refine subB.cons rfl ?_)) ?_; conv => whnf)
            | ((with_reducible refine atAftL ?_); refine Nx.late ?_)
            | ((fail_if_success (with_reducible refine atRet ?_)); (fail_if_success (with_reducible refine atLoop ?_)); (fail_if_success (with_reducible refine atIn ?_)); (fail_if_success (with_reducible refine atDrawn ?_)); (fail_if_success (with_reducible refine atEnd ?_)); (with_reducible refine atRun ?_); refine go 200 ?_; conv => whnf))
          refine Nx.call [0,1] [0,1,3] rfl rfl rfl rfl rfl (others_rok hG b r.tail.tail.tail (false || (numOf (r.headD [])).isNone || (readWay (r.tail.headD [])).isNone || (numOf (r.tail.tail.headD [])).isNone) (Nat.le_trans hr3 (by omega)) hw3) rfl fun v Q hQ => ?_
          obtain ⟨l, A1, c1, ws', bad', rfl, rfl, hb, hl⟩ := hQ
          repeat' (first
            | ((with_reducible refine Nx.weak K ?_ ?_ ?_ ?_) <;> (first | exact subM.nil _ | exact subB.nil _ | exact subR.nil _ | ((repeat (first | exact subE.nil _ | refine subE.cons rfl rfl ?_ | refine subE.cons' rfl (fun _ => rfl) ?_ | (refine subE.cons rfl ?_ ?_; · (simp; done)))); done) | ((repeat (first | exact subM.nil _ | refine subM.cons rfl rfl rfl ?_)); done) | ((repeat (first | exact subB.nil _ | refine subB.cons rfl ?_)); done) | ((repeat (first | exact subR.nil _ | refine subR.cons rfl rfl ?_)); done) | omega | (dsimp only; omega) | skip))
            | ((with_reducible refine atBr ?_); (first | refine BrM.t rfl ?_ | refine BrM.f rfl ?_ | refine BrM.dec (fun _ => ?_) (fun _ => ?_) | refine BrM.mk (fun _ => ?_) (fun _ => ?_)) <;> conv => whnf)
            | ((with_reducible refine atAr ?_); refine Ar.i64 (by omega) (by omega) ?_; conv => whnf)
            | ((with_reducible refine Nx.weak (K ⟨⟨{ Ln.zero with deed := 3, ring := (numOf (r.headD [])).getD 0, way := w1, n := (numOf (r.tail.tail.headD [])).getD 0, after := l }, A1, c1, none, 0, ws', bad'⟩, ?_⟩) ?_ ?_ ?_ ?_) <;> (first | exact fin_23 rfl r ws' w1 l bad' hw hb hl | (first | exact subM.nil _ | exact subB.nil _ | exact subR.nil _ | ((repeat (first | exact subE.nil _ | refine subE.cons rfl rfl ?_ | refine subE.cons' rfl (fun _ => rfl) ?_ | (refine subE.cons rfl ?_ ?_; · (simp; done)))); done) | ((repeat (first | exact subM.nil _ | refine subM.cons rfl rfl rfl ?_)); done) | ((repeat (first | exact subB.nil _ | refine subB.cons rfl ?_)); done) | ((repeat (first | exact subR.nil _ | refine subR.cons rfl rfl ?_)); done) | omega | (dsimp only; omega)) | skip))
            | ((with_reducible refine atOps ?_); refine goR 200 ?_; conv => whnf)
            | ((with_reducible refine atPlan ?_); refine Nx.runP (n := 200) rfl (by repeat (first | exact subB.nil _ | refine subB.cons rfl ?_)) ?_; conv => whnf)
            | ((with_reducible refine atAftL ?_); refine Nx.late ?_)
            | ((fail_if_success (with_reducible refine atRet ?_)); (fail_if_success (with_reducible refine atLoop ?_)); (fail_if_success (with_reducible refine atIn ?_)); (fail_if_success (with_reducible refine atDrawn ?_)); (fail_if_success (with_reducible refine atEnd ?_)); (with_reducible refine atRun ?_); refine goR 1 ?_; conv => whnf))
        | 4, _, K =>
          refine Nx.give 4 (ownS 72 none 0 0 2 []) (own_nil _ _ _ _) ?_
          have fin := fun (o : Ln) (ws2 : List Str) (b2 : Bool) (h : Fin 4 r o ws2 b2) => h
          repeat' (first
            | ((with_reducible refine atBr ?_); (first | refine BrM.t rfl ?_ | refine BrM.f rfl ?_ | refine BrM.dec (fun _ => ?_) (fun _ => ?_) | refine BrM.mk (fun _ => ?_) (fun _ => ?_)) <;> conv => whnf)
            | ((with_reducible refine atAr ?_); refine Ar.i64 (by omega) (by omega) ?_; conv => whnf)
            | (fail)
            | ((with_reducible refine atOps ?_); refine go 200 ?_; conv => whnf)
            | ((with_reducible refine atPlan ?_); refine Nx.runP (n := 200) rfl (by repeat (first | exact subB.nil _ | refine subB.cons rfl ?_)) ?_; conv => whnf)
            | ((with_reducible refine atAftL ?_); refine Nx.late ?_)
            | ((fail_if_success (with_reducible refine atRet ?_)); (fail_if_success (with_reducible refine atLoop ?_)); (fail_if_success (with_reducible refine atIn ?_)); (fail_if_success (with_reducible refine atDrawn ?_)); (fail_if_success (with_reducible refine atEnd ?_)); (with_reducible refine atRun ?_); refine go 200 ?_; conv => whnf))
          refine Nx.call [0,1] [0,1] rfl rfl rfl rfl rfl (int_rok hG b r (false) (Nat.le_trans hr0 (by omega)) hrw) rfl fun v Q hQ => ?_
          obtain ⟨rfl, rfl⟩ := hQ
          repeat' (first
            | ((with_reducible refine atBr ?_); (first | refine BrM.t rfl ?_ | refine BrM.f rfl ?_ | refine BrM.dec (fun _ => ?_) (fun _ => ?_) | refine BrM.mk (fun _ => ?_) (fun _ => ?_)) <;> conv => whnf)
            | ((with_reducible refine atAr ?_); refine Ar.i64 (by omega) (by omega) ?_; conv => whnf)
            | (fail)
            | ((with_reducible refine atOps ?_); refine go 200 ?_; conv => whnf)
            | ((with_reducible refine atPlan ?_); refine Nx.runP (n := 200) rfl (by repeat (first | exact subB.nil _ | refine subB.cons rfl ?_)) ?_; conv => whnf)
            | ((with_reducible refine atAftL ?_); refine Nx.late ?_)
            | ((fail_if_success (with_reducible refine atRet ?_)); (fail_if_success (with_reducible refine atLoop ?_)); (fail_if_success (with_reducible refine atIn ?_)); (fail_if_success (with_reducible refine atDrawn ?_)); (fail_if_success (with_reducible refine atEnd ?_)); (with_reducible refine atRun ?_); refine go 200 ?_; conv => whnf))
          refine Nx.call [0,1] [0,1] rfl rfl rfl rfl rfl (way_rok hG b r.tail (false || (numOf (r.headD [])).isNone) (Nat.le_trans hr1 (by omega)) hw1) rfl fun v Q hQ => ?_
          obtain ⟨w1, rfl, hw, rfl⟩ := hQ
          repeat' (first
            | ((with_reducible refine atBr ?_); (first | refine BrM.t rfl ?_ | refine BrM.f rfl ?_ | refine BrM.dec (fun _ => ?_) (fun _ => ?_) | refine BrM.mk (fun _ => ?_) (fun _ => ?_)) <;> conv => whnf)
            | ((with_reducible refine atAr ?_); refine Ar.i64 (by omega) (by omega) ?_; conv => whnf)
            | (fail)
            | ((with_reducible refine atOps ?_); refine go 200 ?_; conv => whnf)
            | ((with_reducible refine atPlan ?_); refine Nx.runP (n := 200) rfl (by repeat (first | exact subB.nil _ | refine subB.cons rfl ?_)) ?_; conv => whnf)
            | ((with_reducible refine atAftL ?_); refine Nx.late ?_)
            | ((fail_if_success (with_reducible refine atRet ?_)); (fail_if_success (with_reducible refine atLoop ?_)); (fail_if_success (with_reducible refine atIn ?_)); (fail_if_success (with_reducible refine atDrawn ?_)); (fail_if_success (with_reducible refine atEnd ?_)); (with_reducible refine atRun ?_); refine go 200 ?_; conv => whnf))
          refine Nx.call [0,1] [0,1,3] rfl rfl rfl rfl rfl (others_rok hG b r.tail.tail (false || (numOf (r.headD [])).isNone || (readWay (r.tail.headD [])).isNone) (Nat.le_trans hr2 (by omega)) hw2) rfl fun v Q hQ => ?_
          obtain ⟨l, A1, c1, ws', bad', rfl, rfl, hb, hl⟩ := hQ
          repeat' (first
            | ((with_reducible refine Nx.weak K ?_ ?_ ?_ ?_) <;> (first | exact subM.nil _ | exact subB.nil _ | exact subR.nil _ | ((repeat (first | exact subE.nil _ | refine subE.cons rfl rfl ?_ | refine subE.cons' rfl (fun _ => rfl) ?_ | (refine subE.cons rfl ?_ ?_; · (simp; done)))); done) | ((repeat (first | exact subM.nil _ | refine subM.cons rfl rfl rfl ?_)); done) | ((repeat (first | exact subB.nil _ | refine subB.cons rfl ?_)); done) | ((repeat (first | exact subR.nil _ | refine subR.cons rfl rfl ?_)); done) | omega | (dsimp only; omega) | skip))
            | ((with_reducible refine atBr ?_); (first | refine BrM.t rfl ?_ | refine BrM.f rfl ?_ | refine BrM.dec (fun _ => ?_) (fun _ => ?_) | refine BrM.mk (fun _ => ?_) (fun _ => ?_)) <;> conv => whnf)
            | ((with_reducible refine atAr ?_); refine Ar.i64 (by omega) (by omega) ?_; conv => whnf)
            | ((with_reducible refine Nx.weak (K ⟨⟨{ Ln.zero with deed := 4, ring := (numOf (r.headD [])).getD 0, way := w1, after := l }, A1, c1, none, 0, ws', bad'⟩, ?_⟩) ?_ ?_ ?_ ?_) <;> (first | exact fin_4 r ws' w1 l bad' hw hb hl | (first | exact subM.nil _ | exact subB.nil _ | exact subR.nil _ | ((repeat (first | exact subE.nil _ | refine subE.cons rfl rfl ?_ | refine subE.cons' rfl (fun _ => rfl) ?_ | (refine subE.cons rfl ?_ ?_; · (simp; done)))); done) | ((repeat (first | exact subM.nil _ | refine subM.cons rfl rfl rfl ?_)); done) | ((repeat (first | exact subB.nil _ | refine subB.cons rfl ?_)); done) | ((repeat (first | exact subR.nil _ | refine subR.cons rfl rfl ?_)); done) | omega | (dsimp only; omega)) | skip))
            | ((with_reducible refine atOps ?_); refine goR 200 ?_; conv => whnf)
            | ((with_reducible refine atPlan ?_); refine Nx.runP (n := 200) rfl (by repeat (first | exact subB.nil _ | refine subB.cons rfl ?_)) ?_; conv => whnf)
            | ((with_reducible refine atAftL ?_); refine Nx.late ?_)
            | ((fail_if_success (with_reducible refine atRet ?_)); (fail_if_success (with_reducible refine atLoop ?_)); (fail_if_success (with_reducible refine atIn ?_)); (fail_if_success (with_reducible refine atDrawn ?_)); (fail_if_success (with_reducible refine atEnd ?_)); (with_reducible refine atRun ?_); refine goR 1 ?_; conv => whnf))
        | 5, _, K =>
          refine Nx.give 4 (ownS 72 none 0 0 2 []) (own_nil _ _ _ _) ?_
          have fin := fun (o : Ln) (ws2 : List Str) (b2 : Bool) (h : Fin 5 r o ws2 b2) => h
          repeat' (first
            | ((with_reducible refine atBr ?_); (first | refine BrM.t rfl ?_ | refine BrM.f rfl ?_ | refine BrM.dec (fun _ => ?_) (fun _ => ?_) | refine BrM.mk (fun _ => ?_) (fun _ => ?_)) <;> conv => whnf)
            | ((with_reducible refine atAr ?_); refine Ar.i64 (by omega) (by omega) ?_; conv => whnf)
            | (fail)
            | ((with_reducible refine atOps ?_); refine go 200 ?_; conv => whnf)
            | ((with_reducible refine atPlan ?_); refine Nx.runP (n := 200) rfl (by repeat (first | exact subB.nil _ | refine subB.cons rfl ?_)) ?_; conv => whnf)
            | ((with_reducible refine atAftL ?_); refine Nx.late ?_)
            | ((fail_if_success (with_reducible refine atRet ?_)); (fail_if_success (with_reducible refine atLoop ?_)); (fail_if_success (with_reducible refine atIn ?_)); (fail_if_success (with_reducible refine atDrawn ?_)); (fail_if_success (with_reducible refine atEnd ?_)); (with_reducible refine atRun ?_); refine go 200 ?_; conv => whnf))
          refine Nx.call [0,1] [0,1,3] rfl rfl rfl rfl rfl (others_rok hG b r (false) (Nat.le_trans hr0 (by omega)) hrw) rfl fun v Q hQ => ?_
          obtain ⟨l, A1, c1, ws', bad', rfl, rfl, hb, hl⟩ := hQ
          repeat' (first
            | ((with_reducible refine Nx.weak K ?_ ?_ ?_ ?_) <;> (first | exact subM.nil _ | exact subB.nil _ | exact subR.nil _ | ((repeat (first | exact subE.nil _ | refine subE.cons rfl rfl ?_ | refine subE.cons' rfl (fun _ => rfl) ?_ | (refine subE.cons rfl ?_ ?_; · (simp; done)))); done) | ((repeat (first | exact subM.nil _ | refine subM.cons rfl rfl rfl ?_)); done) | ((repeat (first | exact subB.nil _ | refine subB.cons rfl ?_)); done) | ((repeat (first | exact subR.nil _ | refine subR.cons rfl rfl ?_)); done) | omega | (dsimp only; omega) | skip))
            | ((with_reducible refine atBr ?_); (first | refine BrM.t rfl ?_ | refine BrM.f rfl ?_ | refine BrM.dec (fun _ => ?_) (fun _ => ?_) | refine BrM.mk (fun _ => ?_) (fun _ => ?_)) <;> conv => whnf)
            | ((with_reducible refine atAr ?_); refine Ar.i64 (by omega) (by omega) ?_; conv => whnf)
            | ((with_reducible refine Nx.weak (K ⟨⟨{ Ln.zero with deed := 5, after := l }, A1, c1, none, 0, ws', bad'⟩, ?_⟩) ?_ ?_ ?_ ?_) <;> (first | exact fin_5 r ws' l bad' hb hl | (first | exact subM.nil _ | exact subB.nil _ | exact subR.nil _ | ((repeat (first | exact subE.nil _ | refine subE.cons rfl rfl ?_ | refine subE.cons' rfl (fun _ => rfl) ?_ | (refine subE.cons rfl ?_ ?_; · (simp; done)))); done) | ((repeat (first | exact subM.nil _ | refine subM.cons rfl rfl rfl ?_)); done) | ((repeat (first | exact subB.nil _ | refine subB.cons rfl ?_)); done) | ((repeat (first | exact subR.nil _ | refine subR.cons rfl rfl ?_)); done) | omega | (dsimp only; omega)) | skip))
            | ((with_reducible refine atOps ?_); refine goR 200 ?_; conv => whnf)
            | ((with_reducible refine atPlan ?_); refine Nx.runP (n := 200) rfl (by repeat (first | exact subB.nil _ | refine subB.cons rfl ?_)) ?_; conv => whnf)
            | ((with_reducible refine atAftL ?_); refine Nx.late ?_)
            | ((fail_if_success (with_reducible refine atRet ?_)); (fail_if_success (with_reducible refine atLoop ?_)); (fail_if_success (with_reducible refine atIn ?_)); (fail_if_success (with_reducible refine atDrawn ?_)); (fail_if_success (with_reducible refine atEnd ?_)); (with_reducible refine atRun ?_); refine goR 1 ?_; conv => whnf))
        | 6, _, K =>
          refine Nx.give 3 (ownS 3 none 0 0 1 []) (own_nil _ _ _ _) ?_
          have fin := fun (o : Ln) (ws2 : List Str) (b2 : Bool) (h : Fin 6 r o ws2 b2) => h
          repeat' (first
            | ((with_reducible refine atBr ?_); (first | refine BrM.t rfl ?_ | refine BrM.f rfl ?_ | refine BrM.dec (fun _ => ?_) (fun _ => ?_) | refine BrM.mk (fun _ => ?_) (fun _ => ?_)) <;> conv => whnf)
            | ((with_reducible refine atAr ?_); refine Ar.i64 (by omega) (by omega) ?_; conv => whnf)
            | (fail)
            | ((with_reducible refine atOps ?_); refine go 200 ?_; conv => whnf)
            | ((with_reducible refine atPlan ?_); refine Nx.runP (n := 200) rfl (by repeat (first | exact subB.nil _ | refine subB.cons rfl ?_)) ?_; conv => whnf)
            | ((with_reducible refine atAftL ?_); refine Nx.late ?_)
            | ((fail_if_success (with_reducible refine atRet ?_)); (fail_if_success (with_reducible refine atLoop ?_)); (fail_if_success (with_reducible refine atIn ?_)); (fail_if_success (with_reducible refine atDrawn ?_)); (fail_if_success (with_reducible refine atEnd ?_)); (with_reducible refine atRun ?_); refine go 200 ?_; conv => whnf))
          refine Nx.call [0,1] [0,1] rfl rfl rfl rfl rfl (int_rok hG b r (false) (Nat.le_trans hr0 (by omega)) hrw) rfl fun v Q hQ => ?_
          obtain ⟨rfl, rfl⟩ := hQ
          repeat' (first
            | ((with_reducible refine atBr ?_); (first | refine BrM.t rfl ?_ | refine BrM.f rfl ?_ | refine BrM.dec (fun _ => ?_) (fun _ => ?_) | refine BrM.mk (fun _ => ?_) (fun _ => ?_)) <;> conv => whnf)
            | ((with_reducible refine atAr ?_); refine Ar.i64 (by omega) (by omega) ?_; conv => whnf)
            | (fail)
            | ((with_reducible refine atOps ?_); refine go 200 ?_; conv => whnf)
            | ((with_reducible refine atPlan ?_); refine Nx.runP (n := 200) rfl (by repeat (first | exact subB.nil _ | refine subB.cons rfl ?_)) ?_; conv => whnf)
            | ((with_reducible refine atAftL ?_); refine Nx.late ?_)
            | ((fail_if_success (with_reducible refine atRet ?_)); (fail_if_success (with_reducible refine atLoop ?_)); (fail_if_success (with_reducible refine atIn ?_)); (fail_if_success (with_reducible refine atDrawn ?_)); (fail_if_success (with_reducible refine atEnd ?_)); (with_reducible refine atRun ?_); refine go 200 ?_; conv => whnf))
          refine Nx.call [0,1] [0,1,4] rfl rfl rfl rfl rfl (events_rok hG b r.tail (false || (numOf (r.headD [])).isNone) (Nat.le_trans hr1 (by omega)) hw1) rfl fun v Q hQ => ?_
          obtain ⟨l, A1, c1, ws', bad', rfl, rfl, hb, hl⟩ := hQ
          repeat' (first
            | ((with_reducible refine Nx.weak K ?_ ?_ ?_ ?_) <;> (first | exact subM.nil _ | exact subB.nil _ | exact subR.nil _ | ((repeat (first | exact subE.nil _ | refine subE.cons rfl rfl ?_ | refine subE.cons' rfl (fun _ => rfl) ?_ | (refine subE.cons rfl ?_ ?_; · (simp; done)))); done) | ((repeat (first | exact subM.nil _ | refine subM.cons rfl rfl rfl ?_)); done) | ((repeat (first | exact subB.nil _ | refine subB.cons rfl ?_)); done) | ((repeat (first | exact subR.nil _ | refine subR.cons rfl rfl ?_)); done) | omega | (dsimp only; omega) | skip))
            | ((with_reducible refine atBr ?_); (first | refine BrM.t rfl ?_ | refine BrM.f rfl ?_ | refine BrM.dec (fun _ => ?_) (fun _ => ?_) | refine BrM.mk (fun _ => ?_) (fun _ => ?_)) <;> conv => whnf)
            | ((with_reducible refine atAr ?_); refine Ar.i64 (by omega) (by omega) ?_; conv => whnf)
            | ((with_reducible refine Nx.weak (K ⟨⟨{ Ln.zero with deed := 6, who := (numOf (r.headD [])).getD 0, evs := l }, none, 0, A1, c1, ws', bad'⟩, ?_⟩) ?_ ?_ ?_ ?_) <;> (first | exact fin_67 rfl r ws' l bad' hb hl | (first | exact subM.nil _ | exact subB.nil _ | exact subR.nil _ | ((repeat (first | exact subE.nil _ | refine subE.cons rfl rfl ?_ | refine subE.cons' rfl (fun _ => rfl) ?_ | (refine subE.cons rfl ?_ ?_; · (simp; done)))); done) | ((repeat (first | exact subM.nil _ | refine subM.cons rfl rfl rfl ?_)); done) | ((repeat (first | exact subB.nil _ | refine subB.cons rfl ?_)); done) | ((repeat (first | exact subR.nil _ | refine subR.cons rfl rfl ?_)); done) | omega | (dsimp only; omega)) | skip))
            | ((with_reducible refine atOps ?_); refine goR 200 ?_; conv => whnf)
            | ((with_reducible refine atPlan ?_); refine Nx.runP (n := 200) rfl (by repeat (first | exact subB.nil _ | refine subB.cons rfl ?_)) ?_; conv => whnf)
            | ((with_reducible refine atAftL ?_); refine Nx.late ?_)
            | ((fail_if_success (with_reducible refine atRet ?_)); (fail_if_success (with_reducible refine atLoop ?_)); (fail_if_success (with_reducible refine atIn ?_)); (fail_if_success (with_reducible refine atDrawn ?_)); (fail_if_success (with_reducible refine atEnd ?_)); (with_reducible refine atRun ?_); refine goR 1 ?_; conv => whnf))
        | 7, _, K =>
          refine Nx.give 3 (ownS 3 none 0 0 1 []) (own_nil _ _ _ _) ?_
          have fin := fun (o : Ln) (ws2 : List Str) (b2 : Bool) (h : Fin 7 r o ws2 b2) => h
          repeat' (first
            | ((with_reducible refine atBr ?_); (first | refine BrM.t rfl ?_ | refine BrM.f rfl ?_ | refine BrM.dec (fun _ => ?_) (fun _ => ?_) | refine BrM.mk (fun _ => ?_) (fun _ => ?_)) <;> conv => whnf)
            | ((with_reducible refine atAr ?_); refine Ar.i64 (by omega) (by omega) ?_; conv => whnf)
            | (fail)
            | ((with_reducible refine atOps ?_); refine go 200 ?_; conv => whnf)
            | ((with_reducible refine atPlan ?_); refine Nx.runP (n := 200) rfl (by repeat (first | exact subB.nil _ | refine subB.cons rfl ?_)) ?_; conv => whnf)
            | ((with_reducible refine atAftL ?_); refine Nx.late ?_)
            | ((fail_if_success (with_reducible refine atRet ?_)); (fail_if_success (with_reducible refine atLoop ?_)); (fail_if_success (with_reducible refine atIn ?_)); (fail_if_success (with_reducible refine atDrawn ?_)); (fail_if_success (with_reducible refine atEnd ?_)); (with_reducible refine atRun ?_); refine go 200 ?_; conv => whnf))
          refine Nx.call [0,1] [0,1] rfl rfl rfl rfl rfl (int_rok hG b r (false) (Nat.le_trans hr0 (by omega)) hrw) rfl fun v Q hQ => ?_
          obtain ⟨rfl, rfl⟩ := hQ
          repeat' (first
            | ((with_reducible refine atBr ?_); (first | refine BrM.t rfl ?_ | refine BrM.f rfl ?_ | refine BrM.dec (fun _ => ?_) (fun _ => ?_) | refine BrM.mk (fun _ => ?_) (fun _ => ?_)) <;> conv => whnf)
            | ((with_reducible refine atAr ?_); refine Ar.i64 (by omega) (by omega) ?_; conv => whnf)
            | (fail)
            | ((with_reducible refine atOps ?_); refine go 200 ?_; conv => whnf)
            | ((with_reducible refine atPlan ?_); refine Nx.runP (n := 200) rfl (by repeat (first | exact subB.nil _ | refine subB.cons rfl ?_)) ?_; conv => whnf)
            | ((with_reducible refine atAftL ?_); refine Nx.late ?_)
            | ((fail_if_success (with_reducible refine atRet ?_)); (fail_if_success (with_reducible refine atLoop ?_)); (fail_if_success (with_reducible refine atIn ?_)); (fail_if_success (with_reducible refine atDrawn ?_)); (fail_if_success (with_reducible refine atEnd ?_)); (with_reducible refine atRun ?_); refine go 200 ?_; conv => whnf))
          refine Nx.call [0,1] [0,1,4] rfl rfl rfl rfl rfl (events_rok hG b r.tail (false || (numOf (r.headD [])).isNone) (Nat.le_trans hr1 (by omega)) hw1) rfl fun v Q hQ => ?_
          obtain ⟨l, A1, c1, ws', bad', rfl, rfl, hb, hl⟩ := hQ
          repeat' (first
            | ((with_reducible refine Nx.weak K ?_ ?_ ?_ ?_) <;> (first | exact subM.nil _ | exact subB.nil _ | exact subR.nil _ | ((repeat (first | exact subE.nil _ | refine subE.cons rfl rfl ?_ | refine subE.cons' rfl (fun _ => rfl) ?_ | (refine subE.cons rfl ?_ ?_; · (simp; done)))); done) | ((repeat (first | exact subM.nil _ | refine subM.cons rfl rfl rfl ?_)); done) | ((repeat (first | exact subB.nil _ | refine subB.cons rfl ?_)); done) | ((repeat (first | exact subR.nil _ | refine subR.cons rfl rfl ?_)); done) | omega | (dsimp only; omega) | skip))
            | ((with_reducible refine atBr ?_); (first | refine BrM.t rfl ?_ | refine BrM.f rfl ?_ | refine BrM.dec (fun _ => ?_) (fun _ => ?_) | refine BrM.mk (fun _ => ?_) (fun _ => ?_)) <;> conv => whnf)
            | ((with_reducible refine atAr ?_); refine Ar.i64 (by omega) (by omega) ?_; conv => whnf)
            | ((with_reducible refine Nx.weak (K ⟨⟨{ Ln.zero with deed := 7, who := (numOf (r.headD [])).getD 0, evs := l }, none, 0, A1, c1, ws', bad'⟩, ?_⟩) ?_ ?_ ?_ ?_) <;> (first | exact fin_67 rfl r ws' l bad' hb hl | (first | exact subM.nil _ | exact subB.nil _ | exact subR.nil _ | ((repeat (first | exact subE.nil _ | refine subE.cons rfl rfl ?_ | refine subE.cons' rfl (fun _ => rfl) ?_ | (refine subE.cons rfl ?_ ?_; · (simp; done)))); done) | ((repeat (first | exact subM.nil _ | refine subM.cons rfl rfl rfl ?_)); done) | ((repeat (first | exact subB.nil _ | refine subB.cons rfl ?_)); done) | ((repeat (first | exact subR.nil _ | refine subR.cons rfl rfl ?_)); done) | omega | (dsimp only; omega)) | skip))
            | ((with_reducible refine atOps ?_); refine goR 200 ?_; conv => whnf)
            | ((with_reducible refine atPlan ?_); refine Nx.runP (n := 200) rfl (by repeat (first | exact subB.nil _ | refine subB.cons rfl ?_)) ?_; conv => whnf)
            | ((with_reducible refine atAftL ?_); refine Nx.late ?_)
            | ((fail_if_success (with_reducible refine atRet ?_)); (fail_if_success (with_reducible refine atLoop ?_)); (fail_if_success (with_reducible refine atIn ?_)); (fail_if_success (with_reducible refine atDrawn ?_)); (fail_if_success (with_reducible refine atEnd ?_)); (with_reducible refine atRun ?_); refine goR 1 ?_; conv => whnf))
        | 8, _, K =>
          refine Nx.give 3 (ownS 3 none 0 0 1 []) (own_nil _ _ _ _) ?_
          refine Nx.give 4 (ownS 72 none 0 0 2 []) (own_nil _ _ _ _) ?_
          have fin := fun (o : Ln) (ws2 : List Str) (b2 : Bool) (h : Fin 8 r o ws2 b2) => h
          repeat' (first
            | ((with_reducible refine atBr ?_); (first | refine BrM.t rfl ?_ | refine BrM.f rfl ?_ | refine BrM.dec (fun _ => ?_) (fun _ => ?_) | refine BrM.mk (fun _ => ?_) (fun _ => ?_)) <;> conv => whnf)
            | ((with_reducible refine atAr ?_); refine Ar.i64 (by omega) (by omega) ?_; conv => whnf)
            | (fail)
            | ((with_reducible refine atOps ?_); refine go 200 ?_; conv => whnf)
            | ((with_reducible refine atPlan ?_); refine Nx.runP (n := 200) rfl (by repeat (first | exact subB.nil _ | refine subB.cons rfl ?_)) ?_; conv => whnf)
            | ((with_reducible refine atAftL ?_); refine Nx.late ?_)
            | ((fail_if_success (with_reducible refine atRet ?_)); (fail_if_success (with_reducible refine atLoop ?_)); (fail_if_success (with_reducible refine atIn ?_)); (fail_if_success (with_reducible refine atDrawn ?_)); (fail_if_success (with_reducible refine atEnd ?_)); (with_reducible refine atRun ?_); refine go 200 ?_; conv => whnf))
          refine Nx.call [0,1] [0,1] rfl rfl rfl rfl rfl (int_rok hG b r (false) (Nat.le_trans hr0 (by omega)) hrw) rfl fun v Q hQ => ?_
          obtain ⟨rfl, rfl⟩ := hQ
          repeat' (first
            | ((with_reducible refine atBr ?_); (first | refine BrM.t rfl ?_ | refine BrM.f rfl ?_ | refine BrM.dec (fun _ => ?_) (fun _ => ?_) | refine BrM.mk (fun _ => ?_) (fun _ => ?_)) <;> conv => whnf)
            | ((with_reducible refine atAr ?_); refine Ar.i64 (by omega) (by omega) ?_; conv => whnf)
            | (fail)
            | ((with_reducible refine atOps ?_); refine go 200 ?_; conv => whnf)
            | ((with_reducible refine atPlan ?_); refine Nx.runP (n := 200) rfl (by repeat (first | exact subB.nil _ | refine subB.cons rfl ?_)) ?_; conv => whnf)
            | ((with_reducible refine atAftL ?_); refine Nx.late ?_)
            | ((fail_if_success (with_reducible refine atRet ?_)); (fail_if_success (with_reducible refine atLoop ?_)); (fail_if_success (with_reducible refine atIn ?_)); (fail_if_success (with_reducible refine atDrawn ?_)); (fail_if_success (with_reducible refine atEnd ?_)); (with_reducible refine atRun ?_); refine go 200 ?_; conv => whnf))
          refine Nx.call [0,1] [0,1] rfl rfl rfl rfl rfl (int_rok hG b r.tail (false || (numOf (r.headD [])).isNone) (Nat.le_trans hr1 (by omega)) hw1) rfl fun v Q hQ => ?_
          obtain ⟨rfl, rfl⟩ := hQ
          repeat' (first
            | ((with_reducible refine Nx.weak K ?_ ?_ ?_ ?_) <;> (first | exact subM.nil _ | exact subB.nil _ | exact subR.nil _ | ((repeat (first | exact subE.nil _ | refine subE.cons rfl rfl ?_ | refine subE.cons' rfl (fun _ => rfl) ?_ | (refine subE.cons rfl ?_ ?_; · (simp; done)))); done) | ((repeat (first | exact subM.nil _ | refine subM.cons rfl rfl rfl ?_)); done) | ((repeat (first | exact subB.nil _ | refine subB.cons rfl ?_)); done) | ((repeat (first | exact subR.nil _ | refine subR.cons rfl rfl ?_)); done) | omega | (dsimp only; omega) | skip))
            | ((with_reducible refine atBr ?_); (first | refine BrM.t rfl ?_ | refine BrM.f rfl ?_ | refine BrM.dec (fun _ => ?_) (fun _ => ?_) | refine BrM.mk (fun _ => ?_) (fun _ => ?_)) <;> conv => whnf)
            | ((with_reducible refine atAr ?_); refine Ar.i64 (by omega) (by omega) ?_; conv => whnf)
            | ((with_reducible refine Nx.weak (K ⟨⟨{ Ln.zero with deed := 8, who := (numOf (r.headD [])).getD 0, n := (numOf (r.tail.headD [])).getD 0 }, none, 0, none, 0, r.tail.tail, (false || (numOf (r.headD [])).isNone || (numOf (r.tail.headD [])).isNone)⟩, ?_⟩) ?_ ?_ ?_ ?_) <;> (first | exact fin_nn rfl r | (first | exact subM.nil _ | exact subB.nil _ | exact subR.nil _ | ((repeat (first | exact subE.nil _ | refine subE.cons rfl rfl ?_ | refine subE.cons' rfl (fun _ => rfl) ?_ | (refine subE.cons rfl ?_ ?_; · (simp; done)))); done) | ((repeat (first | exact subM.nil _ | refine subM.cons rfl rfl rfl ?_)); done) | ((repeat (first | exact subB.nil _ | refine subB.cons rfl ?_)); done) | ((repeat (first | exact subR.nil _ | refine subR.cons rfl rfl ?_)); done) | omega | (dsimp only; omega)) | skip))
            | ((with_reducible refine atOps ?_); refine goR 200 ?_; conv => whnf)
            | ((with_reducible refine atPlan ?_); refine Nx.runP (n := 200) rfl (by repeat (first | exact subB.nil _ | refine subB.cons rfl ?_)) ?_; conv => whnf)
            | ((with_reducible refine atAftL ?_); refine Nx.late ?_)
            | ((fail_if_success (with_reducible refine atRet ?_)); (fail_if_success (with_reducible refine atLoop ?_)); (fail_if_success (with_reducible refine atIn ?_)); (fail_if_success (with_reducible refine atDrawn ?_)); (fail_if_success (with_reducible refine atEnd ?_)); (with_reducible refine atRun ?_); refine goR 1 ?_; conv => whnf))
        | 9, _, K =>
          refine Nx.give 3 (ownS 3 none 0 0 1 []) (own_nil _ _ _ _) ?_
          refine Nx.give 4 (ownS 72 none 0 0 2 []) (own_nil _ _ _ _) ?_
          have fin := fun (o : Ln) (ws2 : List Str) (b2 : Bool) (h : Fin 9 r o ws2 b2) => h
          repeat' (first
            | ((with_reducible refine atBr ?_); (first | refine BrM.t rfl ?_ | refine BrM.f rfl ?_ | refine BrM.dec (fun _ => ?_) (fun _ => ?_) | refine BrM.mk (fun _ => ?_) (fun _ => ?_)) <;> conv => whnf)
            | ((with_reducible refine atAr ?_); refine Ar.i64 (by omega) (by omega) ?_; conv => whnf)
            | (fail)
            | ((with_reducible refine atOps ?_); refine go 200 ?_; conv => whnf)
            | ((with_reducible refine atPlan ?_); refine Nx.runP (n := 200) rfl (by repeat (first | exact subB.nil _ | refine subB.cons rfl ?_)) ?_; conv => whnf)
            | ((with_reducible refine atAftL ?_); refine Nx.late ?_)
            | ((fail_if_success (with_reducible refine atRet ?_)); (fail_if_success (with_reducible refine atLoop ?_)); (fail_if_success (with_reducible refine atIn ?_)); (fail_if_success (with_reducible refine atDrawn ?_)); (fail_if_success (with_reducible refine atEnd ?_)); (with_reducible refine atRun ?_); refine go 200 ?_; conv => whnf))
          refine Nx.call [0,1] [0,1] rfl rfl rfl rfl rfl (int_rok hG b r (false) (Nat.le_trans hr0 (by omega)) hrw) rfl fun v Q hQ => ?_
          obtain ⟨rfl, rfl⟩ := hQ
          repeat' (first
            | ((with_reducible refine Nx.weak K ?_ ?_ ?_ ?_) <;> (first | exact subM.nil _ | exact subB.nil _ | exact subR.nil _ | ((repeat (first | exact subE.nil _ | refine subE.cons rfl rfl ?_ | refine subE.cons' rfl (fun _ => rfl) ?_ | (refine subE.cons rfl ?_ ?_; · (simp; done)))); done) | ((repeat (first | exact subM.nil _ | refine subM.cons rfl rfl rfl ?_)); done) | ((repeat (first | exact subB.nil _ | refine subB.cons rfl ?_)); done) | ((repeat (first | exact subR.nil _ | refine subR.cons rfl rfl ?_)); done) | omega | (dsimp only; omega) | skip))
            | ((with_reducible refine atBr ?_); (first | refine BrM.t rfl ?_ | refine BrM.f rfl ?_ | refine BrM.dec (fun _ => ?_) (fun _ => ?_) | refine BrM.mk (fun _ => ?_) (fun _ => ?_)) <;> conv => whnf)
            | ((with_reducible refine atAr ?_); refine Ar.i64 (by omega) (by omega) ?_; conv => whnf)
            | ((with_reducible refine Nx.weak (K ⟨⟨{ Ln.zero with deed := 9, who := (numOf (r.headD [])).getD 0 }, none, 0, none, 0, r.tail, (false || (numOf (r.headD [])).isNone)⟩, ?_⟩) ?_ ?_ ?_ ?_) <;> (first | exact fin_n (k := 9) (c := 104) rfl (by decide) (by decide) (by decide) (by decide) r | (first | exact subM.nil _ | exact subB.nil _ | exact subR.nil _ | ((repeat (first | exact subE.nil _ | refine subE.cons rfl rfl ?_ | refine subE.cons' rfl (fun _ => rfl) ?_ | (refine subE.cons rfl ?_ ?_; · (simp; done)))); done) | ((repeat (first | exact subM.nil _ | refine subM.cons rfl rfl rfl ?_)); done) | ((repeat (first | exact subB.nil _ | refine subB.cons rfl ?_)); done) | ((repeat (first | exact subR.nil _ | refine subR.cons rfl rfl ?_)); done) | omega | (dsimp only; omega)) | skip))
            | ((with_reducible refine atOps ?_); refine goR 200 ?_; conv => whnf)
            | ((with_reducible refine atPlan ?_); refine Nx.runP (n := 200) rfl (by repeat (first | exact subB.nil _ | refine subB.cons rfl ?_)) ?_; conv => whnf)
            | ((with_reducible refine atAftL ?_); refine Nx.late ?_)
            | ((fail_if_success (with_reducible refine atRet ?_)); (fail_if_success (with_reducible refine atLoop ?_)); (fail_if_success (with_reducible refine atIn ?_)); (fail_if_success (with_reducible refine atDrawn ?_)); (fail_if_success (with_reducible refine atEnd ?_)); (with_reducible refine atRun ?_); refine goR 1 ?_; conv => whnf))
        | 10, _, K =>
          refine Nx.give 3 (ownS 3 none 0 0 1 []) (own_nil _ _ _ _) ?_
          refine Nx.give 4 (ownS 72 none 0 0 2 []) (own_nil _ _ _ _) ?_
          have fin := fun (o : Ln) (ws2 : List Str) (b2 : Bool) (h : Fin 10 r o ws2 b2) => h
          repeat' (first
            | ((with_reducible refine atBr ?_); (first | refine BrM.t rfl ?_ | refine BrM.f rfl ?_ | refine BrM.dec (fun _ => ?_) (fun _ => ?_) | refine BrM.mk (fun _ => ?_) (fun _ => ?_)) <;> conv => whnf)
            | ((with_reducible refine atAr ?_); refine Ar.i64 (by omega) (by omega) ?_; conv => whnf)
            | (fail)
            | ((with_reducible refine atOps ?_); refine go 200 ?_; conv => whnf)
            | ((with_reducible refine atPlan ?_); refine Nx.runP (n := 200) rfl (by repeat (first | exact subB.nil _ | refine subB.cons rfl ?_)) ?_; conv => whnf)
            | ((with_reducible refine atAftL ?_); refine Nx.late ?_)
            | ((fail_if_success (with_reducible refine atRet ?_)); (fail_if_success (with_reducible refine atLoop ?_)); (fail_if_success (with_reducible refine atIn ?_)); (fail_if_success (with_reducible refine atDrawn ?_)); (fail_if_success (with_reducible refine atEnd ?_)); (with_reducible refine atRun ?_); refine go 200 ?_; conv => whnf))
          refine Nx.call [0,1] [0,1] rfl rfl rfl rfl rfl (int_rok hG b r (false) (Nat.le_trans hr0 (by omega)) hrw) rfl fun v Q hQ => ?_
          obtain ⟨rfl, rfl⟩ := hQ
          repeat' (first
            | ((with_reducible refine atBr ?_); (first | refine BrM.t rfl ?_ | refine BrM.f rfl ?_ | refine BrM.dec (fun _ => ?_) (fun _ => ?_) | refine BrM.mk (fun _ => ?_) (fun _ => ?_)) <;> conv => whnf)
            | ((with_reducible refine atAr ?_); refine Ar.i64 (by omega) (by omega) ?_; conv => whnf)
            | (fail)
            | ((with_reducible refine atOps ?_); refine go 200 ?_; conv => whnf)
            | ((with_reducible refine atPlan ?_); refine Nx.runP (n := 200) rfl (by repeat (first | exact subB.nil _ | refine subB.cons rfl ?_)) ?_; conv => whnf)
            | ((with_reducible refine atAftL ?_); refine Nx.late ?_)
            | ((fail_if_success (with_reducible refine atRet ?_)); (fail_if_success (with_reducible refine atLoop ?_)); (fail_if_success (with_reducible refine atIn ?_)); (fail_if_success (with_reducible refine atDrawn ?_)); (fail_if_success (with_reducible refine atEnd ?_)); (with_reducible refine atRun ?_); refine go 200 ?_; conv => whnf))
          refine Nx.call [0,1] [0,1] rfl rfl rfl rfl rfl (int_rok hG b r.tail (false || (numOf (r.headD [])).isNone) (Nat.le_trans hr1 (by omega)) hw1) rfl fun v Q hQ => ?_
          obtain ⟨rfl, rfl⟩ := hQ
          repeat' (first
            | ((with_reducible refine Nx.weak K ?_ ?_ ?_ ?_) <;> (first | exact subM.nil _ | exact subB.nil _ | exact subR.nil _ | ((repeat (first | exact subE.nil _ | refine subE.cons rfl rfl ?_ | refine subE.cons' rfl (fun _ => rfl) ?_ | (refine subE.cons rfl ?_ ?_; · (simp; done)))); done) | ((repeat (first | exact subM.nil _ | refine subM.cons rfl rfl rfl ?_)); done) | ((repeat (first | exact subB.nil _ | refine subB.cons rfl ?_)); done) | ((repeat (first | exact subR.nil _ | refine subR.cons rfl rfl ?_)); done) | omega | (dsimp only; omega) | skip))
            | ((with_reducible refine atBr ?_); (first | refine BrM.t rfl ?_ | refine BrM.f rfl ?_ | refine BrM.dec (fun _ => ?_) (fun _ => ?_) | refine BrM.mk (fun _ => ?_) (fun _ => ?_)) <;> conv => whnf)
            | ((with_reducible refine atAr ?_); refine Ar.i64 (by omega) (by omega) ?_; conv => whnf)
            | ((with_reducible refine Nx.weak (K ⟨⟨{ Ln.zero with deed := 10, who := (numOf (r.headD [])).getD 0, n := (numOf (r.tail.headD [])).getD 0 }, none, 0, none, 0, r.tail.tail, (false || (numOf (r.headD [])).isNone || (numOf (r.tail.headD [])).isNone)⟩, ?_⟩) ?_ ?_ ?_ ?_) <;> (first | exact fin_nn rfl r | (first | exact subM.nil _ | exact subB.nil _ | exact subR.nil _ | ((repeat (first | exact subE.nil _ | refine subE.cons rfl rfl ?_ | refine subE.cons' rfl (fun _ => rfl) ?_ | (refine subE.cons rfl ?_ ?_; · (simp; done)))); done) | ((repeat (first | exact subM.nil _ | refine subM.cons rfl rfl rfl ?_)); done) | ((repeat (first | exact subB.nil _ | refine subB.cons rfl ?_)); done) | ((repeat (first | exact subR.nil _ | refine subR.cons rfl rfl ?_)); done) | omega | (dsimp only; omega)) | skip))
            | ((with_reducible refine atOps ?_); refine goR 200 ?_; conv => whnf)
            | ((with_reducible refine atPlan ?_); refine Nx.runP (n := 200) rfl (by repeat (first | exact subB.nil _ | refine subB.cons rfl ?_)) ?_; conv => whnf)
            | ((with_reducible refine atAftL ?_); refine Nx.late ?_)
            | ((fail_if_success (with_reducible refine atRet ?_)); (fail_if_success (with_reducible refine atLoop ?_)); (fail_if_success (with_reducible refine atIn ?_)); (fail_if_success (with_reducible refine atDrawn ?_)); (fail_if_success (with_reducible refine atEnd ?_)); (with_reducible refine atRun ?_); refine goR 1 ?_; conv => whnf))
        | 11, _, K =>
          refine Nx.give 3 (ownS 3 none 0 0 1 []) (own_nil _ _ _ _) ?_
          refine Nx.give 4 (ownS 72 none 0 0 2 []) (own_nil _ _ _ _) ?_
          have fin := fun (o : Ln) (ws2 : List Str) (b2 : Bool) (h : Fin 11 r o ws2 b2) => h
          repeat' (first
            | ((with_reducible refine atBr ?_); (first | refine BrM.t rfl ?_ | refine BrM.f rfl ?_ | refine BrM.dec (fun _ => ?_) (fun _ => ?_) | refine BrM.mk (fun _ => ?_) (fun _ => ?_)) <;> conv => whnf)
            | ((with_reducible refine atAr ?_); refine Ar.i64 (by omega) (by omega) ?_; conv => whnf)
            | (fail)
            | ((with_reducible refine atOps ?_); refine go 200 ?_; conv => whnf)
            | ((with_reducible refine atPlan ?_); refine Nx.runP (n := 200) rfl (by repeat (first | exact subB.nil _ | refine subB.cons rfl ?_)) ?_; conv => whnf)
            | ((with_reducible refine atAftL ?_); refine Nx.late ?_)
            | ((fail_if_success (with_reducible refine atRet ?_)); (fail_if_success (with_reducible refine atLoop ?_)); (fail_if_success (with_reducible refine atIn ?_)); (fail_if_success (with_reducible refine atDrawn ?_)); (fail_if_success (with_reducible refine atEnd ?_)); (with_reducible refine atRun ?_); refine go 200 ?_; conv => whnf))
          refine Nx.call [0,1] [0,1] rfl rfl rfl rfl rfl (int_rok hG b r (false) (Nat.le_trans hr0 (by omega)) hrw) rfl fun v Q hQ => ?_
          obtain ⟨rfl, rfl⟩ := hQ
          repeat' (first
            | ((with_reducible refine Nx.weak K ?_ ?_ ?_ ?_) <;> (first | exact subM.nil _ | exact subB.nil _ | exact subR.nil _ | ((repeat (first | exact subE.nil _ | refine subE.cons rfl rfl ?_ | refine subE.cons' rfl (fun _ => rfl) ?_ | (refine subE.cons rfl ?_ ?_; · (simp; done)))); done) | ((repeat (first | exact subM.nil _ | refine subM.cons rfl rfl rfl ?_)); done) | ((repeat (first | exact subB.nil _ | refine subB.cons rfl ?_)); done) | ((repeat (first | exact subR.nil _ | refine subR.cons rfl rfl ?_)); done) | omega | (dsimp only; omega) | skip))
            | ((with_reducible refine atBr ?_); (first | refine BrM.t rfl ?_ | refine BrM.f rfl ?_ | refine BrM.dec (fun _ => ?_) (fun _ => ?_) | refine BrM.mk (fun _ => ?_) (fun _ => ?_)) <;> conv => whnf)
            | ((with_reducible refine atAr ?_); refine Ar.i64 (by omega) (by omega) ?_; conv => whnf)
            | ((with_reducible refine Nx.weak (K ⟨⟨{ Ln.zero with deed := 11, who := (numOf (r.headD [])).getD 0 }, none, 0, none, 0, r.tail, (false || (numOf (r.headD [])).isNone)⟩, ?_⟩) ?_ ?_ ?_ ?_) <;> (first | exact fin_n (k := 11) (c := 104) rfl (by decide) (by decide) (by decide) (by decide) r | (first | exact subM.nil _ | exact subB.nil _ | exact subR.nil _ | ((repeat (first | exact subE.nil _ | refine subE.cons rfl rfl ?_ | refine subE.cons' rfl (fun _ => rfl) ?_ | (refine subE.cons rfl ?_ ?_; · (simp; done)))); done) | ((repeat (first | exact subM.nil _ | refine subM.cons rfl rfl rfl ?_)); done) | ((repeat (first | exact subB.nil _ | refine subB.cons rfl ?_)); done) | ((repeat (first | exact subR.nil _ | refine subR.cons rfl rfl ?_)); done) | omega | (dsimp only; omega)) | skip))
            | ((with_reducible refine atOps ?_); refine goR 200 ?_; conv => whnf)
            | ((with_reducible refine atPlan ?_); refine Nx.runP (n := 200) rfl (by repeat (first | exact subB.nil _ | refine subB.cons rfl ?_)) ?_; conv => whnf)
            | ((with_reducible refine atAftL ?_); refine Nx.late ?_)
            | ((fail_if_success (with_reducible refine atRet ?_)); (fail_if_success (with_reducible refine atLoop ?_)); (fail_if_success (with_reducible refine atIn ?_)); (fail_if_success (with_reducible refine atDrawn ?_)); (fail_if_success (with_reducible refine atEnd ?_)); (with_reducible refine atRun ?_); refine goR 1 ?_; conv => whnf))
        | 12, _, K =>
          refine Nx.give 3 (ownS 3 none 0 0 1 []) (own_nil _ _ _ _) ?_
          refine Nx.give 4 (ownS 72 none 0 0 2 []) (own_nil _ _ _ _) ?_
          have fin := fun (o : Ln) (ws2 : List Str) (b2 : Bool) (h : Fin 12 r o ws2 b2) => h
          repeat' (first
            | ((with_reducible refine atBr ?_); (first | refine BrM.t rfl ?_ | refine BrM.f rfl ?_ | refine BrM.dec (fun _ => ?_) (fun _ => ?_) | refine BrM.mk (fun _ => ?_) (fun _ => ?_)) <;> conv => whnf)
            | ((with_reducible refine atAr ?_); refine Ar.i64 (by omega) (by omega) ?_; conv => whnf)
            | (fail)
            | ((with_reducible refine atOps ?_); refine go 200 ?_; conv => whnf)
            | ((with_reducible refine atPlan ?_); refine Nx.runP (n := 200) rfl (by repeat (first | exact subB.nil _ | refine subB.cons rfl ?_)) ?_; conv => whnf)
            | ((with_reducible refine atAftL ?_); refine Nx.late ?_)
            | ((fail_if_success (with_reducible refine atRet ?_)); (fail_if_success (with_reducible refine atLoop ?_)); (fail_if_success (with_reducible refine atIn ?_)); (fail_if_success (with_reducible refine atDrawn ?_)); (fail_if_success (with_reducible refine atEnd ?_)); (with_reducible refine atRun ?_); refine go 200 ?_; conv => whnf))
          refine Nx.call [0,1] [0,1] rfl rfl rfl rfl rfl (int_rok hG b r (false) (Nat.le_trans hr0 (by omega)) hrw) rfl fun v Q hQ => ?_
          obtain ⟨rfl, rfl⟩ := hQ
          repeat' (first
            | ((with_reducible refine Nx.weak K ?_ ?_ ?_ ?_) <;> (first | exact subM.nil _ | exact subB.nil _ | exact subR.nil _ | ((repeat (first | exact subE.nil _ | refine subE.cons rfl rfl ?_ | refine subE.cons' rfl (fun _ => rfl) ?_ | (refine subE.cons rfl ?_ ?_; · (simp; done)))); done) | ((repeat (first | exact subM.nil _ | refine subM.cons rfl rfl rfl ?_)); done) | ((repeat (first | exact subB.nil _ | refine subB.cons rfl ?_)); done) | ((repeat (first | exact subR.nil _ | refine subR.cons rfl rfl ?_)); done) | omega | (dsimp only; omega) | skip))
            | ((with_reducible refine atBr ?_); (first | refine BrM.t rfl ?_ | refine BrM.f rfl ?_ | refine BrM.dec (fun _ => ?_) (fun _ => ?_) | refine BrM.mk (fun _ => ?_) (fun _ => ?_)) <;> conv => whnf)
            | ((with_reducible refine atAr ?_); refine Ar.i64 (by omega) (by omega) ?_; conv => whnf)
            | ((with_reducible refine Nx.weak (K ⟨⟨{ Ln.zero with deed := 12, who := (numOf (r.headD [])).getD 0 }, none, 0, none, 0, r.tail, (false || (numOf (r.headD [])).isNone)⟩, ?_⟩) ?_ ?_ ?_ ?_) <;> (first | exact fin_n (k := 12) (c := 104) rfl (by decide) (by decide) (by decide) (by decide) r | (first | exact subM.nil _ | exact subB.nil _ | exact subR.nil _ | ((repeat (first | exact subE.nil _ | refine subE.cons rfl rfl ?_ | refine subE.cons' rfl (fun _ => rfl) ?_ | (refine subE.cons rfl ?_ ?_; · (simp; done)))); done) | ((repeat (first | exact subM.nil _ | refine subM.cons rfl rfl rfl ?_)); done) | ((repeat (first | exact subB.nil _ | refine subB.cons rfl ?_)); done) | ((repeat (first | exact subR.nil _ | refine subR.cons rfl rfl ?_)); done) | omega | (dsimp only; omega)) | skip))
            | ((with_reducible refine atOps ?_); refine goR 200 ?_; conv => whnf)
            | ((with_reducible refine atPlan ?_); refine Nx.runP (n := 200) rfl (by repeat (first | exact subB.nil _ | refine subB.cons rfl ?_)) ?_; conv => whnf)
            | ((with_reducible refine atAftL ?_); refine Nx.late ?_)
            | ((fail_if_success (with_reducible refine atRet ?_)); (fail_if_success (with_reducible refine atLoop ?_)); (fail_if_success (with_reducible refine atIn ?_)); (fail_if_success (with_reducible refine atDrawn ?_)); (fail_if_success (with_reducible refine atEnd ?_)); (with_reducible refine atRun ?_); refine goR 1 ?_; conv => whnf))
        | 13, _, K =>
          refine Nx.give 3 (ownS 3 none 0 0 1 []) (own_nil _ _ _ _) ?_
          refine Nx.give 4 (ownS 72 none 0 0 2 []) (own_nil _ _ _ _) ?_
          have fin := fun (o : Ln) (ws2 : List Str) (b2 : Bool) (h : Fin 13 r o ws2 b2) => h
          repeat' (first
            | ((with_reducible refine atBr ?_); (first | refine BrM.t rfl ?_ | refine BrM.f rfl ?_ | refine BrM.dec (fun _ => ?_) (fun _ => ?_) | refine BrM.mk (fun _ => ?_) (fun _ => ?_)) <;> conv => whnf)
            | ((with_reducible refine atAr ?_); refine Ar.i64 (by omega) (by omega) ?_; conv => whnf)
            | (fail)
            | ((with_reducible refine atOps ?_); refine go 200 ?_; conv => whnf)
            | ((with_reducible refine atPlan ?_); refine Nx.runP (n := 200) rfl (by repeat (first | exact subB.nil _ | refine subB.cons rfl ?_)) ?_; conv => whnf)
            | ((with_reducible refine atAftL ?_); refine Nx.late ?_)
            | ((fail_if_success (with_reducible refine atRet ?_)); (fail_if_success (with_reducible refine atLoop ?_)); (fail_if_success (with_reducible refine atIn ?_)); (fail_if_success (with_reducible refine atDrawn ?_)); (fail_if_success (with_reducible refine atEnd ?_)); (with_reducible refine atRun ?_); refine go 200 ?_; conv => whnf))
          refine Nx.call [0,1] [0,1] rfl rfl rfl rfl rfl (int_rok hG b r (false) (Nat.le_trans hr0 (by omega)) hrw) rfl fun v Q hQ => ?_
          obtain ⟨rfl, rfl⟩ := hQ
          repeat' (first
            | ((with_reducible refine Nx.weak K ?_ ?_ ?_ ?_) <;> (first | exact subM.nil _ | exact subB.nil _ | exact subR.nil _ | ((repeat (first | exact subE.nil _ | refine subE.cons rfl rfl ?_ | refine subE.cons' rfl (fun _ => rfl) ?_ | (refine subE.cons rfl ?_ ?_; · (simp; done)))); done) | ((repeat (first | exact subM.nil _ | refine subM.cons rfl rfl rfl ?_)); done) | ((repeat (first | exact subB.nil _ | refine subB.cons rfl ?_)); done) | ((repeat (first | exact subR.nil _ | refine subR.cons rfl rfl ?_)); done) | omega | (dsimp only; omega) | skip))
            | ((with_reducible refine atBr ?_); (first | refine BrM.t rfl ?_ | refine BrM.f rfl ?_ | refine BrM.dec (fun _ => ?_) (fun _ => ?_) | refine BrM.mk (fun _ => ?_) (fun _ => ?_)) <;> conv => whnf)
            | ((with_reducible refine atAr ?_); refine Ar.i64 (by omega) (by omega) ?_; conv => whnf)
            | ((with_reducible refine Nx.weak (K ⟨⟨{ Ln.zero with deed := 13, who := (numOf (r.headD [])).getD 0 }, none, 0, none, 0, r.tail, (false || (numOf (r.headD [])).isNone)⟩, ?_⟩) ?_ ?_ ?_ ?_) <;> (first | exact fin_n (k := 13) (c := 104) rfl (by decide) (by decide) (by decide) (by decide) r | (first | exact subM.nil _ | exact subB.nil _ | exact subR.nil _ | ((repeat (first | exact subE.nil _ | refine subE.cons rfl rfl ?_ | refine subE.cons' rfl (fun _ => rfl) ?_ | (refine subE.cons rfl ?_ ?_; · (simp; done)))); done) | ((repeat (first | exact subM.nil _ | refine subM.cons rfl rfl rfl ?_)); done) | ((repeat (first | exact subB.nil _ | refine subB.cons rfl ?_)); done) | ((repeat (first | exact subR.nil _ | refine subR.cons rfl rfl ?_)); done) | omega | (dsimp only; omega)) | skip))
            | ((with_reducible refine atOps ?_); refine goR 200 ?_; conv => whnf)
            | ((with_reducible refine atPlan ?_); refine Nx.runP (n := 200) rfl (by repeat (first | exact subB.nil _ | refine subB.cons rfl ?_)) ?_; conv => whnf)
            | ((with_reducible refine atAftL ?_); refine Nx.late ?_)
            | ((fail_if_success (with_reducible refine atRet ?_)); (fail_if_success (with_reducible refine atLoop ?_)); (fail_if_success (with_reducible refine atIn ?_)); (fail_if_success (with_reducible refine atDrawn ?_)); (fail_if_success (with_reducible refine atEnd ?_)); (with_reducible refine atRun ?_); refine goR 1 ?_; conv => whnf))
        | 14, _, K =>
          refine Nx.give 3 (ownS 3 none 0 0 1 []) (own_nil _ _ _ _) ?_
          refine Nx.give 4 (ownS 72 none 0 0 2 []) (own_nil _ _ _ _) ?_
          have fin := fun (o : Ln) (ws2 : List Str) (b2 : Bool) (h : Fin 14 r o ws2 b2) => h
          repeat' (first
            | ((with_reducible refine atBr ?_); (first | refine BrM.t rfl ?_ | refine BrM.f rfl ?_ | refine BrM.dec (fun _ => ?_) (fun _ => ?_) | refine BrM.mk (fun _ => ?_) (fun _ => ?_)) <;> conv => whnf)
            | ((with_reducible refine atAr ?_); refine Ar.i64 (by omega) (by omega) ?_; conv => whnf)
            | (fail)
            | ((with_reducible refine atOps ?_); refine go 200 ?_; conv => whnf)
            | ((with_reducible refine atPlan ?_); refine Nx.runP (n := 200) rfl (by repeat (first | exact subB.nil _ | refine subB.cons rfl ?_)) ?_; conv => whnf)
            | ((with_reducible refine atAftL ?_); refine Nx.late ?_)
            | ((fail_if_success (with_reducible refine atRet ?_)); (fail_if_success (with_reducible refine atLoop ?_)); (fail_if_success (with_reducible refine atIn ?_)); (fail_if_success (with_reducible refine atDrawn ?_)); (fail_if_success (with_reducible refine atEnd ?_)); (with_reducible refine atRun ?_); refine go 200 ?_; conv => whnf))
          refine Nx.call [0,1] [0,1] rfl rfl rfl rfl rfl (int_rok hG b r (false) (Nat.le_trans hr0 (by omega)) hrw) rfl fun v Q hQ => ?_
          obtain ⟨rfl, rfl⟩ := hQ
          repeat' (first
            | ((with_reducible refine Nx.weak K ?_ ?_ ?_ ?_) <;> (first | exact subM.nil _ | exact subB.nil _ | exact subR.nil _ | ((repeat (first | exact subE.nil _ | refine subE.cons rfl rfl ?_ | refine subE.cons' rfl (fun _ => rfl) ?_ | (refine subE.cons rfl ?_ ?_; · (simp; done)))); done) | ((repeat (first | exact subM.nil _ | refine subM.cons rfl rfl rfl ?_)); done) | ((repeat (first | exact subB.nil _ | refine subB.cons rfl ?_)); done) | ((repeat (first | exact subR.nil _ | refine subR.cons rfl rfl ?_)); done) | omega | (dsimp only; omega) | skip))
            | ((with_reducible refine atBr ?_); (first | refine BrM.t rfl ?_ | refine BrM.f rfl ?_ | refine BrM.dec (fun _ => ?_) (fun _ => ?_) | refine BrM.mk (fun _ => ?_) (fun _ => ?_)) <;> conv => whnf)
            | ((with_reducible refine atAr ?_); refine Ar.i64 (by omega) (by omega) ?_; conv => whnf)
            | ((with_reducible refine Nx.weak (K ⟨⟨{ Ln.zero with deed := 14, who := (numOf (r.headD [])).getD 0 }, none, 0, none, 0, r.tail, (false || (numOf (r.headD [])).isNone)⟩, ?_⟩) ?_ ?_ ?_ ?_) <;> (first | exact fin_n (k := 14) (c := 104) rfl (by decide) (by decide) (by decide) (by decide) r | (first | exact subM.nil _ | exact subB.nil _ | exact subR.nil _ | ((repeat (first | exact subE.nil _ | refine subE.cons rfl rfl ?_ | refine subE.cons' rfl (fun _ => rfl) ?_ | (refine subE.cons rfl ?_ ?_; · (simp; done)))); done) | ((repeat (first | exact subM.nil _ | refine subM.cons rfl rfl rfl ?_)); done) | ((repeat (first | exact subB.nil _ | refine subB.cons rfl ?_)); done) | ((repeat (first | exact subR.nil _ | refine subR.cons rfl rfl ?_)); done) | omega | (dsimp only; omega)) | skip))
            | ((with_reducible refine atOps ?_); refine goR 200 ?_; conv => whnf)
            | ((with_reducible refine atPlan ?_); refine Nx.runP (n := 200) rfl (by repeat (first | exact subB.nil _ | refine subB.cons rfl ?_)) ?_; conv => whnf)
            | ((with_reducible refine atAftL ?_); refine Nx.late ?_)
            | ((fail_if_success (with_reducible refine atRet ?_)); (fail_if_success (with_reducible refine atLoop ?_)); (fail_if_success (with_reducible refine atIn ?_)); (fail_if_success (with_reducible refine atDrawn ?_)); (fail_if_success (with_reducible refine atEnd ?_)); (with_reducible refine atRun ?_); refine goR 1 ?_; conv => whnf))
        | 15, _, K =>
          refine Nx.give 3 (ownS 3 none 0 0 1 []) (own_nil _ _ _ _) ?_
          refine Nx.give 4 (ownS 72 none 0 0 2 []) (own_nil _ _ _ _) ?_
          have fin := fun (o : Ln) (ws2 : List Str) (b2 : Bool) (h : Fin 15 r o ws2 b2) => h
          repeat' (first
            | ((with_reducible refine atBr ?_); (first | refine BrM.t rfl ?_ | refine BrM.f rfl ?_ | refine BrM.dec (fun _ => ?_) (fun _ => ?_) | refine BrM.mk (fun _ => ?_) (fun _ => ?_)) <;> conv => whnf)
            | ((with_reducible refine atAr ?_); refine Ar.i64 (by omega) (by omega) ?_; conv => whnf)
            | (fail)
            | ((with_reducible refine atOps ?_); refine go 200 ?_; conv => whnf)
            | ((with_reducible refine atPlan ?_); refine Nx.runP (n := 200) rfl (by repeat (first | exact subB.nil _ | refine subB.cons rfl ?_)) ?_; conv => whnf)
            | ((with_reducible refine atAftL ?_); refine Nx.late ?_)
            | ((fail_if_success (with_reducible refine atRet ?_)); (fail_if_success (with_reducible refine atLoop ?_)); (fail_if_success (with_reducible refine atIn ?_)); (fail_if_success (with_reducible refine atDrawn ?_)); (fail_if_success (with_reducible refine atEnd ?_)); (with_reducible refine atRun ?_); refine go 200 ?_; conv => whnf))
          refine Nx.call [0,1] [0,1] rfl rfl rfl rfl rfl (number_rok hG b r (false) (Nat.le_trans hr0 (by omega)) hrw) rfl fun v Q hQ => ?_
          obtain ⟨rfl, rfl⟩ := hQ
          repeat' (first
            | ((with_reducible refine Nx.weak K ?_ ?_ ?_ ?_) <;> (first | exact subM.nil _ | exact subB.nil _ | exact subR.nil _ | ((repeat (first | exact subE.nil _ | refine subE.cons rfl rfl ?_ | refine subE.cons' rfl (fun _ => rfl) ?_ | (refine subE.cons rfl ?_ ?_; · (simp; done)))); done) | ((repeat (first | exact subM.nil _ | refine subM.cons rfl rfl rfl ?_)); done) | ((repeat (first | exact subB.nil _ | refine subB.cons rfl ?_)); done) | ((repeat (first | exact subR.nil _ | refine subR.cons rfl rfl ?_)); done) | omega | (dsimp only; omega) | skip))
            | ((with_reducible refine atBr ?_); (first | refine BrM.t rfl ?_ | refine BrM.f rfl ?_ | refine BrM.dec (fun _ => ?_) (fun _ => ?_) | refine BrM.mk (fun _ => ?_) (fun _ => ?_)) <;> conv => whnf)
            | ((with_reducible refine atAr ?_); refine Ar.i64 (by omega) (by omega) ?_; conv => whnf)
            | ((with_reducible refine Nx.weak (K ⟨⟨{ Ln.zero with deed := 15, at_ := (numOf (r.headD [])).getD 0 }, none, 0, none, 0, r.tail, (false || (numOf (r.headD [])).isNone)⟩, ?_⟩) ?_ ?_ ?_ ?_) <;> (first | exact fin_n (k := 15) (c := 116) rfl (by decide) (by decide) (by decide) (by decide) r | (first | exact subM.nil _ | exact subB.nil _ | exact subR.nil _ | ((repeat (first | exact subE.nil _ | refine subE.cons rfl rfl ?_ | refine subE.cons' rfl (fun _ => rfl) ?_ | (refine subE.cons rfl ?_ ?_; · (simp; done)))); done) | ((repeat (first | exact subM.nil _ | refine subM.cons rfl rfl rfl ?_)); done) | ((repeat (first | exact subB.nil _ | refine subB.cons rfl ?_)); done) | ((repeat (first | exact subR.nil _ | refine subR.cons rfl rfl ?_)); done) | omega | (dsimp only; omega)) | skip))
            | ((with_reducible refine atOps ?_); refine goR 200 ?_; conv => whnf)
            | ((with_reducible refine atPlan ?_); refine Nx.runP (n := 200) rfl (by repeat (first | exact subB.nil _ | refine subB.cons rfl ?_)) ?_; conv => whnf)
            | ((with_reducible refine atAftL ?_); refine Nx.late ?_)
            | ((fail_if_success (with_reducible refine atRet ?_)); (fail_if_success (with_reducible refine atLoop ?_)); (fail_if_success (with_reducible refine atIn ?_)); (fail_if_success (with_reducible refine atDrawn ?_)); (fail_if_success (with_reducible refine atEnd ?_)); (with_reducible refine atRun ?_); refine goR 1 ?_; conv => whnf))
        | 16, _, K =>
          refine Nx.give 3 (ownS 3 none 0 0 1 []) (own_nil _ _ _ _) ?_
          refine Nx.give 4 (ownS 72 none 0 0 2 []) (own_nil _ _ _ _) ?_
          have fin := fun (o : Ln) (ws2 : List Str) (b2 : Bool) (h : Fin 16 r o ws2 b2) => h
          repeat' (first
            | ((with_reducible refine atBr ?_); (first | refine BrM.t rfl ?_ | refine BrM.f rfl ?_ | refine BrM.dec (fun _ => ?_) (fun _ => ?_) | refine BrM.mk (fun _ => ?_) (fun _ => ?_)) <;> conv => whnf)
            | ((with_reducible refine atAr ?_); refine Ar.i64 (by omega) (by omega) ?_; conv => whnf)
            | (fail)
            | ((with_reducible refine atOps ?_); refine go 200 ?_; conv => whnf)
            | ((with_reducible refine atPlan ?_); refine Nx.runP (n := 200) rfl (by repeat (first | exact subB.nil _ | refine subB.cons rfl ?_)) ?_; conv => whnf)
            | ((with_reducible refine atAftL ?_); refine Nx.late ?_)
            | ((fail_if_success (with_reducible refine atRet ?_)); (fail_if_success (with_reducible refine atLoop ?_)); (fail_if_success (with_reducible refine atIn ?_)); (fail_if_success (with_reducible refine atDrawn ?_)); (fail_if_success (with_reducible refine atEnd ?_)); (with_reducible refine atRun ?_); refine go 200 ?_; conv => whnf))
          refine Nx.call [0,1] [0,1] rfl rfl rfl rfl rfl (int_rok hG b r (false) (Nat.le_trans hr0 (by omega)) hrw) rfl fun v Q hQ => ?_
          obtain ⟨rfl, rfl⟩ := hQ
          repeat' (first
            | ((with_reducible refine Nx.weak K ?_ ?_ ?_ ?_) <;> (first | exact subM.nil _ | exact subB.nil _ | exact subR.nil _ | ((repeat (first | exact subE.nil _ | refine subE.cons rfl rfl ?_ | refine subE.cons' rfl (fun _ => rfl) ?_ | (refine subE.cons rfl ?_ ?_; · (simp; done)))); done) | ((repeat (first | exact subM.nil _ | refine subM.cons rfl rfl rfl ?_)); done) | ((repeat (first | exact subB.nil _ | refine subB.cons rfl ?_)); done) | ((repeat (first | exact subR.nil _ | refine subR.cons rfl rfl ?_)); done) | omega | (dsimp only; omega) | skip))
            | ((with_reducible refine atBr ?_); (first | refine BrM.t rfl ?_ | refine BrM.f rfl ?_ | refine BrM.dec (fun _ => ?_) (fun _ => ?_) | refine BrM.mk (fun _ => ?_) (fun _ => ?_)) <;> conv => whnf)
            | ((with_reducible refine atAr ?_); refine Ar.i64 (by omega) (by omega) ?_; conv => whnf)
            | ((with_reducible refine Nx.weak (K ⟨⟨{ Ln.zero with deed := 16, n := (numOf (r.headD [])).getD 0 }, none, 0, none, 0, r.tail, (false || (numOf (r.headD [])).isNone)⟩, ?_⟩) ?_ ?_ ?_ ?_) <;> (first | exact fin_n (k := 16) (c := 110) rfl (by decide) (by decide) (by decide) (by decide) r | (first | exact subM.nil _ | exact subB.nil _ | exact subR.nil _ | ((repeat (first | exact subE.nil _ | refine subE.cons rfl rfl ?_ | refine subE.cons' rfl (fun _ => rfl) ?_ | (refine subE.cons rfl ?_ ?_; · (simp; done)))); done) | ((repeat (first | exact subM.nil _ | refine subM.cons rfl rfl rfl ?_)); done) | ((repeat (first | exact subB.nil _ | refine subB.cons rfl ?_)); done) | ((repeat (first | exact subR.nil _ | refine subR.cons rfl rfl ?_)); done) | omega | (dsimp only; omega)) | skip))
            | ((with_reducible refine atOps ?_); refine goR 200 ?_; conv => whnf)
            | ((with_reducible refine atPlan ?_); refine Nx.runP (n := 200) rfl (by repeat (first | exact subB.nil _ | refine subB.cons rfl ?_)) ?_; conv => whnf)
            | ((with_reducible refine atAftL ?_); refine Nx.late ?_)
            | ((fail_if_success (with_reducible refine atRet ?_)); (fail_if_success (with_reducible refine atLoop ?_)); (fail_if_success (with_reducible refine atIn ?_)); (fail_if_success (with_reducible refine atDrawn ?_)); (fail_if_success (with_reducible refine atEnd ?_)); (with_reducible refine atRun ?_); refine goR 1 ?_; conv => whnf))
        | k + 17, hk, K => exact absurd hk (by omega)
      · intro x
        have hy := x.2.yes
        have hn := x.2.no
        generalize x.1.ws = wsx at hy hn ⊢
        generalize x.1.bad = bdx at hy hn ⊢
        generalize x.1.o = ox at hy ⊢
        generalize x.1.A = Ax
        generalize x.1.c = cx
        generalize x.1.B = Bx
        generalize x.1.d = dx
        clear x
        refine Nx.rdO 1 50 2 rfl fun A c hc => ?_
        refine Nx.inn 50 [4] rfl ⟨rfl, rfl⟩ rfl ⟨rfl, trivial⟩ ?_
        cases bdx with
        | true =>
          have h6 := hE 6 (by rw [hp, hd]; simp only; rw [hn (.inl rfl)])
          repeat' (first
            | ((with_reducible refine atBr ?_); (first | refine BrM.t rfl ?_ | refine BrM.f rfl ?_ | refine BrM.dec (fun _ => ?_) (fun _ => ?_) | refine BrM.mk (fun _ => ?_) (fun _ => ?_)) <;> conv => whnf)
            | ((with_reducible refine atAr ?_); refine Ar.i64 (by omega) (by omega) ?_; conv => whnf)
            | ((with_reducible refine (atCall 39) ?_); refine Nx.call [] [9] rfl rfl rfl rfl rfl ((Wrap_ok _ _ 6)) rfl fun v Q hQ => ?_; obtain ⟨b,rfl,rfl⟩ := hQ)
            | ((with_reducible refine atRet ?_); refine Nx.ret [0,9] Tryz.func16 rfl rfl ?_; (exact h6 _ (_, _)))
            | ((with_reducible refine atOps ?_); refine go 200 ?_; conv => whnf)
            | ((with_reducible refine atPlan ?_); refine Nx.runP (n := 200) rfl (by repeat (first | exact subB.nil _ | refine subB.cons rfl ?_)) ?_; conv => whnf)
            | ((with_reducible refine atAftL ?_); refine Nx.late ?_)
            | ((fail_if_success (with_reducible refine atRet ?_)); (fail_if_success (with_reducible refine atLoop ?_)); (fail_if_success (with_reducible refine atIn ?_)); (fail_if_success (with_reducible refine atDrawn ?_)); (fail_if_success (with_reducible refine atEnd ?_)); (with_reducible refine atRun ?_); refine go 200 ?_; conv => whnf))
        | false =>
          rcases wsx with _ | ⟨u, us⟩
          · have h0 := hO ox (by rw [hp, hd]; simp only; rw [hy rfl rfl])
            repeat' (first
              | ((with_reducible refine atBr ?_); refine BrM.not (by omega) ?_; conv => whnf)
              | ((with_reducible refine atBr ?_); (first | refine BrM.t rfl ?_ | refine BrM.f rfl ?_ | refine BrM.dec (fun _ => ?_) (fun _ => ?_) | refine BrM.mk (fun _ => ?_) (fun _ => ?_)) <;> conv => whnf)
              | ((with_reducible refine atAr ?_); refine Ar.i64 (by omega) (by omega) ?_; conv => whnf)
              | ((with_reducible refine atRet ?_); refine Nx.ret [0,3,4] Tryz.func16 rfl rfl ?_; (exact h0 _ _ _ _))
              | ((with_reducible refine atOps ?_); refine go 200 ?_; conv => whnf)
              | ((with_reducible refine atPlan ?_); refine Nx.runP (n := 200) rfl (by repeat (first | exact subB.nil _ | refine subB.cons rfl ?_)) ?_; conv => whnf)
              | ((with_reducible refine atAftL ?_); refine Nx.late ?_)
              | ((fail_if_success (with_reducible refine atRet ?_)); (fail_if_success (with_reducible refine atLoop ?_)); (fail_if_success (with_reducible refine atIn ?_)); (fail_if_success (with_reducible refine atDrawn ?_)); (fail_if_success (with_reducible refine atEnd ?_)); (with_reducible refine atRun ?_); refine go 200 ?_; conv => whnf))
          · have hlu : (u :: us).length = us.length + 1 := rfl
            have h6 := hE 6 (by rw [hp, hd]; simp only; rw [hn (.inr (by simp))])
            repeat' (first
              | ((with_reducible refine atBr ?_); refine BrM.yes (by omega) ?_; conv => whnf)
              | ((with_reducible refine atBr ?_); (first | refine BrM.t rfl ?_ | refine BrM.f rfl ?_ | refine BrM.dec (fun _ => ?_) (fun _ => ?_) | refine BrM.mk (fun _ => ?_) (fun _ => ?_)) <;> conv => whnf)
              | ((with_reducible refine atAr ?_); refine Ar.i64 (by omega) (by omega) ?_; conv => whnf)
              | ((with_reducible refine (atCall 39) ?_); refine Nx.call [] [9] rfl rfl rfl rfl rfl ((Wrap_ok _ _ 6)) rfl fun v Q hQ => ?_; obtain ⟨b,rfl,rfl⟩ := hQ)
              | ((with_reducible refine atRet ?_); refine Nx.ret [0,9] Tryz.func16 rfl rfl ?_; (exact h6 _ (_, _)))
              | ((with_reducible refine atOps ?_); refine go 200 ?_; conv => whnf)
              | ((with_reducible refine atPlan ?_); refine Nx.runP (n := 200) rfl (by repeat (first | exact subB.nil _ | refine subB.cons rfl ?_)) ?_; conv => whnf)
              | ((with_reducible refine atAftL ?_); refine Nx.late ?_)
              | ((fail_if_success (with_reducible refine atRet ?_)); (fail_if_success (with_reducible refine atLoop ?_)); (fail_if_success (with_reducible refine atIn ?_)); (fail_if_success (with_reducible refine atDrawn ?_)); (fail_if_success (with_reducible refine atEnd ?_)); (with_reducible refine atRun ?_); refine go 200 ?_; conv => whnf))
end Go.Proofs.YtkfnbpbhcnekiaaGreatDoor

/- Is an error a number? errors.Is at faults. -/
namespace Go.Proofs.YtkfnbpbhcnekiaaGreatDoor
open Go.RowKit Go.Lib
attribute [local irreducible] Nx Ar BrM
set_option maxRecDepth 20000
set_option maxHeartbeats 1000000

noncomputable def cmpE : Array Value → Sem Value := Extern.ReflectliteType.method fun t => do Extern.Rtype.noPackHeld "Comparable" t; pure (.bool (← typeInfo t).comparable)
theorem ext59 : ∃ fn, Tryz.prog.funcs[59]? = some fn ∧ (fn.name == "runtime.NumGoroutine") = false ∧ fn.body.isNone = true ∧ Extern.findNext fn = none ∧ Extern.find fn = some Extern.ReflectliteType.typeOf :=
  ⟨_, Tryz.func59, by kernel_rfl, by kernel_rfl, by kernel_rfl, by kernel_rfl⟩
theorem ext140 : ∃ fn, Tryz.prog.funcs[140]? = some fn ∧ (fn.name == "runtime.NumGoroutine") = false ∧ fn.body.isNone = true ∧ Extern.findNext fn = none ∧ Extern.find fn = some cmpE :=
  ⟨_, Tryz.func140, by kernel_rfl, by kernel_rfl, by kernel_rfl, by kernel_rfl⟩
theorem typeOf85 (v : Value) (w : World) : (Extern.ReflectliteType.typeOf #[.iface 85 v]).run Tryz.prog w = .ok (.iface 132 (.agg #[.pointer (some ⟨11, 85, none⟩)])) w := by kernel_rfl
theorem comparable85 (w : World) : (cmpE #[.agg #[.pointer (some ⟨11, 85, none⟩)]]).run Tryz.prog w = .ok (.bool true) w := by kernel_rfl
theorem run59 (v : Value) (w : World) : (callFunc 59 #[.iface 85 v]).run Tryz.prog w = .ok (.value (.iface 132 (.agg #[.pointer (some ⟨11, 85, none⟩)]))) w := by
  obtain ⟨fn, h1, h2, h3, h4, h5⟩ := ext59
  rw [run_callFunc_extern h1 h2 h3 h4 h5, typeOf85]; rfl
theorem run140 (w : World) : (callFunc 140 #[.agg #[.pointer (some ⟨11, 85, none⟩)]]).run Tryz.prog w = .ok (.value (.bool true)) w := by
  obtain ⟨fn, h1, h2, h3, h4, h5⟩ := ext140
  rw [run_callFunc_extern h1 h2 h3 h4 h5, comparable85]; rfl
theorem Unwrap_ok (b : Nat) (q : Str × Int) (c : Int) : FnOk Tryz.prog 136 [.pointer (some ⟨b, 0, none⟩)] [errB b q c] (fun v Q => v = .iface 85 (.int .i64 c) ∧ Q = [errB b q c]) := by
  refine FnOk.start Tryz.func136 rfl rfl rfl rfl fun F os tape output => ?_
  refine go 200 ?_
  conv => whnf
  repeat' (first
    | ((with_reducible refine atBr ?_); (first | refine BrM.t rfl ?_ | refine BrM.f rfl ?_ | refine BrM.dec (fun _ => ?_) (fun _ => ?_) | refine BrM.mk (fun _ => ?_) (fun _ => ?_)) <;> conv => whnf)
    | ((with_reducible refine atAr ?_); refine Ar.i64 (by omega) (by omega) ?_; conv => whnf)
    | ((with_reducible refine atLoad ?_); refine Nx.load1 0 rfl rfl rfl rfl ((blk_sees b _ _ _ 2 rfl)) rfl ?_)
    | ((with_reducible refine atRet ?_); refine Nx.ret [0] Tryz.func136 rfl rfl ?_; (exact ⟨rfl, rfl⟩))
    | ((with_reducible refine atOps ?_); refine go 200 ?_; conv => whnf)
    | ((with_reducible refine atPlan ?_); refine Nx.runP (n := 200) rfl (by repeat (first | exact subB.nil _ | refine subB.cons rfl ?_)) ?_; conv => whnf)
    | ((with_reducible refine atAftL ?_); refine Nx.late ?_)
    | ((fail_if_success (with_reducible refine atRet ?_)); (fail_if_success (with_reducible refine atLoop ?_)); (fail_if_success (with_reducible refine atIn ?_)); (fail_if_success (with_reducible refine atDrawn ?_)); (fail_if_success (with_reducible refine atEnd ?_)); (with_reducible refine atRun ?_); refine go 200 ?_; conv => whnf))
abbrev noT : SV := .tps [(false, [.v .nilIface]), (false, [.v (.bool false)])]
abbrev yesT (b : Nat) : SV := .tps [(false, [.v (.iface 114 (.pointer (some ⟨b, 0, none⟩)))]), (false, [.v (.bool true)])]
theorem is_ok (b : Nat) (q : Str × Int) (c n : Int) : FnOk Tryz.prog 60 [.iface 114 (.pointer (some ⟨b, 0, none⟩)), .iface 85 (.int .i64 n), .bool true] [errB b q c] (fun v Q => v = .bool (decide (c = n)) ∧ Q = [errB b q c]) := by
  refine FnOk.start Tryz.func60 rfl rfl rfl rfl fun F os tape output => ?_
  refine go 200 ?_
  conv => whnf
  refine Nx.unroll ?_
  repeat' (first
    | ((with_reducible refine atBr ?_); (first | refine BrM.t rfl ?_ | refine BrM.f rfl ?_ | refine BrM.dec (fun _ => ?_) (fun _ => ?_) | refine BrM.mk (fun _ => ?_) (fun _ => ?_)) <;> conv => whnf)
    | ((with_reducible refine atAr ?_); refine Ar.i64 (by omega) (by omega) ?_; conv => whnf)
    | ((with_reducible refine atTA (t := 134) ?_); refine Nx.px (x := noT) rfl (by kernel_rfl) ?_)
    | ((with_reducible refine atTA (t := 137) ?_); refine Nx.px (x := yesT b) rfl (by kernel_rfl) ?_)
    | ((with_reducible refine atExt ?_); refine Nx.px rfl rfl ?_)
    | ((with_reducible refine atBin ?_); refine Nx.px rfl rfl ?_)
    | ((with_reducible refine atInv ?_); refine Nx.inv [0] [0] (f := 136) (us := [.c (.v (.pointer (some ⟨b, 0, none⟩)))]) (by kernel_rfl) (fun _ => rfl) rfl (Unwrap_ok b q c) rfl fun v Q hQ => ?_; obtain ⟨rfl, rfl⟩ := hQ)
    | ((with_reducible refine atOps ?_); refine go 200 ?_; conv => whnf)
    | ((with_reducible refine atPlan ?_); refine Nx.runP (n := 200) rfl (by repeat (first | exact subB.nil _ | refine subB.cons rfl ?_)) ?_; conv => whnf)
    | ((with_reducible refine atAftL ?_); refine Nx.late ?_)
    | ((fail_if_success (with_reducible refine atRet ?_)); (fail_if_success (with_reducible refine atLoop ?_)); (fail_if_success (with_reducible refine atIn ?_)); (fail_if_success (with_reducible refine atDrawn ?_)); (fail_if_success (with_reducible refine atEnd ?_)); (with_reducible refine atRun ?_); refine go 200 ?_; conv => whnf))
  refine Nx.again ?_
  repeat' (first
    | ((with_reducible refine atBr ?_); (first | refine BrM.t rfl ?_ | refine BrM.f rfl ?_ | refine BrM.dec (fun _ => ?_) (fun _ => ?_) | refine BrM.mk (fun _ => ?_) (fun _ => ?_)) <;> conv => whnf)
    | ((with_reducible refine atAr ?_); refine Ar.i64 (by omega) (by omega) ?_; conv => whnf)
    | ((with_reducible refine atTA ?_); refine Nx.px (x := noT) rfl (by kernel_rfl) ?_)
    | ((with_reducible refine atExt ?_); refine Nx.px rfl rfl ?_)
    | ((with_reducible refine atBin ?_); refine Nx.px rfl rfl ?_)
    | ((with_reducible refine atRet ?_); refine Nx.ret [0] Tryz.func60 rfl rfl ?_; (first | exact ⟨by rw [decide_eq_true (by assumption)]; rfl, rfl⟩ | exact ⟨by rw [decide_eq_false (by assumption)]; rfl, rfl⟩))
    | ((with_reducible refine atOps ?_); refine go 200 ?_; conv => whnf)
    | ((with_reducible refine atPlan ?_); refine Nx.runP (n := 200) rfl (by repeat (first | exact subB.nil _ | refine subB.cons rfl ?_)) ?_; conv => whnf)
    | ((with_reducible refine atAftL ?_); refine Nx.late ?_)
    | ((fail_if_success (with_reducible refine atRet ?_)); (fail_if_success (with_reducible refine atLoop ?_)); (fail_if_success (with_reducible refine atIn ?_)); (fail_if_success (with_reducible refine atDrawn ?_)); (fail_if_success (with_reducible refine atEnd ?_)); (with_reducible refine atRun ?_); refine go 200 ?_; conv => whnf))
theorem errorsIs_ok (b : Nat) (q : Str × Int) (c n : Int) : FnOk Tryz.prog 38 [.iface 114 (.pointer (some ⟨b, 0, none⟩)), .iface 85 (.int .i64 n)] [errB b q c] (fun v Q => v = .bool (decide (c = n)) ∧ Q = [errB b q c]) := by
  refine FnOk.start Tryz.func38 rfl rfl rfl rfl fun F os tape output => ?_
  refine go 200 ?_
  conv => whnf
  repeat' (first
    | ((with_reducible refine atBr ?_); (first | refine BrM.t rfl ?_ | refine BrM.f rfl ?_ | refine BrM.dec (fun _ => ?_) (fun _ => ?_) | refine BrM.mk (fun _ => ?_) (fun _ => ?_)) <;> conv => whnf)
    | ((with_reducible refine atAr ?_); refine Ar.i64 (by omega) (by omega) ?_; conv => whnf)
    | ((with_reducible refine (atCall 60) ?_); refine Nx.call [0] [0] rfl rfl rfl rfl rfl ((is_ok b q c n)) rfl fun v Q hQ => ?_; obtain ⟨rfl, rfl⟩ := hQ)
    | ((with_reducible refine atCall 59 ?_); refine Nx.ext (f := 59) (us := [.c (.v (.iface 85 (.int .i64 n)))]) (by kernel_rfl) rfl (fun _ w => run59 _ w) ?_)
    | ((with_reducible refine atInv ?_); refine Nx.ext (f := 140) (us := [.agg [.v (.pointer (some ⟨11, 85, none⟩))]]) (by kernel_rfl) rfl (fun _ w => run140 w) ?_)
    | ((with_reducible refine atExt ?_); refine Nx.px rfl rfl ?_)
    | ((with_reducible refine atBin ?_); refine Nx.px rfl rfl ?_)
    | ((with_reducible refine atRet ?_); refine Nx.ret [0] Tryz.func38 rfl rfl ?_; (exact ⟨rfl, rfl⟩))
    | ((with_reducible refine atOps ?_); refine go 200 ?_; conv => whnf)
    | ((with_reducible refine atPlan ?_); refine Nx.runP (n := 200) rfl (by repeat (first | exact subB.nil _ | refine subB.cons rfl ?_)) ?_; conv => whnf)
    | ((with_reducible refine atAftL ?_); refine Nx.late ?_)
    | ((fail_if_success (with_reducible refine atRet ?_)); (fail_if_success (with_reducible refine atLoop ?_)); (fail_if_success (with_reducible refine atIn ?_)); (fail_if_success (with_reducible refine atDrawn ?_)); (fail_if_success (with_reducible refine atEnd ?_)); (with_reducible refine atRun ?_); refine go 200 ?_; conv => whnf))
theorem Is_err (b : Nat) (q : Str × Int) (c n : Int) (hc : c ≠ 0) : FnOk Tryz.prog 15 [.iface 114 (.pointer (some ⟨b, 0, none⟩)), .int .i64 n] [errB b q c] (fun v Q => v = .bool (decide (c = n)) ∧ Q = [errB b q c]) := by
  refine FnOk.start Tryz.func15 rfl rfl rfl rfl fun F os tape output => ?_
  refine go 200 ?_
  conv => whnf
  repeat' (first
    | ((with_reducible refine atBr ?_); (first | refine BrM.t rfl ?_ | refine BrM.f rfl ?_ | refine BrM.dec (fun _ => ?_) (fun _ => ?_) | refine BrM.mk (fun _ => ?_) (fun _ => ?_)) <;> conv => whnf)
    | ((with_reducible refine atAr ?_); refine Ar.i64 (by omega) (by omega) ?_; conv => whnf)
    | ((with_reducible refine (atCall 38) ?_); refine Nx.call [0] [0] rfl rfl rfl rfl rfl ((errorsIs_ok b q c n)) rfl fun v Q hQ => ?_; obtain ⟨rfl, rfl⟩ := hQ)
    | ((with_reducible refine atRet ?_); refine Nx.ret [0] Tryz.func15 rfl rfl ?_; (first | exact ⟨rfl, rfl⟩ | exact ⟨by rw [decide_eq_false (by omega)]; rfl, rfl⟩))
    | ((with_reducible refine atOps ?_); refine go 200 ?_; conv => whnf)
    | ((with_reducible refine atPlan ?_); refine Nx.runP (n := 200) rfl (by repeat (first | exact subB.nil _ | refine subB.cons rfl ?_)) ?_; conv => whnf)
    | ((with_reducible refine atAftL ?_); refine Nx.late ?_)
    | ((fail_if_success (with_reducible refine atRet ?_)); (fail_if_success (with_reducible refine atLoop ?_)); (fail_if_success (with_reducible refine atIn ?_)); (fail_if_success (with_reducible refine atDrawn ?_)); (fail_if_success (with_reducible refine atEnd ?_)); (with_reducible refine atRun ?_); refine go 200 ?_; conv => whnf))
theorem Is_nil (n : Int) : FnOk Tryz.prog 15 [.nilIface, .int .i64 n] [] (fun v Q => v = .bool (decide (0 = n)) ∧ Q = []) := by
  refine FnOk.start Tryz.func15 rfl rfl rfl rfl fun F os tape output => ?_
  refine go 200 ?_
  conv => whnf
  repeat' (first
    | ((with_reducible refine atBr ?_); (first | refine BrM.t rfl ?_ | refine BrM.f rfl ?_ | refine BrM.dec (fun _ => ?_) (fun _ => ?_) | refine BrM.mk (fun _ => ?_) (fun _ => ?_)) <;> conv => whnf)
    | ((with_reducible refine atAr ?_); refine Ar.i64 (by omega) (by omega) ?_; conv => whnf)
    | ((with_reducible refine atRet ?_); refine Nx.ret [] Tryz.func15 rfl rfl ?_; (first | exact ⟨by rw [decide_eq_true (by omega)]; rfl, rfl⟩ | exact ⟨by rw [decide_eq_false (by omega)]; rfl, rfl⟩))
    | ((with_reducible refine atOps ?_); refine go 200 ?_; conv => whnf)
    | ((with_reducible refine atPlan ?_); refine Nx.runP (n := 200) rfl (by repeat (first | exact subB.nil _ | refine subB.cons rfl ?_)) ?_; conv => whnf)
    | ((with_reducible refine atAftL ?_); refine Nx.late ?_)
    | ((fail_if_success (with_reducible refine atRet ?_)); (fail_if_success (with_reducible refine atLoop ?_)); (fail_if_success (with_reducible refine atIn ?_)); (fail_if_success (with_reducible refine atDrawn ?_)); (fail_if_success (with_reducible refine atEnd ?_)); (with_reducible refine atRun ?_); refine go 200 ?_; conv => whnf))
end Go.Proofs.YtkfnbpbhcnekiaaGreatDoor

/- What is wrong with a line that is to be printed. -/
namespace Go.Proofs.YtkfnbpbhcnekiaaGreatDoor
open Go.RowKit Go.Lib
attribute [local irreducible] Nx Ar BrM
set_option maxRecDepth 20000
set_option maxHeartbeats 1000000

def wA (o : Ln) : Prop := o.deed < 0 ∨ 16 < o.deed
def wB (o : Ln) : Prop := o.deed = 0 ∧ (o.ring < 0 ∨ 1 < o.ring)
def wC (o : Ln) : Prop := (1 ≤ o.deed ∧ o.deed ≤ 4) ∧ (o.way.kind < 0 ∨ 3 < o.way.kind)
def wD (o : Ln) : Prop := ((2 ≤ o.deed ∧ o.deed ≤ 5) ∧ 64 < o.after.length) ∨ ((o.deed = 6 ∨ o.deed = 7) ∧ 64 < o.evs.length)
open Classical in
/-- What is wrong with a line that is to be printed; 0: nothing. -/
noncomputable def wrongA (o : Ln) : Int := if wA o then 1 else if wB o then 1 else if wC o then 1 else if wD o then 8 else 0
def RightPost (o : Ln) (v : Value) (Q : List SP) : Prop := (wrongA o = 0 ∧ v = .nilIface ∧ Q = []) ∨ (wrongA o ≠ 0 ∧ ∃ b q, v = .iface 114 (.pointer (some ⟨b, 0, none⟩)) ∧ Q = [errB b q (wrongA o)])
theorem RightPost.bad {o : Ln} {c : Int} (h : wrongA o = c) (hc : c ≠ 0) (b : Nat) (q : Str × Int) : RightPost o (.iface 114 (.pointer (some ⟨b, 0, none⟩))) [errB b q c] := by
  subst h; exact .inr ⟨hc, b, q, rfl, rfl⟩
theorem right_ok (o : Ln) (A B : Option Addr) (c d : Nat) : FnOk Tryz.prog 27 [lnV o A c B d] [] (RightPost o) := by
  by_cases h1 : wA o
  · have hb := RightPost.bad (o := o) (c := 1) (by unfold wrongA; rw [if_pos h1]) (by decide)
    unfold wA at h1
    refine FnOk.start Tryz.func27 rfl rfl rfl rfl fun F os tape output => ?_
    refine go 200 ?_
    conv => whnf
    repeat' (first
      | ((with_reducible refine atBr ?_); refine BrM.not (by omega) ?_; conv => whnf)
      | ((with_reducible refine atBr ?_); refine BrM.yes (by omega) ?_; conv => whnf)
      | ((with_reducible refine atBr ?_); (first | refine BrM.t rfl ?_ | refine BrM.f rfl ?_ | refine BrM.dec (fun _ => ?_) (fun _ => ?_) | refine BrM.mk (fun _ => ?_) (fun _ => ?_)) <;> conv => whnf)
      | ((with_reducible refine atAr ?_); refine Ar.i64 (by omega) (by omega) ?_; conv => whnf)
      | ((with_reducible refine (atCall 39) ?_); refine Nx.call [] [9] rfl rfl rfl rfl rfl ((Wrap_ok _ _ 1)) rfl fun v Q hQ => ?_; obtain ⟨b,rfl,rfl⟩ := hQ)
      | ((with_reducible refine atRet ?_); refine Nx.ret [9] Tryz.func27 rfl rfl ?_; (exact hb _ (_, _)))
      | ((with_reducible refine atOps ?_); refine go 200 ?_; conv => whnf)
      | ((with_reducible refine atPlan ?_); refine Nx.runP (n := 200) rfl (by repeat (first | exact subB.nil _ | refine subB.cons rfl ?_)) ?_; conv => whnf)
      | ((with_reducible refine atAftL ?_); refine Nx.late ?_)
      | ((fail_if_success (with_reducible refine atRet ?_)); (fail_if_success (with_reducible refine atLoop ?_)); (fail_if_success (with_reducible refine atIn ?_)); (fail_if_success (with_reducible refine atDrawn ?_)); (fail_if_success (with_reducible refine atEnd ?_)); (with_reducible refine atRun ?_); refine go 200 ?_; conv => whnf))
  by_cases h2 : wB o
  · have hb := RightPost.bad (o := o) (c := 1) (by unfold wrongA; rw [if_neg h1, if_pos h2]) (by decide)
    unfold wA at h1
    unfold wB at h2
    refine FnOk.start Tryz.func27 rfl rfl rfl rfl fun F os tape output => ?_
    refine go 200 ?_
    conv => whnf
    repeat' (first
      | ((with_reducible refine atBr ?_); refine BrM.not (by omega) ?_; conv => whnf)
      | ((with_reducible refine atBr ?_); refine BrM.yes (by omega) ?_; conv => whnf)
      | ((with_reducible refine atBr ?_); (first | refine BrM.t rfl ?_ | refine BrM.f rfl ?_ | refine BrM.dec (fun _ => ?_) (fun _ => ?_) | refine BrM.mk (fun _ => ?_) (fun _ => ?_)) <;> conv => whnf)
      | ((with_reducible refine atAr ?_); refine Ar.i64 (by omega) (by omega) ?_; conv => whnf)
      | ((with_reducible refine (atCall 39) ?_); refine Nx.call [] [9] rfl rfl rfl rfl rfl ((Wrap_ok _ _ 1)) rfl fun v Q hQ => ?_; obtain ⟨b,rfl,rfl⟩ := hQ)
      | ((with_reducible refine atRet ?_); refine Nx.ret [9] Tryz.func27 rfl rfl ?_; (exact hb _ (_, _)))
      | ((with_reducible refine atOps ?_); refine go 200 ?_; conv => whnf)
      | ((with_reducible refine atPlan ?_); refine Nx.runP (n := 200) rfl (by repeat (first | exact subB.nil _ | refine subB.cons rfl ?_)) ?_; conv => whnf)
      | ((with_reducible refine atAftL ?_); refine Nx.late ?_)
      | ((fail_if_success (with_reducible refine atRet ?_)); (fail_if_success (with_reducible refine atLoop ?_)); (fail_if_success (with_reducible refine atIn ?_)); (fail_if_success (with_reducible refine atDrawn ?_)); (fail_if_success (with_reducible refine atEnd ?_)); (with_reducible refine atRun ?_); refine go 200 ?_; conv => whnf))
  by_cases h3 : wC o
  · have hb := RightPost.bad (o := o) (c := 1) (by unfold wrongA; rw [if_neg h1, if_neg h2, if_pos h3]) (by decide)
    unfold wA at h1
    unfold wB at h2
    unfold wC at h3
    refine FnOk.start Tryz.func27 rfl rfl rfl rfl fun F os tape output => ?_
    refine go 200 ?_
    conv => whnf
    repeat' (first
      | ((with_reducible refine atBr ?_); refine BrM.not (by omega) ?_; conv => whnf)
      | ((with_reducible refine atBr ?_); refine BrM.yes (by omega) ?_; conv => whnf)
      | ((with_reducible refine atBr ?_); (first | refine BrM.t rfl ?_ | refine BrM.f rfl ?_ | refine BrM.dec (fun _ => ?_) (fun _ => ?_) | refine BrM.mk (fun _ => ?_) (fun _ => ?_)) <;> conv => whnf)
      | ((with_reducible refine atAr ?_); refine Ar.i64 (by omega) (by omega) ?_; conv => whnf)
      | ((with_reducible refine (atCall 39) ?_); refine Nx.call [] [9] rfl rfl rfl rfl rfl ((Wrap_ok _ _ 1)) rfl fun v Q hQ => ?_; obtain ⟨b,rfl,rfl⟩ := hQ)
      | ((with_reducible refine atRet ?_); refine Nx.ret [9] Tryz.func27 rfl rfl ?_; (exact hb _ (_, _)))
      | ((with_reducible refine atOps ?_); refine go 200 ?_; conv => whnf)
      | ((with_reducible refine atPlan ?_); refine Nx.runP (n := 200) rfl (by repeat (first | exact subB.nil _ | refine subB.cons rfl ?_)) ?_; conv => whnf)
      | ((with_reducible refine atAftL ?_); refine Nx.late ?_)
      | ((fail_if_success (with_reducible refine atRet ?_)); (fail_if_success (with_reducible refine atLoop ?_)); (fail_if_success (with_reducible refine atIn ?_)); (fail_if_success (with_reducible refine atDrawn ?_)); (fail_if_success (with_reducible refine atEnd ?_)); (with_reducible refine atRun ?_); refine go 200 ?_; conv => whnf))
  by_cases h4 : wD o
  · have hb := RightPost.bad (o := o) (c := 8) (by unfold wrongA; rw [if_neg h1, if_neg h2, if_neg h3, if_pos h4]) (by decide)
    unfold wA at h1
    unfold wB at h2
    unfold wC at h3
    unfold wD at h4
    refine FnOk.start Tryz.func27 rfl rfl rfl rfl fun F os tape output => ?_
    refine go 200 ?_
    conv => whnf
    repeat' (first
      | ((with_reducible refine atBr ?_); refine BrM.not (by omega) ?_; conv => whnf)
      | ((with_reducible refine atBr ?_); refine BrM.yes (by omega) ?_; conv => whnf)
      | ((with_reducible refine atBr ?_); (first | refine BrM.t rfl ?_ | refine BrM.f rfl ?_ | refine BrM.dec (fun _ => ?_) (fun _ => ?_) | refine BrM.mk (fun _ => ?_) (fun _ => ?_)) <;> conv => whnf)
      | ((with_reducible refine atAr ?_); refine Ar.i64 (by omega) (by omega) ?_; conv => whnf)
      | ((with_reducible refine (atCall 39) ?_); refine Nx.call [] [9] rfl rfl rfl rfl rfl ((Wrap_ok _ _ 8)) rfl fun v Q hQ => ?_; obtain ⟨b,rfl,rfl⟩ := hQ)
      | ((with_reducible refine (atCall 30) ?_); refine Nx.call [] [] rfl rfl rfl rfl rfl ((behind_ok o.deed)) rfl fun v Q hQ => ?_; obtain ⟨rfl, rfl⟩ := hQ)
      | ((with_reducible refine atRet ?_); refine Nx.ret [9] Tryz.func27 rfl rfl ?_; (exact hb _ (_, _)))
      | ((with_reducible refine atOps ?_); refine go 200 ?_; conv => whnf)
      | ((with_reducible refine atPlan ?_); refine Nx.runP (n := 200) rfl (by repeat (first | exact subB.nil _ | refine subB.cons rfl ?_)) ?_; conv => whnf)
      | ((with_reducible refine atAftL ?_); refine Nx.late ?_)
      | ((fail_if_success (with_reducible refine atRet ?_)); (fail_if_success (with_reducible refine atLoop ?_)); (fail_if_success (with_reducible refine atIn ?_)); (fail_if_success (with_reducible refine atDrawn ?_)); (fail_if_success (with_reducible refine atEnd ?_)); (with_reducible refine atRun ?_); refine go 200 ?_; conv => whnf))
  · have hg : RightPost o .nilIface [] := .inl ⟨by unfold wrongA; rw [if_neg h1, if_neg h2, if_neg h3, if_neg h4], rfl, rfl⟩
    unfold wA at h1
    unfold wB at h2
    unfold wC at h3
    unfold wD at h4
    refine FnOk.start Tryz.func27 rfl rfl rfl rfl fun F os tape output => ?_
    refine go 200 ?_
    conv => whnf
    repeat' (first
      | ((with_reducible refine atBr ?_); refine BrM.not (by omega) ?_; conv => whnf)
      | ((with_reducible refine atBr ?_); refine BrM.yes (by omega) ?_; conv => whnf)
      | ((with_reducible refine atBr ?_); (first | refine BrM.t rfl ?_ | refine BrM.f rfl ?_ | refine BrM.dec (fun _ => ?_) (fun _ => ?_) | refine BrM.mk (fun _ => ?_) (fun _ => ?_)) <;> conv => whnf)
      | ((with_reducible refine atAr ?_); refine Ar.i64 (by omega) (by omega) ?_; conv => whnf)
      | ((with_reducible refine (atCall 30) ?_); refine Nx.call [] [] rfl rfl rfl rfl rfl ((behind_ok o.deed)) rfl fun v Q hQ => ?_; obtain ⟨rfl, rfl⟩ := hQ)
      | ((with_reducible refine atRet ?_); refine Nx.ret [] Tryz.func27 rfl rfl ?_; (exact hg))
      | ((with_reducible refine atOps ?_); refine go 200 ?_; conv => whnf)
      | ((with_reducible refine atPlan ?_); refine Nx.runP (n := 200) rfl (by repeat (first | exact subB.nil _ | refine subB.cons rfl ?_)) ?_; conv => whnf)
      | ((with_reducible refine atAftL ?_); refine Nx.late ?_)
      | ((fail_if_success (with_reducible refine atRet ?_)); (fail_if_success (with_reducible refine atLoop ?_)); (fail_if_success (with_reducible refine atIn ?_)); (fail_if_success (with_reducible refine atDrawn ?_)); (fail_if_success (with_reducible refine atEnd ?_)); (with_reducible refine atRun ?_); refine go 200 ?_; conv => whnf))
end Go.Proofs.YtkfnbpbhcnekiaaGreatDoor

/- How the document reads words. -/
namespace Go.Proofs.YtkfnbpbhcnekiaaGreatDoor
open Go.RowKit Go.Lib
attribute [local irreducible] Nx Ar BrM
set_option maxRecDepth 20000
set_option maxHeartbeats 1000000

theorem take_at {s : Str} {c : UInt8} {k : Nat} (hk : k < s.length) (hno : c ∉ s.take k) (he : s[k] ≠ c) : c ∉ s.take (k + 1) := by
  rw [List.take_succ_eq_append_getElem hk]
  intro hm
  rcases List.mem_append.1 hm with hm | hm
  · exact hno hm
  · rw [List.mem_singleton] at hm; exact he hm.symm
theorem pairV (s : Str) {k : Nat} (hk : k < s.length) (hno : (58 : UInt8) ∉ s.take k) (he : s[k] = 58) : pairC 58 s = some (s.take k, s.drop (k + 1)) := by
  rw [pairC_some]
  refine ⟨?_, hno⟩
  conv => lhs; rw [← List.take_append_drop k s]
  rw [List.drop_eq_getElem_cons hk, he]
abbrev pairVal (s : Str) : Value := match pairC 58 s with | some (a, b) => .tuple #[str a, str b, .bool true] | none => .tuple #[str s, str [], .bool false]
theorem pair_ok (s : Str) (hs : s.length ≤ 9000000) : FnOk Tryz.prog 79 [str s] [] (fun v Q => v = pairVal s ∧ Q = []) := by
  have hsz : (⟨s.toArray⟩ : ByteArray).size = s.length := by simp [ByteArray.size]
  refine FnOk.start Tryz.func79 rfl rfl rfl rfl fun F os tape output => ?_
  refine go 200 ?_
  conv => whnf
  refine Nx.loop (X := Nat) (fun k => k ≤ s.length ∧ 58 ∉ s.take k) (fun k => s.length - k)
    (fun k => [(0, sv s), (5, iv k)]) (fun _ => []) [] (fun _ => []) 0 ⟨Nat.zero_le _, by simp⟩ ?_ ?_ ?_ ?_ ?_
  · repeat (first | exact subE.nil _ | refine subE.cons rfl rfl ?_ | refine subE.cons' rfl (fun _ => rfl) ?_)
  · repeat (first | exact subM.nil _ | refine subM.cons rfl rfl rfl ?_)
  · repeat (first | exact subB.nil _ | refine subB.cons rfl ?_)
  · repeat (first | exact subR.nil _ | refine subR.cons rfl rfl ?_)
  intro k ⟨hk, hno⟩ ih
  by_cases hlt : k < s.length
  · have hb := byteAt_nat hlt
    by_cases he : s[k] = 58
    · have hb2 : byteAt s k = 58 := by rw [hb, he]; rfl
      have hp : pairVal s = .tuple #[str (s.take k), str (s.drop (k + 1)), .bool true] := by unfold pairVal; rw [pairV s hlt hno he]
      repeat' (first
        | ((with_reducible refine atBr ?_); refine BrM.yes (by omega) ?_; conv => whnf)
        | ((with_reducible refine atBr ?_); (first | refine BrM.t rfl ?_ | refine BrM.f rfl ?_ | refine BrM.dec (fun _ => ?_) (fun _ => ?_) | refine BrM.mk (fun _ => ?_) (fun _ => ?_)) <;> conv => whnf)
        | ((with_reducible refine atAr ?_); refine Ar.i64 (by omega) (by omega) ?_; conv => whnf)
        | ((with_reducible refine atIndex ?_); refine Nx.sidx rfl rfl rfl Tryz.underlying9 rfl (by omega) (by omega) ?_)
        | ((with_reducible refine atDrawn ?_); refine Nx.drawn0 [] [.pure 0, .pure 1, .pure 2, .pure 3, .pure 4, .pure 5, .pure 6, .pure 7, .pure 8, .pure 9] rfl (by kernel_rfl) rfl (by kernel_rfl) rfl (by repeat (first | exact subB.nil _ | refine subB.cons rfl ?_)) rfl ?_)
        | ((with_reducible refine atHoSlice ?_); refine Nx.hoSsl rfl rfl Tryz.underlying9 rfl rfl rfl (by omega) (by omega) (by omega) ?_)
        | ((with_reducible refine atRet ?_); refine Nx.ret [] Tryz.func79 rfl rfl ?_; (refine ⟨?_, rfl⟩; rw [hp]; simp [oneV, hsz]; done))
        | ((with_reducible refine atOps ?_); refine go 200 ?_; conv => whnf)
        | ((with_reducible refine atPlan ?_); refine Nx.runP (n := 200) rfl (by repeat (first | exact subB.nil _ | refine subB.cons rfl ?_)) ?_; conv => whnf)
        | ((with_reducible refine atAftL ?_); refine Nx.late ?_)
        | ((fail_if_success (with_reducible refine atRet ?_)); (fail_if_success (with_reducible refine atLoop ?_)); (fail_if_success (with_reducible refine atIn ?_)); (fail_if_success (with_reducible refine atDrawn ?_)); (fail_if_success (with_reducible refine atEnd ?_)); (with_reducible refine atRun ?_); refine go 200 ?_; conv => whnf))
    · have hb2 : byteAt s k ≠ 58 := fun h => he ((byte_eq (n := 58) (by omega)).1 (by rw [← hb]; exact h))
      have nx := take_at hlt hno he
      repeat' (first
        | ((with_reducible refine atBr ?_); refine BrM.yes (by omega) ?_; conv => whnf)
        | ((with_reducible refine atBr ?_); refine BrM.not (by omega) ?_; conv => whnf)
        | ((with_reducible refine atAr ?_); refine Ar.to (k := .i64) (((k+1:Nat):Int)) (by omega) ⟨by omega, by omega⟩ ?_; conv => whnf)
        | ((with_reducible refine atBr ?_); (first | refine BrM.t rfl ?_ | refine BrM.f rfl ?_ | refine BrM.dec (fun _ => ?_) (fun _ => ?_) | refine BrM.mk (fun _ => ?_) (fun _ => ?_)) <;> conv => whnf)
        | ((with_reducible refine atAr ?_); refine Ar.i64 (by omega) (by omega) ?_; conv => whnf)
        | ((with_reducible refine atIndex ?_); refine Nx.sidx rfl rfl rfl Tryz.underlying9 rfl (by omega) (by omega) ?_)
        | ((with_reducible refine atIn ?_); refine Nx.weak ((ih (k + 1) ⟨by omega, nx⟩ (by omega))) ?_ ?_ ?_ ?_ <;> (first | exact subM.nil _ | exact subB.nil _ | exact subR.nil _ | ((repeat (first | exact subE.nil _ | refine subE.cons rfl rfl ?_ | refine subE.cons' rfl (fun _ => rfl) ?_ | (refine subE.cons rfl ?_ ?_; · (simp; done)))); done) | ((repeat (first | exact subM.nil _ | refine subM.cons rfl rfl rfl ?_)); done) | ((repeat (first | exact subB.nil _ | refine subB.cons rfl ?_)); done) | ((repeat (first | exact subR.nil _ | refine subR.cons rfl rfl ?_)); done) | omega | (dsimp only; omega) | (skip) | skip))
        | ((with_reducible refine atOps ?_); refine go 200 ?_; conv => whnf)
        | ((with_reducible refine atPlan ?_); refine Nx.runP (n := 200) rfl (by repeat (first | exact subB.nil _ | refine subB.cons rfl ?_)) ?_; conv => whnf)
        | ((with_reducible refine atAftL ?_); refine Nx.late ?_)
        | ((fail_if_success (with_reducible refine atRet ?_)); (fail_if_success (with_reducible refine atLoop ?_)); (fail_if_success (with_reducible refine atIn ?_)); (fail_if_success (with_reducible refine atDrawn ?_)); (fail_if_success (with_reducible refine atEnd ?_)); (with_reducible refine atRun ?_); refine go 200 ?_; conv => whnf))
  · have : k = s.length := by omega
    subst this
    rw [List.take_length] at hno
    have hp : pairVal s = .tuple #[str s, str [], .bool false] := by unfold pairVal; rw [pairC_none.2 hno]
    repeat' (first
      | ((with_reducible refine atBr ?_); refine BrM.not (by omega) ?_; conv => whnf)
      | ((with_reducible refine atBr ?_); (first | refine BrM.t rfl ?_ | refine BrM.f rfl ?_ | refine BrM.dec (fun _ => ?_) (fun _ => ?_) | refine BrM.mk (fun _ => ?_) (fun _ => ?_)) <;> conv => whnf)
      | ((with_reducible refine atAr ?_); refine Ar.i64 (by omega) (by omega) ?_; conv => whnf)
      | ((with_reducible refine atRet ?_); refine Nx.ret [] Tryz.func79 rfl rfl ?_; (exact ⟨hp.symm, rfl⟩))
      | ((with_reducible refine atOps ?_); refine go 200 ?_; conv => whnf)
      | ((with_reducible refine atPlan ?_); refine Nx.runP (n := 200) rfl (by repeat (first | exact subB.nil _ | refine subB.cons rfl ?_)) ?_; conv => whnf)
      | ((with_reducible refine atAftL ?_); refine Nx.late ?_)
      | ((fail_if_success (with_reducible refine atRet ?_)); (fail_if_success (with_reducible refine atLoop ?_)); (fail_if_success (with_reducible refine atIn ?_)); (fail_if_success (with_reducible refine atDrawn ?_)); (fail_if_success (with_reducible refine atEnd ?_)); (with_reducible refine atRun ?_); refine go 200 ?_; conv => whnf))

structure SpX where
  i : Nat
  p : Nat
  l : List Str
  A : Option Addr
  c : Nat
structure SpI (s : Str) (c : UInt8) (x : SpX) : Prop where
  i : x.i ≤ s.length + 1
  len : x.l.length ≤ x.i
  go : x.i ≤ s.length → x.p ≤ x.i ∧ c ∉ (s.take x.i).drop x.p ∧ x.l ++ splitC c (s.drop x.p) = splitC c s
  fin : x.i = s.length + 1 → x.l = splitC c s
theorem drop_cut {s : Str} {p i : Nat} (hp : p ≤ i) (hi : i < s.length) : s.drop p = (s.take i).drop p ++ s[i] :: s.drop (i + 1) := by
  have h1 : s = s.take i ++ s[i] :: s.drop (i + 1) := by
    conv => lhs; rw [← List.take_append_drop i s]
    rw [List.drop_eq_getElem_cons hi]
  conv => lhs; rw [h1]
  rw [List.drop_append_of_le_length (by simp; omega)]
theorem drop_more {s : Str} {c : UInt8} {p i : Nat} (hp : p ≤ i) (hi : i < s.length) (hno : c ∉ (s.take i).drop p) (he : s[i] ≠ c) : c ∉ (s.take (i + 1)).drop p := by
  rw [List.take_succ_eq_append_getElem hi, List.drop_append_of_le_length (by simp; omega)]
  intro hm
  rcases List.mem_append.1 hm with hm | hm
  · exact hno hm
  · rw [List.mem_singleton] at hm; exact he hm.symm
theorem SpI.yes {s : Str} {c : UInt8} {x : SpX} (h : SpI s c x) (hi : x.i < s.length) (he : s[x.i] = c) (A : Option Addr) (d : Nat) : SpI s c ⟨x.i + 1, x.i + 1, x.l ++ [(s.take x.i).drop x.p], A, d⟩ := by
  obtain ⟨h1, h2, h3⟩ := h.go (by omega)
  have hl := h.len
  refine ⟨by show x.i + 1 ≤ _; omega, by simp; omega, fun _ => ⟨Nat.le_refl _, by simp, ?_⟩, fun e => ?_⟩
  · rw [← h3, drop_cut h1 hi, he, splitC_append _ h2]; simp
  · have e : x.i + 1 = s.length + 1 := e
    omega
theorem SpI.no {s : Str} {c : UInt8} {x : SpX} (h : SpI s c x) (hi : x.i < s.length) (he : s[x.i] ≠ c) : SpI s c ⟨x.i + 1, x.p, x.l, x.A, x.c⟩ := by
  obtain ⟨h1, h2, h3⟩ := h.go (by omega)
  have hl := h.len
  refine ⟨by show x.i + 1 ≤ _; omega, by show x.l.length ≤ x.i + 1; omega, fun _ => ⟨by show x.p ≤ x.i + 1; omega, drop_more h1 hi h2 he, h3⟩, fun e => ?_⟩
  have e : x.i + 1 = s.length + 1 := e
  omega
theorem SpI.end_ {s : Str} {c : UInt8} {x : SpX} (h : SpI s c x) (hi : x.i = s.length) (A : Option Addr) (d : Nat) : SpI s c ⟨x.i + 1, x.i + 1, x.l ++ [(s.take x.i).drop x.p], A, d⟩ := by
  obtain ⟨h1, h2, h3⟩ := h.go (by omega)
  have hl := h.len
  refine ⟨by show x.i + 1 ≤ _; omega, by simp; omega, fun e => ?_, fun _ => ?_⟩
  · have e : x.i + 1 ≤ s.length := e
    omega
  · rw [hi, List.take_length] at h2 ⊢
    rw [← h3, splitC_no h2]
theorem SplitR_ok (s : Str) (c : UInt8) (hs : s.length ≤ 9000000) : FnOk Tryz.prog 49 [str s, .int .u8 c.toNat] []
    (fun v Q => ∃ A d, v = .slice A (splitC c s).length d ∧ Q = [ownS 9 A (splitC c s).length d 1 (strs (splitC c s))]) := by
  have hsz : (⟨s.toArray⟩ : ByteArray).size = s.length := by simp [ByteArray.size]
  refine FnOk.start Tryz.func49 rfl rfl rfl rfl fun F os tape output => ?_
  refine go 200 ?_
  conv => whnf
  refine Nx.give 5 (ownS 9 none 0 0 1 []) (own_nil _ _ _ _) ?_
  refine Nx.loop (X := SpX) (SpI s c) (fun x => s.length + 1 - x.i)
    (fun x => [(0, sv s), (1, .c (.v (.int .u8 c.toNat))), (5, sl x.A x.l.length x.c), (6, iv x.p), (7, iv x.i)]) (fun _ => []) [] (fun x => [(5, ownS 9 x.A x.l.length x.c 1 (strs x.l))]) ⟨0, 0, [], none, 0⟩ ⟨by simp, by simp, fun _ => ⟨by simp, by simp, by simp⟩, fun e => by cases e⟩ ?_ ?_ ?_ ?_ ?_
  · repeat (first | exact subE.nil _ | refine subE.cons rfl rfl ?_ | refine subE.cons' rfl (fun _ => rfl) ?_)
  · repeat (first | exact subM.nil _ | refine subM.cons rfl rfl rfl ?_)
  · repeat (first | exact subB.nil _ | refine subB.cons rfl ?_)
  · repeat (first | exact subR.nil _ | refine subR.cons rfl rfl ?_)
  intro x hx ih
  have hi := hx.i
  have hln := hx.len
  by_cases hlt : x.i ≤ s.length
  · obtain ⟨hpi, _, _⟩ := hx.go hlt
    by_cases hend : x.i = s.length
    · have nx := hx.end_ hend
      repeat' (first
        | ((with_reducible refine atBr ?_); refine BrM.yes (by omega) ?_; conv => whnf)
        | ((with_reducible refine atAr ?_); refine Ar.to (k := .i64) (((x.i+1:Nat):Int)) (by omega) ⟨by omega, by omega⟩ ?_; conv => whnf)
        | ((with_reducible refine atBr ?_); (first | refine BrM.t rfl ?_ | refine BrM.f rfl ?_ | refine BrM.dec (fun _ => ?_) (fun _ => ?_) | refine BrM.mk (fun _ => ?_) (fun _ => ?_)) <;> conv => whnf)
        | ((with_reducible refine atAr ?_); refine Ar.i64 (by omega) (by omega) ?_; conv => whnf)
        | ((with_reducible refine atSlice ?_); refine Nx.ssl rfl rfl Tryz.underlying9 rfl rfl rfl (by omega) (by omega) (by omega) ?_)
        | ((with_reducible refine atApp ?_); refine Nx.append 5 (sz := 1) (by_ := 16) (news := [str ((s.take x.i).drop x.p)]) rfl rfl rfl rfl rfl Tryz.underlying56 rfl rfl rfl rfl rfl (by unfold maxLen; omega) (by omega) fun A' c'' => ?_)
        | ((with_reducible refine atOps ?_); refine go 200 ?_; conv => whnf)
        | ((with_reducible refine atPlan ?_); refine Nx.runP (n := 200) rfl (by repeat (first | exact subB.nil _ | refine subB.cons rfl ?_)) ?_; conv => whnf)
        | ((with_reducible refine atAftL ?_); refine Nx.late ?_)
        | ((fail_if_success (with_reducible refine atRet ?_)); (fail_if_success (with_reducible refine atLoop ?_)); (fail_if_success (with_reducible refine atIn ?_)); (fail_if_success (with_reducible refine atDrawn ?_)); (fail_if_success (with_reducible refine atEnd ?_)); (with_reducible refine atRun ?_); refine go 200 ?_; conv => whnf))
      refine (ih _ (nx A' c'') (by show s.length + 1 - (x.i + 1) < s.length + 1 - x.i; omega)).weak ?_ ?_ ?_ ?_
      · exact .cons rfl rfl (.cons rfl rfl (.cons rfl (by simp) (.cons rfl rfl (.cons rfl rfl (.nil _)))))
      · repeat (first | exact subM.nil _ | refine subM.cons rfl rfl rfl ?_)
      · repeat (first | exact subB.nil _ | refine subB.cons rfl ?_)
      · exact .cons rfl (by simp) (.nil _)
    · have hlt2 : x.i < s.length := by omega
      have hb := byteAt_nat hlt2
      by_cases he : s[x.i] = c
      · have hb2 : byteAt s x.i = c.toNat := by rw [hb, he]
        have nx := hx.yes hlt2 he
        repeat' (first
          | ((with_reducible refine atBr ?_); refine BrM.yes (by omega) ?_; conv => whnf)
          | ((with_reducible refine atBr ?_); refine BrM.not (by omega) ?_; conv => whnf)
          | ((with_reducible refine atAr ?_); refine Ar.to (k := .i64) (((x.i+1:Nat):Int)) (by omega) ⟨by omega, by omega⟩ ?_; conv => whnf)
          | ((with_reducible refine atBr ?_); (first | refine BrM.t rfl ?_ | refine BrM.f rfl ?_ | refine BrM.dec (fun _ => ?_) (fun _ => ?_) | refine BrM.mk (fun _ => ?_) (fun _ => ?_)) <;> conv => whnf)
          | ((with_reducible refine atAr ?_); refine Ar.i64 (by omega) (by omega) ?_; conv => whnf)
          | ((with_reducible refine atIndex ?_); refine Nx.sidx rfl rfl rfl Tryz.underlying9 rfl (by omega) (by omega) ?_)
          | ((with_reducible refine atSlice ?_); refine Nx.ssl rfl rfl Tryz.underlying9 rfl rfl rfl (by omega) (by omega) (by omega) ?_)
          | ((with_reducible refine atApp ?_); refine Nx.append 5 (sz := 1) (by_ := 16) (news := [str ((s.take x.i).drop x.p)]) rfl rfl rfl rfl rfl Tryz.underlying56 rfl rfl rfl rfl rfl (by unfold maxLen; omega) (by omega) fun A' c'' => ?_)
          | ((with_reducible refine atOps ?_); refine go 200 ?_; conv => whnf)
          | ((with_reducible refine atPlan ?_); refine Nx.runP (n := 200) rfl (by repeat (first | exact subB.nil _ | refine subB.cons rfl ?_)) ?_; conv => whnf)
          | ((with_reducible refine atAftL ?_); refine Nx.late ?_)
          | ((fail_if_success (with_reducible refine atRet ?_)); (fail_if_success (with_reducible refine atLoop ?_)); (fail_if_success (with_reducible refine atIn ?_)); (fail_if_success (with_reducible refine atDrawn ?_)); (fail_if_success (with_reducible refine atEnd ?_)); (with_reducible refine atRun ?_); refine go 200 ?_; conv => whnf))
        refine (ih _ (nx A' c'') (by show s.length + 1 - (x.i + 1) < s.length + 1 - x.i; omega)).weak ?_ ?_ ?_ ?_
        · exact .cons rfl rfl (.cons rfl rfl (.cons rfl (by simp) (.cons rfl rfl (.cons rfl rfl (.nil _)))))
        · repeat (first | exact subM.nil _ | refine subM.cons rfl rfl rfl ?_)
        · repeat (first | exact subB.nil _ | refine subB.cons rfl ?_)
        · exact .cons rfl (by simp) (.nil _)
      · have hb2 : byteAt s x.i ≠ c.toNat := fun h => he (UInt8.toNat_inj.1 (by omega))
        have nx := hx.no hlt2 he
        repeat' (first
          | ((with_reducible refine atBr ?_); refine BrM.yes (by omega) ?_; conv => whnf)
          | ((with_reducible refine atBr ?_); refine BrM.not (by omega) ?_; conv => whnf)
          | ((with_reducible refine atAr ?_); refine Ar.to (k := .i64) (((x.i+1:Nat):Int)) (by omega) ⟨by omega, by omega⟩ ?_; conv => whnf)
          | ((with_reducible refine atBr ?_); (first | refine BrM.t rfl ?_ | refine BrM.f rfl ?_ | refine BrM.dec (fun _ => ?_) (fun _ => ?_) | refine BrM.mk (fun _ => ?_) (fun _ => ?_)) <;> conv => whnf)
          | ((with_reducible refine atAr ?_); refine Ar.i64 (by omega) (by omega) ?_; conv => whnf)
          | ((with_reducible refine atIndex ?_); refine Nx.sidx rfl rfl rfl Tryz.underlying9 rfl (by omega) (by omega) ?_)
          | ((with_reducible refine atIn ?_); refine Nx.weak ((ih _ nx (by show s.length + 1 - (x.i + 1) < s.length + 1 - x.i; omega))) ?_ ?_ ?_ ?_ <;> (first | exact subM.nil _ | exact subB.nil _ | exact subR.nil _ | ((repeat (first | exact subE.nil _ | refine subE.cons rfl rfl ?_ | refine subE.cons' rfl (fun _ => rfl) ?_ | (refine subE.cons rfl ?_ ?_; · (simp; done)))); done) | ((repeat (first | exact subM.nil _ | refine subM.cons rfl rfl rfl ?_)); done) | ((repeat (first | exact subB.nil _ | refine subB.cons rfl ?_)); done) | ((repeat (first | exact subR.nil _ | refine subR.cons rfl rfl ?_)); done) | omega | (dsimp only; omega) | (skip) | skip))
          | ((with_reducible refine atOps ?_); refine go 200 ?_; conv => whnf)
          | ((with_reducible refine atPlan ?_); refine Nx.runP (n := 200) rfl (by repeat (first | exact subB.nil _ | refine subB.cons rfl ?_)) ?_; conv => whnf)
          | ((with_reducible refine atAftL ?_); refine Nx.late ?_)
          | ((fail_if_success (with_reducible refine atRet ?_)); (fail_if_success (with_reducible refine atLoop ?_)); (fail_if_success (with_reducible refine atIn ?_)); (fail_if_success (with_reducible refine atDrawn ?_)); (fail_if_success (with_reducible refine atEnd ?_)); (with_reducible refine atRun ?_); refine go 200 ?_; conv => whnf))
  · have hf := hx.fin (by omega)
    repeat' (first
      | ((with_reducible refine atBr ?_); refine BrM.not (by omega) ?_; conv => whnf)
      | ((with_reducible refine atBr ?_); (first | refine BrM.t rfl ?_ | refine BrM.f rfl ?_ | refine BrM.dec (fun _ => ?_) (fun _ => ?_) | refine BrM.mk (fun _ => ?_) (fun _ => ?_)) <;> conv => whnf)
      | ((with_reducible refine atAr ?_); refine Ar.i64 (by omega) (by omega) ?_; conv => whnf)
      | ((with_reducible refine atRet ?_); refine Nx.ret [5] Tryz.func49 rfl rfl ?_; (exact ⟨x.A, x.c, by rw [hf]; rfl, by rw [hf]⟩))
      | ((with_reducible refine atOps ?_); refine go 200 ?_; conv => whnf)
      | ((with_reducible refine atPlan ?_); refine Nx.runP (n := 200) rfl (by repeat (first | exact subB.nil _ | refine subB.cons rfl ?_)) ?_; conv => whnf)
      | ((with_reducible refine atAftL ?_); refine Nx.late ?_)
      | ((fail_if_success (with_reducible refine atRet ?_)); (fail_if_success (with_reducible refine atLoop ?_)); (fail_if_success (with_reducible refine atIn ?_)); (fail_if_success (with_reducible refine atDrawn ?_)); (fail_if_success (with_reducible refine atEnd ?_)); (with_reducible refine atRun ?_); refine go 200 ?_; conv => whnf))
end Go.Proofs.YtkfnbpbhcnekiaaGreatDoor

/- How the document reads a line: ways, fields. -/
namespace Go.Proofs.YtkfnbpbhcnekiaaGreatDoor
open Go.RowKit Go.Lib
attribute [local irreducible] Nx Ar BrM
set_option maxRecDepth 20000
set_option maxHeartbeats 1000000

abbrev wayV (w : Way) : Value := .agg #[.int .i64 w.kind, .int .i64 w.tries, .int .i64 w.time]
def RwPost (s : Str) (v : Value) (Q : List SP) : Prop := (∃ w b, v = .tuple #[wayV w, .bool b] ∧ (match readWay s with | some x => b = true ∧ w = x | none => b = false)) ∧ Q = []
theorem readWay_ok (s : Str) (hs : s.length ≤ 9000000) : FnOk Tryz.prog 66 [str s] [] (RwPost s) := by
  obtain ⟨k1, hk1⟩ : ∃ k1, k1 = kindL.getD 1 [] := ⟨_, rfl⟩
  obtain ⟨k3, hk3⟩ : ∃ k3, k3 = kindL.getD 3 [] := ⟨_, rfl⟩
  have e1 : str k1 = .string ⟨#[121, 105, 101, 108, 100]⟩ := by rw [hk1]; rfl
  by_cases h0 : s = kindL.getD 0 []
  · have hr : readWay s = some ⟨0, 0, 0⟩ := by unfold readWay; rw [if_pos h0]
    refine FnOk.start Tryz.func66 rfl rfl rfl rfl fun F os tape output => ?_
    refine go 200 ?_
    conv => whnf
    repeat' (first
      | ((with_reducible refine atBr ?_); refine BrM.yes (tl_eq h0) ?_; conv => whnf)
      | ((with_reducible refine atBr ?_); (first | refine BrM.t rfl ?_ | refine BrM.f rfl ?_ | refine BrM.dec (fun _ => ?_) (fun _ => ?_) | refine BrM.mk (fun _ => ?_) (fun _ => ?_)) <;> conv => whnf)
      | ((with_reducible refine atAr ?_); refine Ar.i64 (by omega) (by omega) ?_; conv => whnf)
      | ((with_reducible refine atRet ?_); refine Nx.ret [] Tryz.func66 rfl rfl ?_; (exact ⟨⟨⟨0, 0, 0⟩, true, rfl, by rw [hr]; exact ⟨rfl, rfl⟩⟩, rfl⟩))
      | ((with_reducible refine atOps ?_); refine go 200 ?_; conv => whnf)
      | ((with_reducible refine atPlan ?_); refine Nx.runP (n := 200) rfl (by repeat (first | exact subB.nil _ | refine subB.cons rfl ?_)) ?_; conv => whnf)
      | ((with_reducible refine atAftL ?_); refine Nx.late ?_)
      | ((fail_if_success (with_reducible refine atRet ?_)); (fail_if_success (with_reducible refine atLoop ?_)); (fail_if_success (with_reducible refine atIn ?_)); (fail_if_success (with_reducible refine atDrawn ?_)); (fail_if_success (with_reducible refine atEnd ?_)); (with_reducible refine atRun ?_); refine go 200 ?_; conv => whnf))
  by_cases h2 : s = kindL.getD 2 []
  · have hr : readWay s = some ⟨2, 0, 0⟩ := by unfold readWay; rw [if_neg h0, if_pos h2]
    refine FnOk.start Tryz.func66 rfl rfl rfl rfl fun F os tape output => ?_
    refine go 200 ?_
    conv => whnf
    repeat' (first
      | ((with_reducible refine atBr ?_); refine BrM.yes (tl_eq h2) ?_; conv => whnf)
      | ((with_reducible refine atBr ?_); refine BrM.not (fun h => h0 (toList_eq h)) ?_; conv => whnf)
      | ((with_reducible refine atBr ?_); (first | refine BrM.t rfl ?_ | refine BrM.f rfl ?_ | refine BrM.dec (fun _ => ?_) (fun _ => ?_) | refine BrM.mk (fun _ => ?_) (fun _ => ?_)) <;> conv => whnf)
      | ((with_reducible refine atAr ?_); refine Ar.i64 (by omega) (by omega) ?_; conv => whnf)
      | ((with_reducible refine atRet ?_); refine Nx.ret [] Tryz.func66 rfl rfl ?_; (exact ⟨⟨⟨2, 0, 0⟩, true, rfl, by rw [hr]; exact ⟨rfl, rfl⟩⟩, rfl⟩))
      | ((with_reducible refine atOps ?_); refine go 200 ?_; conv => whnf)
      | ((with_reducible refine atPlan ?_); refine Nx.runP (n := 200) rfl (by repeat (first | exact subB.nil _ | refine subB.cons rfl ?_)) ?_; conv => whnf)
      | ((with_reducible refine atAftL ?_); refine Nx.late ?_)
      | ((fail_if_success (with_reducible refine atRet ?_)); (fail_if_success (with_reducible refine atLoop ?_)); (fail_if_success (with_reducible refine atIn ?_)); (fail_if_success (with_reducible refine atDrawn ?_)); (fail_if_success (with_reducible refine atEnd ?_)); (with_reducible refine atRun ?_); refine go 200 ?_; conv => whnf))
  cases hp : pairC 58 s with
  | none =>
    have hr : readWay s = none := by unfold readWay; rw [if_neg h0, if_neg h2, hp]
    have hv : pairVal s = .tuple #[str s, str [], .bool false] := by unfold pairVal; rw [hp]
    refine FnOk.start Tryz.func66 rfl rfl rfl rfl fun F os tape output => ?_
    refine go 200 ?_
    conv => whnf
    repeat' (first
      | ((with_reducible refine atBr ?_); refine BrM.not (fun h => h0 (toList_eq h)) ?_; conv => whnf)
      | ((with_reducible refine atBr ?_); refine BrM.not (fun h => h2 (toList_eq h)) ?_; conv => whnf)
      | ((with_reducible refine atBr ?_); (first | refine BrM.t rfl ?_ | refine BrM.f rfl ?_ | refine BrM.dec (fun _ => ?_) (fun _ => ?_) | refine BrM.mk (fun _ => ?_) (fun _ => ?_)) <;> conv => whnf)
      | ((with_reducible refine atAr ?_); refine Ar.i64 (by omega) (by omega) ?_; conv => whnf)
      | (with_reducible refine atCall 79 ?_; refine Nx.call [] [] rfl rfl rfl rfl rfl (pair_ok s hs) rfl fun v Q hQ => ?_; obtain ⟨rfl, rfl⟩ := hQ; rw [hv])
      | ((with_reducible refine (atCall 22) ?_); refine Nx.call [] [] rfl rfl rfl rfl rfl ((Number_ok [] (by simp))) rfl fun v Q hQ => ?_; obtain ⟨rfl, rfl⟩ := hQ)
      | ((with_reducible refine atRet ?_); refine Nx.ret [] Tryz.func66 rfl rfl ?_; (exact ⟨⟨⟨0, 0, 0⟩, false, rfl, by rw [hr]⟩, rfl⟩))
      | ((with_reducible refine atOps ?_); refine go 200 ?_; conv => whnf)
      | ((with_reducible refine atPlan ?_); refine Nx.runP (n := 200) rfl (by repeat (first | exact subB.nil _ | refine subB.cons rfl ?_)) ?_; conv => whnf)
      | ((with_reducible refine atAftL ?_); refine Nx.late ?_)
      | ((fail_if_success (with_reducible refine atRet ?_)); (fail_if_success (with_reducible refine atLoop ?_)); (fail_if_success (with_reducible refine atIn ?_)); (fail_if_success (with_reducible refine atDrawn ?_)); (fail_if_success (with_reducible refine atEnd ?_)); (with_reducible refine atRun ?_); refine go 200 ?_; conv => whnf))
  | some p =>
    obtain ⟨a, b⟩ := p
    have hv : pairVal s = .tuple #[str a, str b, .bool true] := by unfold pairVal; rw [hp]
    obtain ⟨la, lb⟩ := pair_len hp
    have hr : readWay s = match numOf b with | none => none | some n => if a = kindL.getD 1 [] then some ⟨1, n, 0⟩ else if a = kindL.getD 3 [] then some ⟨3, 0, n⟩ else none := by unfold readWay; rw [if_neg h0, if_neg h2, hp]; rfl
    cases hn : numOf b with
    | none =>
      rw [hn] at hr
      have hnv : numV b = .tuple #[.int .i64 0, .bool false] := by unfold numV; rw [hn]
      refine FnOk.start Tryz.func66 rfl rfl rfl rfl fun F os tape output => ?_
      refine go 200 ?_
      conv => whnf
      repeat' (first
        | ((with_reducible refine atBr ?_); refine BrM.not (fun h => h0 (toList_eq h)) ?_; conv => whnf)
        | ((with_reducible refine atBr ?_); refine BrM.not (fun h => h2 (toList_eq h)) ?_; conv => whnf)
        | ((with_reducible refine atBr ?_); (first | refine BrM.t rfl ?_ | refine BrM.f rfl ?_ | refine BrM.dec (fun _ => ?_) (fun _ => ?_) | refine BrM.mk (fun _ => ?_) (fun _ => ?_)) <;> conv => whnf)
        | ((with_reducible refine atAr ?_); refine Ar.i64 (by omega) (by omega) ?_; conv => whnf)
        | (with_reducible refine atCall 79 ?_; refine Nx.call [] [] rfl rfl rfl rfl rfl (pair_ok s hs) rfl fun v Q hQ => ?_; obtain ⟨rfl, rfl⟩ := hQ; rw [hv])
        | (with_reducible refine atCall 22 ?_; refine Nx.call [] [] rfl rfl rfl rfl rfl (Number_ok b (by omega)) rfl fun v Q hQ => ?_; obtain ⟨rfl, rfl⟩ := hQ; rw [hnv])
        | ((with_reducible refine atRet ?_); refine Nx.ret [] Tryz.func66 rfl rfl ?_; (exact ⟨⟨⟨0, 0, 0⟩, false, rfl, by rw [hr]⟩, rfl⟩))
        | ((with_reducible refine atOps ?_); refine go 200 ?_; conv => whnf)
        | ((with_reducible refine atPlan ?_); refine Nx.runP (n := 200) rfl (by repeat (first | exact subB.nil _ | refine subB.cons rfl ?_)) ?_; conv => whnf)
        | ((with_reducible refine atAftL ?_); refine Nx.late ?_)
        | ((fail_if_success (with_reducible refine atRet ?_)); (fail_if_success (with_reducible refine atLoop ?_)); (fail_if_success (with_reducible refine atIn ?_)); (fail_if_success (with_reducible refine atDrawn ?_)); (fail_if_success (with_reducible refine atEnd ?_)); (with_reducible refine atRun ?_); refine go 200 ?_; conv => whnf))
    | some n =>
      rw [hn] at hr
      have hnv : numV b = .tuple #[.int .i64 n, .bool true] := by unfold numV; rw [hn]
      by_cases h1 : a = kindL.getD 1 []
      · have hr : readWay s = some ⟨1, n, 0⟩ := by rw [hr]; simp only; rw [if_pos h1]
        refine FnOk.start Tryz.func66 rfl rfl rfl rfl fun F os tape output => ?_
        refine go 200 ?_
        conv => whnf
        repeat' (first
          | ((with_reducible refine atBr ?_); refine BrM.not (fun h => h0 (toList_eq h)) ?_; conv => whnf)
          | ((with_reducible refine atBr ?_); refine BrM.not (fun h => h2 (toList_eq h)) ?_; conv => whnf)
          | ((with_reducible refine atBr ?_); refine BrM.yes (tl_eq h1) ?_; conv => whnf)
          | ((with_reducible refine atBr ?_); (first | refine BrM.t rfl ?_ | refine BrM.f rfl ?_ | refine BrM.dec (fun _ => ?_) (fun _ => ?_) | refine BrM.mk (fun _ => ?_) (fun _ => ?_)) <;> conv => whnf)
          | ((with_reducible refine atAr ?_); refine Ar.i64 (by omega) (by omega) ?_; conv => whnf)
          | (with_reducible refine atCall 79 ?_; refine Nx.call [] [] rfl rfl rfl rfl rfl (pair_ok s hs) rfl fun v Q hQ => ?_; obtain ⟨rfl, rfl⟩ := hQ; rw [hv])
          | (with_reducible refine atCall 22 ?_; refine Nx.call [] [] rfl rfl rfl rfl rfl (Number_ok b (by omega)) rfl fun v Q hQ => ?_; obtain ⟨rfl, rfl⟩ := hQ; rw [hnv])
          | ((with_reducible refine atRet ?_); refine Nx.ret [] Tryz.func66 rfl rfl ?_; (exact ⟨⟨⟨1, n, 0⟩, true, rfl, by rw [hr]; exact ⟨rfl, rfl⟩⟩, rfl⟩))
          | ((with_reducible refine atOps ?_); refine go 200 ?_; conv => whnf)
          | ((with_reducible refine atPlan ?_); refine Nx.runP (n := 200) rfl (by repeat (first | exact subB.nil _ | refine subB.cons rfl ?_)) ?_; conv => whnf)
          | ((with_reducible refine atAftL ?_); refine Nx.late ?_)
          | ((fail_if_success (with_reducible refine atRet ?_)); (fail_if_success (with_reducible refine atLoop ?_)); (fail_if_success (with_reducible refine atIn ?_)); (fail_if_success (with_reducible refine atDrawn ?_)); (fail_if_success (with_reducible refine atEnd ?_)); (with_reducible refine atRun ?_); refine go 200 ?_; conv => whnf))
      by_cases h3 : a = kindL.getD 3 []
      · have hr : readWay s = some ⟨3, 0, n⟩ := by rw [hr]; simp only; rw [if_neg h1, if_pos h3]
        refine FnOk.start Tryz.func66 rfl rfl rfl rfl fun F os tape output => ?_
        refine go 200 ?_
        conv => whnf
        repeat' (first
          | ((with_reducible refine atBr ?_); refine BrM.not (fun h => h0 (toList_eq h)) ?_; conv => whnf)
          | ((with_reducible refine atBr ?_); refine BrM.not (fun h => h2 (toList_eq h)) ?_; conv => whnf)
          | ((with_reducible refine atBr ?_); refine BrM.not (fun h => h1 (toList_eq h)) ?_; conv => whnf)
          | ((with_reducible refine atBr ?_); refine BrM.yes (tl_eq h3) ?_; conv => whnf)
          | ((with_reducible refine atBr ?_); (first | refine BrM.t rfl ?_ | refine BrM.f rfl ?_ | refine BrM.dec (fun _ => ?_) (fun _ => ?_) | refine BrM.mk (fun _ => ?_) (fun _ => ?_)) <;> conv => whnf)
          | ((with_reducible refine atAr ?_); refine Ar.i64 (by omega) (by omega) ?_; conv => whnf)
          | (with_reducible refine atCall 79 ?_; refine Nx.call [] [] rfl rfl rfl rfl rfl (pair_ok s hs) rfl fun v Q hQ => ?_; obtain ⟨rfl, rfl⟩ := hQ; rw [hv])
          | (with_reducible refine atCall 22 ?_; refine Nx.call [] [] rfl rfl rfl rfl rfl (Number_ok b (by omega)) rfl fun v Q hQ => ?_; obtain ⟨rfl, rfl⟩ := hQ; rw [hnv])
          | ((with_reducible refine atRet ?_); refine Nx.ret [] Tryz.func66 rfl rfl ?_; (exact ⟨⟨⟨3, 0, n⟩, true, rfl, by rw [hr]; exact ⟨rfl, rfl⟩⟩, rfl⟩))
          | ((with_reducible refine atOps ?_); refine go 200 ?_; conv => whnf)
          | ((with_reducible refine atPlan ?_); refine Nx.runP (n := 200) rfl (by repeat (first | exact subB.nil _ | refine subB.cons rfl ?_)) ?_; conv => whnf)
          | ((with_reducible refine atAftL ?_); refine Nx.late ?_)
          | ((fail_if_success (with_reducible refine atRet ?_)); (fail_if_success (with_reducible refine atLoop ?_)); (fail_if_success (with_reducible refine atIn ?_)); (fail_if_success (with_reducible refine atDrawn ?_)); (fail_if_success (with_reducible refine atEnd ?_)); (with_reducible refine atRun ?_); refine go 200 ?_; conv => whnf))
      · have hr : readWay s = none := by rw [hr]; simp only; rw [if_neg h1, if_neg h3]
        refine FnOk.start Tryz.func66 rfl rfl rfl rfl fun F os tape output => ?_
        refine go 200 ?_
        conv => whnf
        repeat' (first
          | ((with_reducible refine atBr ?_); refine BrM.not (fun h => h0 (toList_eq h)) ?_; conv => whnf)
          | ((with_reducible refine atBr ?_); refine BrM.not (fun h => h2 (toList_eq h)) ?_; conv => whnf)
          | ((with_reducible refine atBr ?_); refine BrM.not (fun h => h1 (toList_eq h)) ?_; conv => whnf)
          | ((with_reducible refine atBr ?_); refine BrM.not (fun h => h3 (toList_eq h)) ?_; conv => whnf)
          | ((with_reducible refine atBr ?_); (first | refine BrM.t rfl ?_ | refine BrM.f rfl ?_ | refine BrM.dec (fun _ => ?_) (fun _ => ?_) | refine BrM.mk (fun _ => ?_) (fun _ => ?_)) <;> conv => whnf)
          | ((with_reducible refine atAr ?_); refine Ar.i64 (by omega) (by omega) ?_; conv => whnf)
          | (with_reducible refine atCall 79 ?_; refine Nx.call [] [] rfl rfl rfl rfl rfl (pair_ok s hs) rfl fun v Q hQ => ?_; obtain ⟨rfl, rfl⟩ := hQ; rw [hv])
          | (with_reducible refine atCall 22 ?_; refine Nx.call [] [] rfl rfl rfl rfl rfl (Number_ok b (by omega)) rfl fun v Q hQ => ?_; obtain ⟨rfl, rfl⟩ := hQ; rw [hnv])
          | ((with_reducible refine atRet ?_); refine Nx.ret [] Tryz.func66 rfl rfl ?_; (exact ⟨⟨⟨0, 0, 0⟩, false, rfl, by rw [hr]⟩, rfl⟩))
          | ((with_reducible refine atOps ?_); refine go 200 ?_; conv => whnf)
          | ((with_reducible refine atPlan ?_); refine Nx.runP (n := 200) rfl (by repeat (first | exact subB.nil _ | refine subB.cons rfl ?_)) ?_; conv => whnf)
          | ((with_reducible refine atAftL ?_); refine Nx.late ?_)
          | ((fail_if_success (with_reducible refine atRet ?_)); (fail_if_success (with_reducible refine atLoop ?_)); (fail_if_success (with_reducible refine atIn ?_)); (fail_if_success (with_reducible refine atDrawn ?_)); (fail_if_success (with_reducible refine atEnd ?_)); (with_reducible refine atRun ?_); refine go 200 ?_; conv => whnf))

theorem put_ok (o : Ln) (A B : Option Addr) (c d : Nat) (ch : UInt8) (n : Int) : FnOk Tryz.prog 67 [lnV o A c B d, .int .u8 ch.toNat, .int .i64 n] [] (fun v Q => v = lnV (putN o ch n) A c B d ∧ Q = []) := by
  have he : ∀ k : Nat, k < 256 → ((ch.toNat : Int) = k ↔ ch = UInt8.ofNat k) := fun k hk => byte_eq hk
  have h110 := he 110 (by omega)
  have h114 := he 114 (by omega)
  have h104 := he 104 (by omega)
  clear he
  by_cases h1 : ch = 110
  · have hp : putN o ch n = { o with n := n } := by unfold putN; rw [if_pos h1]
    have hi := h110.2 h1
    refine FnOk.start Tryz.func67 rfl rfl rfl rfl fun F os tape output => ?_
    refine go 200 ?_
    conv => whnf
    repeat' (first
      | ((with_reducible refine atBr ?_); refine BrM.yes (by omega) ?_; conv => whnf)
      | ((with_reducible refine atBr ?_); refine BrM.not (by omega) ?_; conv => whnf)
      | ((with_reducible refine atBr ?_); (first | refine BrM.t rfl ?_ | refine BrM.f rfl ?_ | refine BrM.dec (fun _ => ?_) (fun _ => ?_) | refine BrM.mk (fun _ => ?_) (fun _ => ?_)) <;> conv => whnf)
      | ((with_reducible refine atAr ?_); refine Ar.i64 (by omega) (by omega) ?_; conv => whnf)
      | ((with_reducible refine atRet ?_); refine Nx.ret [] Tryz.func67 rfl rfl ?_; (refine ⟨?_, rfl⟩; rw [hp]; rfl))
      | ((with_reducible refine atOps ?_); refine go 200 ?_; conv => whnf)
      | ((with_reducible refine atPlan ?_); refine Nx.runP (n := 200) rfl (by repeat (first | exact subB.nil _ | refine subB.cons rfl ?_)) ?_; conv => whnf)
      | ((with_reducible refine atAftL ?_); refine Nx.late ?_)
      | ((fail_if_success (with_reducible refine atRet ?_)); (fail_if_success (with_reducible refine atLoop ?_)); (fail_if_success (with_reducible refine atIn ?_)); (fail_if_success (with_reducible refine atDrawn ?_)); (fail_if_success (with_reducible refine atEnd ?_)); (with_reducible refine atRun ?_); refine go 200 ?_; conv => whnf))
  by_cases h2 : ch = 114
  · have hp : putN o ch n = { o with ring := n } := by unfold putN; rw [if_neg h1, if_pos h2]
    have hi := h114.2 h2
    refine FnOk.start Tryz.func67 rfl rfl rfl rfl fun F os tape output => ?_
    refine go 200 ?_
    conv => whnf
    repeat' (first
      | ((with_reducible refine atBr ?_); refine BrM.yes (by omega) ?_; conv => whnf)
      | ((with_reducible refine atBr ?_); refine BrM.not (by omega) ?_; conv => whnf)
      | ((with_reducible refine atBr ?_); (first | refine BrM.t rfl ?_ | refine BrM.f rfl ?_ | refine BrM.dec (fun _ => ?_) (fun _ => ?_) | refine BrM.mk (fun _ => ?_) (fun _ => ?_)) <;> conv => whnf)
      | ((with_reducible refine atAr ?_); refine Ar.i64 (by omega) (by omega) ?_; conv => whnf)
      | ((with_reducible refine atRet ?_); refine Nx.ret [] Tryz.func67 rfl rfl ?_; (refine ⟨?_, rfl⟩; rw [hp]; rfl))
      | ((with_reducible refine atOps ?_); refine go 200 ?_; conv => whnf)
      | ((with_reducible refine atPlan ?_); refine Nx.runP (n := 200) rfl (by repeat (first | exact subB.nil _ | refine subB.cons rfl ?_)) ?_; conv => whnf)
      | ((with_reducible refine atAftL ?_); refine Nx.late ?_)
      | ((fail_if_success (with_reducible refine atRet ?_)); (fail_if_success (with_reducible refine atLoop ?_)); (fail_if_success (with_reducible refine atIn ?_)); (fail_if_success (with_reducible refine atDrawn ?_)); (fail_if_success (with_reducible refine atEnd ?_)); (with_reducible refine atRun ?_); refine go 200 ?_; conv => whnf))
  by_cases h3 : ch = 104
  · have hp : putN o ch n = { o with who := n } := by unfold putN; rw [if_neg h1, if_neg h2, if_pos h3]
    have hi := h104.2 h3
    refine FnOk.start Tryz.func67 rfl rfl rfl rfl fun F os tape output => ?_
    refine go 200 ?_
    conv => whnf
    repeat' (first
      | ((with_reducible refine atBr ?_); refine BrM.yes (by omega) ?_; conv => whnf)
      | ((with_reducible refine atBr ?_); refine BrM.not (by omega) ?_; conv => whnf)
      | ((with_reducible refine atBr ?_); (first | refine BrM.t rfl ?_ | refine BrM.f rfl ?_ | refine BrM.dec (fun _ => ?_) (fun _ => ?_) | refine BrM.mk (fun _ => ?_) (fun _ => ?_)) <;> conv => whnf)
      | ((with_reducible refine atAr ?_); refine Ar.i64 (by omega) (by omega) ?_; conv => whnf)
      | ((with_reducible refine atRet ?_); refine Nx.ret [] Tryz.func67 rfl rfl ?_; (refine ⟨?_, rfl⟩; rw [hp]; rfl))
      | ((with_reducible refine atOps ?_); refine go 200 ?_; conv => whnf)
      | ((with_reducible refine atPlan ?_); refine Nx.runP (n := 200) rfl (by repeat (first | exact subB.nil _ | refine subB.cons rfl ?_)) ?_; conv => whnf)
      | ((with_reducible refine atAftL ?_); refine Nx.late ?_)
      | ((fail_if_success (with_reducible refine atRet ?_)); (fail_if_success (with_reducible refine atLoop ?_)); (fail_if_success (with_reducible refine atIn ?_)); (fail_if_success (with_reducible refine atDrawn ?_)); (fail_if_success (with_reducible refine atEnd ?_)); (with_reducible refine atRun ?_); refine go 200 ?_; conv => whnf))
  · have hp : putN o ch n = { o with at_ := n } := by unfold putN; rw [if_neg h1, if_neg h2, if_neg h3]
    have i1 : ¬ (ch.toNat : Int) = 110 := fun h => h1 (h110.1 h)
    have i2 : ¬ (ch.toNat : Int) = 114 := fun h => h2 (h114.1 h)
    have i3 : ¬ (ch.toNat : Int) = 104 := fun h => h3 (h104.1 h)
    refine FnOk.start Tryz.func67 rfl rfl rfl rfl fun F os tape output => ?_
    refine go 200 ?_
    conv => whnf
    repeat' (first
      | ((with_reducible refine atBr ?_); refine BrM.yes (by omega) ?_; conv => whnf)
      | ((with_reducible refine atBr ?_); refine BrM.not (by omega) ?_; conv => whnf)
      | ((with_reducible refine atBr ?_); (first | refine BrM.t rfl ?_ | refine BrM.f rfl ?_ | refine BrM.dec (fun _ => ?_) (fun _ => ?_) | refine BrM.mk (fun _ => ?_) (fun _ => ?_)) <;> conv => whnf)
      | ((with_reducible refine atAr ?_); refine Ar.i64 (by omega) (by omega) ?_; conv => whnf)
      | ((with_reducible refine atRet ?_); refine Nx.ret [] Tryz.func67 rfl rfl ?_; (refine ⟨?_, rfl⟩; rw [hp]; rfl))
      | ((with_reducible refine atOps ?_); refine go 200 ?_; conv => whnf)
      | ((with_reducible refine atPlan ?_); refine Nx.runP (n := 200) rfl (by repeat (first | exact subB.nil _ | refine subB.cons rfl ?_)) ?_; conv => whnf)
      | ((with_reducible refine atAftL ?_); refine Nx.late ?_)
      | ((fail_if_success (with_reducible refine atRet ?_)); (fail_if_success (with_reducible refine atLoop ?_)); (fail_if_success (with_reducible refine atIn ?_)); (fail_if_success (with_reducible refine atDrawn ?_)); (fail_if_success (with_reducible refine atEnd ?_)); (with_reducible refine atRun ?_); refine go 200 ?_; conv => whnf))
end Go.Proofs.YtkfnbpbhcnekiaaGreatDoor

/- How the document reads a line: all that is left. -/
namespace Go.Proofs.YtkfnbpbhcnekiaaGreatDoor
open Go.RowKit Go.Lib
attribute [local irreducible] Nx Ar BrM
set_option maxRecDepth 20000
set_option maxHeartbeats 1000000

/-- What a reader of fields comes to. -/
def RfPost (r : Option Ln) (v : Value) (Q : List SP) : Prop := ∃ (o : Ln) (A B : Option Addr) (c d : Nat) (e : Int), v = .tuple #[lnV o A c B d, .int .i64 e] ∧ Q = [ownS 3 A o.after.length c 1 (intsV o.after), ownS 72 B o.evs.length d 2 (evsV o.evs)] ∧ (match r with | none => e = 6 | some x => o = x ∧ e = 0)
theorem RfPost.no {r : Option Ln} (h : r = none) (o : Ln) (A B : Option Addr) (c d : Nat) : RfPost r (.tuple #[lnV o A c B d, .int .i64 6]) [ownS 3 A o.after.length c 1 (intsV o.after), ownS 72 B o.evs.length d 2 (evsV o.evs)] := by
  subst h; exact ⟨o, A, B, c, d, 6, rfl, rfl, rfl⟩
theorem RfPost.yes {r : Option Ln} {o : Ln} (h : r = some o) (A B : Option Addr) (c d : Nat) : RfPost r (.tuple #[lnV o A c B d, .int .i64 0]) [ownS 3 A o.after.length c 1 (intsV o.after), ownS 72 B o.evs.length d 2 (evsV o.evs)] := by
  subst h; exact ⟨o, A, B, c, d, 0, rfl, rfl, rfl, rfl⟩

structure RsX (α : Type) where
  k : Nat
  l : List α
  A : Option Addr
  c : Nat
structure RsI {α : Type} (g : Str → Option α) (ws : List Str) (x : RsX α) : Prop where
  k : x.k ≤ ws.length
  e : (ws.take x.k).mapM g = some x.l
theorem RsI.len {α : Type} {g : Str → Option α} {ws : List Str} {x : RsX α} (h : RsI g ws x) : x.l.length = x.k := by
  have h1 := mapM_len h.e
  have h2 := h.k
  rw [List.length_take] at h1; omega
theorem RsI.step {α : Type} {g : Str → Option α} {ws : List Str} {x : RsX α} (h : RsI g ws x) (hk : x.k < ws.length) {y : α} (hy : g ws[x.k] = some y) (A : Option Addr) (c : Nat) : RsI g ws ⟨x.k + 1, x.l ++ [y], A, c⟩ := by
  refine ⟨hk, ?_⟩
  rw [List.take_succ_eq_append_getElem hk, mapM_snoc h.e, hy]; rfl
theorem RsI.bad {α : Type} {g : Str → Option α} {ws : List Str} {x : RsX α} (h : RsI g ws x) (hk : x.k < ws.length) (hy : g ws[x.k] = none) : ws.mapM g = none := by
  have := mapM_bad (pre := ws.take x.k) (ws := ws.drop (x.k + 1)) hy
  rwa [← List.drop_eq_getElem_cons hk, List.take_append_drop] at this
theorem RsI.fin {α : Type} {g : Str → Option α} {ws : List Str} {x : RsX α} (h : RsI g ws x) (hk : ¬ x.k < ws.length) : ws.mapM g = some x.l := by
  have := h.e
  rwa [List.take_of_length_le (by omega)] at this
theorem strs_flat (l : List Str) : (l.flatMap fun w => [str w]) = strs l := by
  induction l with
  | nil => rfl
  | cons x l ih => simp [ih]
theorem one_len (w : Str) : ([str w] : List Value).length = 1 := rfl

abbrev lnE (de wh ri nn tm : Int) (wy : Way) (n : Nat) (A : Option Addr) (c m : Nat) (B : Option Addr) (d : Nat) : List Value := [.int .i64 de, .int .i64 wh, .int .i64 ri, .int .i64 nn, .int .i64 tm, .int .i64 wy.kind, .int .i64 wy.tries, .int .i64 wy.time, .slice A n c, .slice B m d]
theorem numV_ex (s : Str) : ∃ v b, numV s = .tuple #[.int .i64 v, .bool b] ∧ numOf s = if b = true then some v else none := by
  unfold numV
  cases numOf s with
  | none => exact ⟨0, false, rfl, rfl⟩
  | some v => exact ⟨v, true, rfl, rfl⟩
theorem pair_ex (s : Str) : ∃ a b ok, pairVal s = .tuple #[str a, str b, .bool ok] ∧ a.length ≤ s.length ∧ b.length ≤ s.length ∧ readEv s = if ok = true then (match numOf a, numOf b with | some x, some y => some ⟨x, y⟩ | _, _ => none) else none := by
  unfold pairVal readEv
  cases hp : pairC 58 s with
  | none => exact ⟨s, [], false, rfl, Nat.le_refl _, Nat.zero_le _, rfl⟩
  | some p =>
    obtain ⟨a, b⟩ := p
    obtain ⟨la, lb⟩ := pair_len hp
    exact ⟨a, b, true, rfl, la, lb, rfl⟩
theorem restA_ok (S : SP) (o : Ln) (W : Option Addr) (wc : Nat) (ws : List Str) (hsee : Sees S W ws.length 1 (strs ws)) (ha : o.after = []) (he : o.evs = []) (hl : ws.length ≤ 1000000) (hs : ∀ w ∈ ws, w.length ≤ 1000000) (f : Str) :
    FnOk Tryz.prog 65 [lnV o none 0 none 0, .int .u8 97, .slice W ws.length wc] [S] (RfPost (readF o ws (97 :: f))) := by
  have hsee : Sees S W ws.length 1 (ws.flatMap fun w => [str w]) := by rw [strs_flat]; exact hsee
  have hr := readF_a o ws f
  obtain ⟨r, hrd⟩ : ∃ r, r = readF o ws (97 :: f) := ⟨_, rfl⟩
  rw [← hrd] at hr ⊢
  clear hrd
  obtain ⟨de, wh, ri, nn, tm, wy, af, es⟩ := o
  simp only at ha he hr
  subst ha he
  have no := fun h : r = none => fun l A c => RfPost.no h ⟨de, wh, ri, nn, tm, wy, l, []⟩ A none c 0
  have yes := fun l (h : r = some ⟨de, wh, ri, nn, tm, wy, l, []⟩) A c => RfPost.yes h A none c 0
  refine FnOk.start Tryz.func65 rfl rfl rfl rfl fun F os tape output => ?_
  refine Nx.give 3 (ownS 3 none 0 0 1 []) (own_nil _ _ _ _) ?_
  refine Nx.give 4 (ownS 72 none 0 0 2 []) (own_nil _ _ _ _) ?_
  refine go 200 ?_
  conv => whnf
  by_cases h64 : 64 < ws.length
  · rw [if_pos h64] at hr
    repeat' (first
      | ((with_reducible refine atBr ?_); refine BrM.yes (by omega) ?_; conv => whnf)
      | ((with_reducible refine atBr ?_); (first | refine BrM.t rfl ?_ | refine BrM.f rfl ?_ | refine BrM.dec (fun _ => ?_) (fun _ => ?_) | refine BrM.mk (fun _ => ?_) (fun _ => ?_)) <;> conv => whnf)
      | ((with_reducible refine atAr ?_); refine Ar.i64 (by omega) (by omega) ?_; conv => whnf)
      | ((with_reducible refine atRet ?_); refine Nx.ret [3,4] Tryz.func65 rfl rfl ?_; (exact no hr [] none 0))
      | ((with_reducible refine atOps ?_); refine go 200 ?_; conv => whnf)
      | ((with_reducible refine atPlan ?_); refine Nx.runP (n := 200) rfl (by repeat (first | exact subB.nil _ | refine subB.cons rfl ?_)) ?_; conv => whnf)
      | ((with_reducible refine atAftL ?_); refine Nx.late ?_)
      | ((fail_if_success (with_reducible refine atRet ?_)); (fail_if_success (with_reducible refine atLoop ?_)); (fail_if_success (with_reducible refine atIn ?_)); (fail_if_success (with_reducible refine atDrawn ?_)); (fail_if_success (with_reducible refine atEnd ?_)); (with_reducible refine atRun ?_); refine go 200 ?_; conv => whnf))
  · rw [if_neg h64] at hr
    repeat' (first
      | ((with_reducible refine atBr ?_); refine BrM.not (by omega) ?_; conv => whnf)
      | ((with_reducible refine atBr ?_); (first | refine BrM.t rfl ?_ | refine BrM.f rfl ?_ | refine BrM.dec (fun _ => ?_) (fun _ => ?_) | refine BrM.mk (fun _ => ?_) (fun _ => ?_)) <;> conv => whnf)
      | ((with_reducible refine atAr ?_); refine Ar.i64 (by omega) (by omega) ?_; conv => whnf)
      | ((with_reducible refine atOps ?_); refine go 200 ?_; conv => whnf)
      | ((with_reducible refine atPlan ?_); refine Nx.runP (n := 200) rfl (by repeat (first | exact subB.nil _ | refine subB.cons rfl ?_)) ?_; conv => whnf)
      | ((with_reducible refine atAftL ?_); refine Nx.late ?_)
      | ((fail_if_success (with_reducible refine atRet ?_)); (fail_if_success (with_reducible refine atLoop ?_)); (fail_if_success (with_reducible refine atIn ?_)); (fail_if_success (with_reducible refine atDrawn ?_)); (fail_if_success (with_reducible refine atEnd ?_)); (with_reducible refine atRun ?_); refine go 200 ?_; conv => whnf))
    refine Nx.loop (X := RsX Int) (RsI numOf ws) (fun x => ws.length - x.k)
      (fun x => [(3, .c (.loc 3 0)), (1, .c (.v (.int .u8 97))), (2, sl W ws.length wc), (6, .c (.loc 6 0)), (7, iv 0), (8, iv x.k)]) (fun x => [(6, 44, (lnC Ln.zero none 0 none 0).map .v), (3, 44, (lnE de wh ri nn tm wy x.l.length x.A x.c 0 none 0).map .v)]) [] (fun x => [(0, S), (3, ownS 3 x.A x.l.length x.c 1 (intsV x.l)), (4, ownS 72 none 0 0 2 [])]) ⟨0, [], none, 0⟩ ⟨by simp, by simp⟩ ?_ ?_ ?_ ?_ ?_
    · repeat (first | exact subE.nil _ | refine subE.cons rfl rfl ?_ | refine subE.cons' rfl (fun _ => rfl) ?_)
    · repeat (first | exact subM.nil _ | refine subM.cons rfl rfl rfl ?_)
    · repeat (first | exact subB.nil _ | refine subB.cons rfl ?_)
    · repeat (first | exact subR.nil _ | refine subR.cons rfl rfl ?_)
    intro x hx ih
    have hk := hx.k
    have hln := hx.len
    by_cases hlt : x.k < ws.length
    · have hwl := hs _ (List.getElem_mem hlt)
      cases hn : numOf ws[x.k] with
      | none =>
        have hb := hx.bad hlt hn
        rw [hb] at hr
        have hnv : numV ws[x.k] = .tuple #[.int .i64 0, .bool false] := by unfold numV; rw [hn]
        repeat' (first
          | ((with_reducible refine atBr ?_); refine BrM.yes (by omega) ?_; conv => whnf)
          | ((with_reducible refine atBr ?_); (first | refine BrM.t rfl ?_ | refine BrM.f rfl ?_ | refine BrM.dec (fun _ => ?_) (fun _ => ?_) | refine BrM.mk (fun _ => ?_) (fun _ => ?_)) <;> conv => whnf)
          | ((with_reducible refine atAr ?_); refine Ar.i64 (by omega) (by omega) ?_; conv => whnf)
          | ((with_reducible refine atIdx ?_); refine Nx.idx 0 rfl rfl rfl Tryz.underlying56 rfl rfl rfl one_len hsee rfl rfl (by omega) fun _ _ _ => ?_)
          | ((with_reducible refine atLoad ?_); first | (refine Nx.load1 0 rfl rfl rfl rfl (SeesAt.sub (by assumption) _ rfl) rfl ?_) | (refine Nx.load1 0 rfl rfl rfl rfl (by assumption) rfl ?_) | (refine Nx.load 0 rfl rfl rfl rfl (by assumption) rfl rfl ?_))
          | (with_reducible refine atCall 22 ?_; refine Nx.call [] [] rfl rfl rfl rfl rfl (Number_ok ws[x.k] (by omega)) rfl fun v Q hQ => ?_; obtain ⟨rfl, rfl⟩ := hQ; rw [hnv])
          | ((with_reducible refine atRet ?_); refine Nx.ret [3,4] Tryz.func65 rfl rfl ?_; (exact no hr x.l x.A x.c))
          | ((with_reducible refine atOps ?_); refine go 200 ?_; conv => whnf)
          | ((with_reducible refine atPlan ?_); refine Nx.runP (n := 200) rfl (by repeat (first | exact subB.nil _ | refine subB.cons rfl ?_)) ?_; conv => whnf)
          | ((with_reducible refine atAftL ?_); refine Nx.late ?_)
          | ((fail_if_success (with_reducible refine atRet ?_)); (fail_if_success (with_reducible refine atLoop ?_)); (fail_if_success (with_reducible refine atIn ?_)); (fail_if_success (with_reducible refine atDrawn ?_)); (fail_if_success (with_reducible refine atEnd ?_)); (with_reducible refine atRun ?_); refine go 200 ?_; conv => whnf))
      | some n =>
        have nx := hx.step hlt hn
        have hnv : numV ws[x.k] = .tuple #[.int .i64 n, .bool true] := by unfold numV; rw [hn]
        repeat' (first
          | ((with_reducible refine atBr ?_); refine BrM.yes (by omega) ?_; conv => whnf)
          | ((with_reducible refine atAr ?_); refine Ar.to (k := .i64) (((x.k+1:Nat):Int)) (by omega) ⟨by omega, by omega⟩ ?_; conv => whnf)
          | ((with_reducible refine atBr ?_); (first | refine BrM.t rfl ?_ | refine BrM.f rfl ?_ | refine BrM.dec (fun _ => ?_) (fun _ => ?_) | refine BrM.mk (fun _ => ?_) (fun _ => ?_)) <;> conv => whnf)
          | ((with_reducible refine atAr ?_); refine Ar.i64 (by omega) (by omega) ?_; conv => whnf)
          | ((with_reducible refine atIdx ?_); refine Nx.idx 0 rfl rfl rfl Tryz.underlying56 rfl rfl rfl one_len hsee rfl rfl (by omega) fun _ _ _ => ?_)
          | ((with_reducible refine atLoad ?_); first | (refine Nx.load1 0 rfl rfl rfl rfl (SeesAt.sub (by assumption) _ rfl) rfl ?_) | (refine Nx.load1 0 rfl rfl rfl rfl (by assumption) rfl ?_) | (refine Nx.load 0 rfl rfl rfl rfl (by assumption) rfl rfl ?_))
          | (with_reducible refine atCall 22 ?_; refine Nx.call [] [] rfl rfl rfl rfl rfl (Number_ok ws[x.k] (by omega)) rfl fun v Q hQ => ?_; obtain ⟨rfl, rfl⟩ := hQ; rw [hnv])
          | ((with_reducible refine atApp ?_); refine Nx.append 3 (sz := 1) (by_ := 8) (news := [.int .i64 n]) rfl rfl rfl rfl rfl Tryz.underlying25 rfl rfl rfl rfl rfl (by unfold maxLen; omega) (by omega) fun A' c'' => ?_)
          | ((with_reducible refine atOps ?_); refine go 200 ?_; conv => whnf)
          | ((with_reducible refine atPlan ?_); refine Nx.runP (n := 200) rfl (by repeat (first | exact subB.nil _ | refine subB.cons rfl ?_)) ?_; conv => whnf)
          | ((with_reducible refine atAftL ?_); refine Nx.late ?_)
          | ((fail_if_success (with_reducible refine atRet ?_)); (fail_if_success (with_reducible refine atLoop ?_)); (fail_if_success (with_reducible refine atIn ?_)); (fail_if_success (with_reducible refine atDrawn ?_)); (fail_if_success (with_reducible refine atEnd ?_)); (with_reducible refine atRun ?_); refine go 200 ?_; conv => whnf))
        refine (ih _ (nx A' c'') (by show ws.length - (x.k + 1) < ws.length - x.k; omega)).weak ?_ ?_ ?_ ?_
        · repeat (first | exact subE.nil _ | refine subE.cons rfl rfl ?_ | refine subE.cons' rfl (fun _ => rfl) ?_)
        · exact .cons rfl rfl rfl (.cons rfl (by simp [ints_snoc]) rfl (.nil _))
        · repeat (first | exact subB.nil _ | refine subB.cons rfl ?_)
        · exact .cons rfl rfl (.cons rfl (by simp) (.cons rfl rfl (.nil _)))
    · have hf := hx.fin hlt
      rw [hf] at hr
      repeat' (first
        | ((with_reducible refine atBr ?_); refine BrM.not (by omega) ?_; conv => whnf)
        | ((with_reducible refine atBr ?_); (first | refine BrM.t rfl ?_ | refine BrM.f rfl ?_ | refine BrM.dec (fun _ => ?_) (fun _ => ?_) | refine BrM.mk (fun _ => ?_) (fun _ => ?_)) <;> conv => whnf)
        | ((with_reducible refine atAr ?_); refine Ar.i64 (by omega) (by omega) ?_; conv => whnf)
        | ((with_reducible refine atRet ?_); refine Nx.ret [3,4] Tryz.func65 rfl rfl ?_; (exact yes x.l hr x.A x.c))
        | ((with_reducible refine atOps ?_); refine go 200 ?_; conv => whnf)
        | ((with_reducible refine atPlan ?_); refine Nx.runP (n := 200) rfl (by repeat (first | exact subB.nil _ | refine subB.cons rfl ?_)) ?_; conv => whnf)
        | ((with_reducible refine atAftL ?_); refine Nx.late ?_)
        | ((fail_if_success (with_reducible refine atRet ?_)); (fail_if_success (with_reducible refine atLoop ?_)); (fail_if_success (with_reducible refine atIn ?_)); (fail_if_success (with_reducible refine atDrawn ?_)); (fail_if_success (with_reducible refine atEnd ?_)); (with_reducible refine atRun ?_); refine go 200 ?_; conv => whnf))
theorem restE_ok (S : SP) (o : Ln) (W : Option Addr) (wc : Nat) (ws : List Str) (hsee : Sees S W ws.length 1 (strs ws)) (ha : o.after = []) (he : o.evs = []) (hl : ws.length ≤ 1000000) (hs : ∀ w ∈ ws, w.length ≤ 1000000) (f : Str) :
    FnOk Tryz.prog 65 [lnV o none 0 none 0, .int .u8 101, .slice W ws.length wc] [S] (RfPost (readF o ws (101 :: f))) := by
  have hsee : Sees S W ws.length 1 (ws.flatMap fun w => [str w]) := by rw [strs_flat]; exact hsee
  have hr := readF_e o ws f
  obtain ⟨r, hrd⟩ : ∃ r, r = readF o ws (101 :: f) := ⟨_, rfl⟩
  rw [← hrd] at hr ⊢
  clear hrd
  obtain ⟨de, wh, ri, nn, tm, wy, af, es⟩ := o
  simp only at ha he hr
  subst ha he
  have no := fun h : r = none => fun l A c => RfPost.no h ⟨de, wh, ri, nn, tm, wy, [], l⟩ none A 0 c
  have yes := fun l (h : r = some ⟨de, wh, ri, nn, tm, wy, [], l⟩) A c => RfPost.yes h none A 0 c
  refine FnOk.start Tryz.func65 rfl rfl rfl rfl fun F os tape output => ?_
  refine Nx.give 3 (ownS 3 none 0 0 1 []) (own_nil _ _ _ _) ?_
  refine Nx.give 4 (ownS 72 none 0 0 2 []) (own_nil _ _ _ _) ?_
  refine go 200 ?_
  conv => whnf
  by_cases h64 : 64 < ws.length
  · rw [if_pos h64] at hr
    repeat' (first
      | ((with_reducible refine atBr ?_); refine BrM.yes (by omega) ?_; conv => whnf)
      | ((with_reducible refine atBr ?_); (first | refine BrM.t rfl ?_ | refine BrM.f rfl ?_ | refine BrM.dec (fun _ => ?_) (fun _ => ?_) | refine BrM.mk (fun _ => ?_) (fun _ => ?_)) <;> conv => whnf)
      | ((with_reducible refine atAr ?_); refine Ar.i64 (by omega) (by omega) ?_; conv => whnf)
      | ((with_reducible refine atRet ?_); refine Nx.ret [3,4] Tryz.func65 rfl rfl ?_; (exact no hr [] none 0))
      | ((with_reducible refine atOps ?_); refine go 200 ?_; conv => whnf)
      | ((with_reducible refine atPlan ?_); refine Nx.runP (n := 200) rfl (by repeat (first | exact subB.nil _ | refine subB.cons rfl ?_)) ?_; conv => whnf)
      | ((with_reducible refine atAftL ?_); refine Nx.late ?_)
      | ((fail_if_success (with_reducible refine atRet ?_)); (fail_if_success (with_reducible refine atLoop ?_)); (fail_if_success (with_reducible refine atIn ?_)); (fail_if_success (with_reducible refine atDrawn ?_)); (fail_if_success (with_reducible refine atEnd ?_)); (with_reducible refine atRun ?_); refine go 200 ?_; conv => whnf))
  · rw [if_neg h64] at hr
    repeat' (first
      | ((with_reducible refine atBr ?_); refine BrM.not (by omega) ?_; conv => whnf)
      | ((with_reducible refine atBr ?_); (first | refine BrM.t rfl ?_ | refine BrM.f rfl ?_ | refine BrM.dec (fun _ => ?_) (fun _ => ?_) | refine BrM.mk (fun _ => ?_) (fun _ => ?_)) <;> conv => whnf)
      | ((with_reducible refine atAr ?_); refine Ar.i64 (by omega) (by omega) ?_; conv => whnf)
      | ((with_reducible refine atOps ?_); refine go 200 ?_; conv => whnf)
      | ((with_reducible refine atPlan ?_); refine Nx.runP (n := 200) rfl (by repeat (first | exact subB.nil _ | refine subB.cons rfl ?_)) ?_; conv => whnf)
      | ((with_reducible refine atAftL ?_); refine Nx.late ?_)
      | ((fail_if_success (with_reducible refine atRet ?_)); (fail_if_success (with_reducible refine atLoop ?_)); (fail_if_success (with_reducible refine atIn ?_)); (fail_if_success (with_reducible refine atDrawn ?_)); (fail_if_success (with_reducible refine atEnd ?_)); (with_reducible refine atRun ?_); refine go 200 ?_; conv => whnf))
    refine Nx.loop (X := RsX Ev) (RsI readEv ws) (fun x => ws.length - x.k)
      (fun x => [(3, .c (.loc 3 0)), (1, .c (.v (.int .u8 101))), (2, sl W ws.length wc), (6, .c (.loc 6 0)), (7, iv 0), (8, iv x.k)]) (fun x => [(6, 44, (lnC Ln.zero none 0 none 0).map .v), (3, 44, (lnE de wh ri nn tm wy 0 none 0 x.l.length x.A x.c).map .v)]) [] (fun x => [(0, S), (3, ownS 3 none 0 0 1 []), (4, ownS 72 x.A x.l.length x.c 2 (evsV x.l))]) ⟨0, [], none, 0⟩ ⟨by simp, by simp⟩ ?_ ?_ ?_ ?_ ?_
    · repeat (first | exact subE.nil _ | refine subE.cons rfl rfl ?_ | refine subE.cons' rfl (fun _ => rfl) ?_)
    · repeat (first | exact subM.nil _ | refine subM.cons rfl rfl rfl ?_)
    · repeat (first | exact subB.nil _ | refine subB.cons rfl ?_)
    · repeat (first | exact subR.nil _ | refine subR.cons rfl rfl ?_)
    intro x hx ih
    have hk := hx.k
    have hln := hx.len
    by_cases hlt : x.k < ws.length
    · have hwl := hs _ (List.getElem_mem hlt)
      obtain ⟨a, b, ok, hv, la, lb, hre⟩ := pair_ex ws[x.k]
      obtain ⟨u, ba, hna, hua⟩ := numV_ex a
      obtain ⟨y, bb, hnb, hyb⟩ := numV_ex b
      rw [hua, hyb] at hre
      repeat' (first
        | ((with_reducible refine atBr ?_); refine BrM.yes (by omega) ?_; conv => whnf)
        | ((with_reducible refine atBr ?_); (first | refine BrM.t rfl ?_ | refine BrM.f rfl ?_ | refine BrM.dec (fun _ => ?_) (fun _ => ?_) | refine BrM.mk (fun _ => ?_) (fun _ => ?_)) <;> conv => whnf)
        | ((with_reducible refine atAr ?_); refine Ar.i64 (by omega) (by omega) ?_; conv => whnf)
        | ((with_reducible refine atIdx ?_); refine Nx.idx 0 rfl rfl rfl Tryz.underlying56 rfl rfl rfl one_len hsee rfl rfl (by omega) fun _ _ _ => ?_)
        | ((with_reducible refine atLoad ?_); first | (refine Nx.load1 0 rfl rfl rfl rfl (SeesAt.sub (by assumption) _ rfl) rfl ?_) | (refine Nx.load1 0 rfl rfl rfl rfl (by assumption) rfl ?_) | (refine Nx.load 0 rfl rfl rfl rfl (by assumption) rfl rfl ?_))
        | (with_reducible refine atCall 79 ?_; refine Nx.call [] [] rfl rfl rfl rfl rfl (pair_ok ws[x.k] (by omega)) rfl fun v Q hQ => ?_; obtain ⟨rfl, rfl⟩ := hQ; rw [hv])
        | ((with_reducible refine atOps ?_); refine go 200 ?_; conv => whnf)
        | ((with_reducible refine atPlan ?_); refine Nx.runP (n := 200) rfl (by repeat (first | exact subB.nil _ | refine subB.cons rfl ?_)) ?_; conv => whnf)
        | ((with_reducible refine atAftL ?_); refine Nx.late ?_)
        | ((fail_if_success (with_reducible refine atRet ?_)); (fail_if_success (with_reducible refine atLoop ?_)); (fail_if_success (with_reducible refine atIn ?_)); (fail_if_success (with_reducible refine atDrawn ?_)); (fail_if_success (with_reducible refine atEnd ?_)); (with_reducible refine atRun ?_); refine go 200 ?_; conv => whnf))
      refine Nx.call [] [] rfl rfl rfl rfl rfl (Number_ok a (by omega)) rfl fun v Q hQ => ?_
      obtain ⟨rfl, rfl⟩ := hQ
      rw [hna]
      refine go 200 ?_
      conv => whnf
      refine Nx.call [] [] rfl rfl rfl rfl rfl (Number_ok b (by omega)) rfl fun v Q hQ => ?_
      obtain ⟨rfl, rfl⟩ := hQ
      rw [hnb]
      by_cases hall : ok = true ∧ ba = true ∧ bb = true
      · obtain ⟨rfl, rfl, rfl⟩ := hall
        have hn : readEv ws[x.k] = some ⟨u, y⟩ := by rw [hre]; rfl
        have nx := hx.step hlt hn
        repeat' (first
          | ((with_reducible refine atAr ?_); refine Ar.to (k := .i64) (((x.k+1:Nat):Int)) (by omega) ⟨by omega, by omega⟩ ?_; conv => whnf)
          | ((with_reducible refine atBr ?_); (first | refine BrM.t rfl ?_ | refine BrM.f rfl ?_ | refine BrM.dec (fun _ => ?_) (fun _ => ?_) | refine BrM.mk (fun _ => ?_) (fun _ => ?_)) <;> conv => whnf)
          | ((with_reducible refine atAr ?_); refine Ar.i64 (by omega) (by omega) ?_; conv => whnf)
          | ((with_reducible refine atApp ?_); refine Nx.append 4 (sz := 2) (by_ := 16) (news := [.int .i64 u, .int .i64 y]) rfl rfl rfl rfl rfl Tryz.underlying26 rfl rfl rfl rfl rfl (by unfold maxLen; omega) (by omega) fun A' c'' => ?_)
          | ((with_reducible refine atOps ?_); refine go 200 ?_; conv => whnf)
          | ((with_reducible refine atPlan ?_); refine Nx.runP (n := 200) rfl (by repeat (first | exact subB.nil _ | refine subB.cons rfl ?_)) ?_; conv => whnf)
          | ((with_reducible refine atAftL ?_); refine Nx.late ?_)
          | ((fail_if_success (with_reducible refine atRet ?_)); (fail_if_success (with_reducible refine atLoop ?_)); (fail_if_success (with_reducible refine atIn ?_)); (fail_if_success (with_reducible refine atDrawn ?_)); (fail_if_success (with_reducible refine atEnd ?_)); (with_reducible refine atRun ?_); refine go 200 ?_; conv => whnf))
        refine (ih _ (nx A' c'') (by show ws.length - (x.k + 1) < ws.length - x.k; omega)).weak ?_ ?_ ?_ ?_
        · repeat (first | exact subE.nil _ | refine subE.cons rfl rfl ?_ | refine subE.cons' rfl (fun _ => rfl) ?_)
        · exact .cons rfl rfl rfl (.cons rfl (by simp) rfl (.nil _))
        · repeat (first | exact subB.nil _ | refine subB.cons rfl ?_)
        · exact .cons rfl rfl (.cons rfl rfl (.cons rfl (by simp [evC]) (.nil _)))
      · have hn : readEv ws[x.k] = none := by
          rw [hre]
          cases ok <;> cases ba <;> cases bb <;> first | rfl | exact absurd ⟨rfl, rfl, rfl⟩ hall
        have hb := hx.bad hlt hn
        rw [hb] at hr
        cases ok with
        | false =>
            repeat' (first
              | ((with_reducible refine atBr ?_); (first | refine BrM.t rfl ?_ | refine BrM.f rfl ?_ | refine BrM.dec (fun _ => ?_) (fun _ => ?_) | refine BrM.mk (fun _ => ?_) (fun _ => ?_)) <;> conv => whnf)
              | ((with_reducible refine atAr ?_); refine Ar.i64 (by omega) (by omega) ?_; conv => whnf)
              | ((with_reducible refine atRet ?_); refine Nx.ret [3,4] Tryz.func65 rfl rfl ?_; (exact no hr x.l x.A x.c))
              | ((with_reducible refine atOps ?_); refine go 200 ?_; conv => whnf)
              | ((with_reducible refine atPlan ?_); refine Nx.runP (n := 200) rfl (by repeat (first | exact subB.nil _ | refine subB.cons rfl ?_)) ?_; conv => whnf)
              | ((with_reducible refine atAftL ?_); refine Nx.late ?_)
              | ((fail_if_success (with_reducible refine atRet ?_)); (fail_if_success (with_reducible refine atLoop ?_)); (fail_if_success (with_reducible refine atIn ?_)); (fail_if_success (with_reducible refine atDrawn ?_)); (fail_if_success (with_reducible refine atEnd ?_)); (with_reducible refine atRun ?_); refine go 200 ?_; conv => whnf))
        | true =>
          cases ba with
          | false =>
            repeat' (first
              | ((with_reducible refine atBr ?_); (first | refine BrM.t rfl ?_ | refine BrM.f rfl ?_ | refine BrM.dec (fun _ => ?_) (fun _ => ?_) | refine BrM.mk (fun _ => ?_) (fun _ => ?_)) <;> conv => whnf)
              | ((with_reducible refine atAr ?_); refine Ar.i64 (by omega) (by omega) ?_; conv => whnf)
              | ((with_reducible refine atRet ?_); refine Nx.ret [3,4] Tryz.func65 rfl rfl ?_; (exact no hr x.l x.A x.c))
              | ((with_reducible refine atOps ?_); refine go 200 ?_; conv => whnf)
              | ((with_reducible refine atPlan ?_); refine Nx.runP (n := 200) rfl (by repeat (first | exact subB.nil _ | refine subB.cons rfl ?_)) ?_; conv => whnf)
              | ((with_reducible refine atAftL ?_); refine Nx.late ?_)
              | ((fail_if_success (with_reducible refine atRet ?_)); (fail_if_success (with_reducible refine atLoop ?_)); (fail_if_success (with_reducible refine atIn ?_)); (fail_if_success (with_reducible refine atDrawn ?_)); (fail_if_success (with_reducible refine atEnd ?_)); (with_reducible refine atRun ?_); refine go 200 ?_; conv => whnf))
          | true =>
            cases bb with
            | false =>
            repeat' (first
              | ((with_reducible refine atBr ?_); (first | refine BrM.t rfl ?_ | refine BrM.f rfl ?_ | refine BrM.dec (fun _ => ?_) (fun _ => ?_) | refine BrM.mk (fun _ => ?_) (fun _ => ?_)) <;> conv => whnf)
              | ((with_reducible refine atAr ?_); refine Ar.i64 (by omega) (by omega) ?_; conv => whnf)
              | ((with_reducible refine atRet ?_); refine Nx.ret [3,4] Tryz.func65 rfl rfl ?_; (exact no hr x.l x.A x.c))
              | ((with_reducible refine atOps ?_); refine go 200 ?_; conv => whnf)
              | ((with_reducible refine atPlan ?_); refine Nx.runP (n := 200) rfl (by repeat (first | exact subB.nil _ | refine subB.cons rfl ?_)) ?_; conv => whnf)
              | ((with_reducible refine atAftL ?_); refine Nx.late ?_)
              | ((fail_if_success (with_reducible refine atRet ?_)); (fail_if_success (with_reducible refine atLoop ?_)); (fail_if_success (with_reducible refine atIn ?_)); (fail_if_success (with_reducible refine atDrawn ?_)); (fail_if_success (with_reducible refine atEnd ?_)); (with_reducible refine atRun ?_); refine go 200 ?_; conv => whnf))
            | true => exact absurd ⟨rfl, rfl, rfl⟩ hall
    · have hf := hx.fin hlt
      rw [hf] at hr
      repeat' (first
        | ((with_reducible refine atBr ?_); refine BrM.not (by omega) ?_; conv => whnf)
        | ((with_reducible refine atBr ?_); (first | refine BrM.t rfl ?_ | refine BrM.f rfl ?_ | refine BrM.dec (fun _ => ?_) (fun _ => ?_) | refine BrM.mk (fun _ => ?_) (fun _ => ?_)) <;> conv => whnf)
        | ((with_reducible refine atAr ?_); refine Ar.i64 (by omega) (by omega) ?_; conv => whnf)
        | ((with_reducible refine atRet ?_); refine Nx.ret [3,4] Tryz.func65 rfl rfl ?_; (exact yes x.l hr x.A x.c))
        | ((with_reducible refine atOps ?_); refine go 200 ?_; conv => whnf)
        | ((with_reducible refine atPlan ?_); refine Nx.runP (n := 200) rfl (by repeat (first | exact subB.nil _ | refine subB.cons rfl ?_)) ?_; conv => whnf)
        | ((with_reducible refine atAftL ?_); refine Nx.late ?_)
        | ((fail_if_success (with_reducible refine atRet ?_)); (fail_if_success (with_reducible refine atLoop ?_)); (fail_if_success (with_reducible refine atIn ?_)); (fail_if_success (with_reducible refine atDrawn ?_)); (fail_if_success (with_reducible refine atEnd ?_)); (with_reducible refine atRun ?_); refine go 200 ?_; conv => whnf))
end Go.Proofs.YtkfnbpbhcnekiaaGreatDoor
