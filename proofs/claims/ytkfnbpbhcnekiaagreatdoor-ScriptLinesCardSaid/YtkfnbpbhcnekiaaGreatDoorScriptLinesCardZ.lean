/- ScriptLines: the statement's tied card holds: for every text the law returns true, where the listed package-level variables hold what the program's text lays. -/
import Derived.Test.YtkfnbpbhcnekiaaGreatDoorMf
import Derived.Test.YtkfnbpbhcnekiaaGreatDoorCards
import Derived.Test.YtkfnbpbhcnekiaaGreatDoorTie
set_option linter.unusedSimpArgs false
set_option linter.unusedVariables false
/- ScriptLines, walked. -/
namespace Go.Proofs.YtkfnbpbhcnekiaaGreatDoor
open Go.RowKit Go.Lib
set_option maxRecDepth 20000
set_option maxHeartbeats 4000000

/-- Is a line none? -/
def skipA (w : Str) : Prop := w = [] ∨ w[0]? = some 35
instance (w : Str) : Decidable (skipA w) := inferInstanceAs (Decidable (w = [] ∨ w[0]? = some 35))
/-- The lines of a text's lines, from the i-th on, or which of them can't be read, and why. -/
def readA : List Str → Nat → Except (Nat × Int) (List Ln)
  | [], _ => .ok []
  | w :: ws, i => if skipA w then readA ws (i + 1) else match parseA w with
    | .error e => .error (i + 1, e)
    | .ok o => match readA ws (i + 1) with
      | .error x => .error x
      | .ok l => .ok (o :: l)
/-- A line with its slices. -/
structure LnS where
  o : Ln
  A : Option Addr
  c : Nat
  B : Option Addr
  d : Nat
abbrev LnS.enc (x : LnS) : List Value := lnC x.o x.A x.c x.B x.d
theorem enc_len (x : LnS) : x.enc.length = 10 := rfl
def LnS.rd (m : PH) (x : LnS) : Prop := Rd m x.A x.o.after.length 1 (intsV x.o.after) ∧ Rd m x.B x.o.evs.length 2 (evsV x.o.evs)
/-- The slices of some lines can be read, for good. -/
def rdAll (L : List LnS) : SP := fun r _ => ∀ x ∈ L, x.rd r
theorem rdAll_more {L : List LnS} {x : LnS} : ∀ r h, Sat [rdAll L, rdS x.A x.o.after.length 1 (intsV x.o.after), rdS x.B x.o.evs.length 2 (evsV x.o.evs)] r h → Sat [rdAll (L ++ [x])] r h := by
  rintro r h ⟨r1, h1, h2, a1, a2, a3, a4, a5, r2, k1, k2, b1, b2, b3, b4, b5, r3, l1, l2, c1, c2, c3, c4, c5, _⟩
  refine ⟨r, h, PH.em, PH.le_refl _, PH.le_refl _, PH.em_le _, PH.dj_em _, fun y hy => ?_, trivial⟩
  rcases List.mem_append.1 hy with hy | hy
  · obtain ⟨p, q⟩ := (show ∀ x ∈ L, x.rd r1 from a5) y hy
    exact ⟨p.mono a1, q.mono a1⟩
  · rw [List.mem_singleton] at hy
    subst hy
    exact ⟨(show Rd r2 _ _ _ _ from b5).mono b1, (show Rd r3 _ _ _ _ from c5).mono c1⟩
theorem rdAll_nil (r h : PH) : rdAll [] r h := fun x hx => by cases hx
theorem rdAll_sees1 {L : List LnS} {x : LnS} (hx : x ∈ L) : Sees (rdAll L) x.A x.o.after.length 1 (intsV x.o.after) := fun r h d hs => ((show ∀ x ∈ L, x.rd r from hs) x hx).1.mono (PH.le_un_left _ _)
theorem rdAll_sees2 {L : List LnS} {x : LnS} (hx : x ∈ L) : Sees (rdAll L) x.B x.o.evs.length 2 (evsV x.o.evs) := fun r h d hs => ((show ∀ x ∈ L, x.rd r from hs) x hx).2.mono (PH.le_un_left _ _)
attribute [local irreducible] Nx Ar BrM

structure RlX where
  i : Nat
  L : List LnS
  A : Option Addr
  c : Nat
structure RlI (ws : List Str) (r : Except (Nat × Int) (List Ln)) (x : RlX) : Prop where
  i : x.i ≤ ws.length
  n : x.L.length ≤ x.i
  e : r = match readA (ws.drop x.i) x.i with | .error e => .error e | .ok l => .ok (x.L.map (·.o) ++ l)
theorem RlI.skip {ws : List Str} {r : Except (Nat × Int) (List Ln)} {x : RlX} (h : RlI ws r x) (hi : x.i < ws.length) (hs : skipA ws[x.i]) : RlI ws r ⟨x.i + 1, x.L, x.A, x.c⟩ := by
  refine ⟨hi, Nat.le_trans h.n (Nat.le_succ _), ?_⟩
  rw [h.e, List.drop_eq_getElem_cons hi, readA, if_pos hs]
theorem RlI.bad {ws : List Str} {r : Except (Nat × Int) (List Ln)} {x : RlX} (h : RlI ws r x) (hi : x.i < ws.length) (hs : ¬ skipA ws[x.i]) {e : Int} (he : parseA ws[x.i] = .error e) : r = .error (x.i + 1, e) := by
  rw [h.e, List.drop_eq_getElem_cons hi, readA, if_neg hs, he]
theorem RlI.more {ws : List Str} {r : Except (Nat × Int) (List Ln)} {x : RlX} (h : RlI ws r x) (hi : x.i < ws.length) (hs : ¬ skipA ws[x.i]) {y : LnS} (he : parseA ws[x.i] = .ok y.o) (A : Option Addr) (c : Nat) : RlI ws r ⟨x.i + 1, x.L ++ [y], A, c⟩ := by
  have := h.n
  refine ⟨hi, by simp; omega, ?_⟩
  rw [h.e, List.drop_eq_getElem_cons hi, readA, if_neg hs, he]
  simp only
  cases readA (ws.drop (x.i + 1)) (x.i + 1) with
  | error e => rfl
  | ok l => simp
theorem RlI.fin {ws : List Str} {r : Except (Nat × Int) (List Ln)} {x : RlX} (h : RlI ws r x) (hi : ¬ x.i < ws.length) : r = .ok (x.L.map (·.o)) := by
  rw [h.e, List.drop_eq_nil_of_le (by omega), readA]
  simp
def RlPost (m : PH) (r : Except (Nat × Int) (List Ln)) (v : Value) (Q : List SP) : Prop :=
  match r with
  | .ok l => ∃ (L : List LnS) (A : Option Addr) (c : Nat), L.map (·.o) = l ∧ v = .tuple #[.slice A L.length c, .int .i64 0, .nilIface] ∧ Q = [roAll m, ownS 37 A L.length c 10 (L.flatMap LnS.enc), rdAll L]
  | .error e => ∃ b q, v = .tuple #[.slice none 0 0, .int .i64 e.1, .iface 114 (.pointer (some ⟨b, 0, none⟩))] ∧ Q = [roAll m, errB b q e.2]
theorem pre35 (w : Str) : hasPrefix w [35] = decide (w[0]? = some 35) := by
  cases w with
  | nil => rfl
  | cons x r =>
    have e : hasPrefix (x :: r) [35] = ((35 : UInt8) == x) := by show ((35 : UInt8) == x && true) = _; rw [Bool.and_true]
    rw [e]
    by_cases h : x = 35
    · subst h; rfl
    · rw [beq_eq_false_iff_ne.2 (fun e => h e.symm), decide_eq_false (by simpa using h)]
theorem lines_snoc (L : List LnS) (x : LnS) : (L ++ [x]).flatMap LnS.enc = L.flatMap LnS.enc ++ x.enc := by simp
theorem ReadP_ok {m : PH} (hG : Glo m) (s : Str) (hs : s.length ≤ 500000) : FnOk Tryz.prog 23 [str s] [roAll m] (RlPost m (readA (splitC 10 s) 0)) := by
  have hl1 := split_le 10 s
  have hl2 := split_each 10 s
  obtain ⟨r, hr⟩ : ∃ r, r = readA (splitC 10 s) 0 := ⟨_, rfl⟩
  have hSp := Split_ok hG s 10 (by omega)
  rw [← hr]
  generalize splitC 10 s = ws at *
  refine FnOk.start Tryz.func23 rfl rfl rfl rfl fun F os tape output => ?_
  refine go 200 ?_
  conv => whnf
  refine Nx.call [0] [0,3] rfl rfl rfl rfl rfl (hSp) rfl fun v Q hQ => ?_
  obtain ⟨b0, rfl, rfl⟩ := hQ
  refine Nx.share 3 (rdS (some ⟨b0, 0, none⟩) ws.length 1 (strs ws)) rfl own_share ?_
  have hsee : Sees (rdS (some ⟨b0, 0, none⟩) ws.length 1 (strs ws)) (some ⟨b0, 0, none⟩) ws.length 1 (ws.flatMap fun w => [str w]) := by rw [strs_flat]; exact rdS_sees _ _ _ _
  refine Nx.give 5 (ownS 37 none 0 0 10 []) (own_nil _ _ _ _) ?_
  refine Nx.give 6 (rdAll []) (rdAll_nil _ _) ?_
  repeat' (first
    | ((with_reducible refine atBr ?_); (first | refine BrM.t rfl ?_ | refine BrM.f rfl ?_ | refine BrM.dec (fun _ => ?_) (fun _ => ?_) | refine BrM.mk (fun _ => ?_) (fun _ => ?_)) <;> conv => whnf)
    | ((with_reducible refine atAr ?_); refine Ar.i64 (by omega) (by omega) ?_; conv => whnf)
    | (fail)
    | ((with_reducible refine atOps ?_); refine go 200 ?_; conv => whnf)
    | ((with_reducible refine atPlan ?_); refine Nx.runP (n := 200) rfl (by repeat (first | exact subB.nil _ | refine subB.cons rfl ?_)) ?_; conv => whnf)
    | ((with_reducible refine atAftL ?_); refine Nx.late ?_)
    | ((fail_if_success (with_reducible refine atRet ?_)); (fail_if_success (with_reducible refine atLoop ?_)); (fail_if_success (with_reducible refine atIn ?_)); (fail_if_success (with_reducible refine atDrawn ?_)); (fail_if_success (with_reducible refine atEnd ?_)); (with_reducible refine atRun ?_); refine go 200 ?_; conv => whnf))
  refine Nx.loop (X := RlX) (RlI ws r) (fun x => ws.length - x.i)
    (fun x => [(5, sl x.A x.L.length x.c), (11, sl (some ⟨b0, 0, none⟩) ws.length ws.length), (12, iv ws.length), (13, iv x.i)]) (fun _ => []) [] (fun x => [(0, roAll m), (3, rdS (some ⟨b0, 0, none⟩) ws.length 1 (strs ws)), (5, ownS 37 x.A x.L.length x.c 10 (x.L.flatMap LnS.enc)), (6, rdAll x.L)]) ⟨0, [], none, 0⟩ ⟨Nat.zero_le _, Nat.le_refl _, by rw [hr, List.drop_zero]; cases readA ws 0 <;> simp⟩ ?_ ?_ ?_ ?_ ?_
  · repeat (first | exact subE.nil _ | refine subE.cons rfl rfl ?_ | refine subE.cons' rfl (fun _ => rfl) ?_)
  · repeat (first | exact subM.nil _ | refine subM.cons rfl rfl rfl ?_)
  · repeat (first | exact subB.nil _ | refine subB.cons rfl ?_)
  · repeat (first | exact subR.nil _ | refine subR.cons rfl rfl ?_)
  intro x hx ih
  have hi := hx.i
  have hn := hx.n
  by_cases hlt : x.i < ws.length
  · have hmu : ws.length - (x.i + 1) < ws.length - x.i := by omega
    have hwl := hl2 _ (List.getElem_mem hlt)
    by_cases hsk : skipA ws[x.i]
    · have nx := hx.skip hlt hsk
      by_cases h0 : ws[x.i] = []
      · repeat' (first
          | ((with_reducible refine atBr ?_); refine BrM.yes (by omega) ?_; conv => whnf)
          | ((with_reducible refine atBr ?_); refine BrM.yes (tl_eq h0) ?_; conv => whnf)
          | ((with_reducible refine atAr ?_); refine Ar.to (k := .i64) (((x.i+1:Nat):Int)) (by omega) ⟨by omega, by omega⟩ ?_; conv => whnf)
          | ((with_reducible refine atBr ?_); (first | refine BrM.t rfl ?_ | refine BrM.f rfl ?_ | refine BrM.dec (fun _ => ?_) (fun _ => ?_) | refine BrM.mk (fun _ => ?_) (fun _ => ?_)) <;> conv => whnf)
          | ((with_reducible refine atAr ?_); refine Ar.i64 (by omega) (by omega) ?_; conv => whnf)
          | ((with_reducible refine atIdx ?_); refine Nx.idx 3 rfl rfl rfl Tryz.underlying56 rfl rfl rfl one_len hsee rfl rfl (by omega) fun _ _ _ => ?_)
          | ((with_reducible refine atLoad ?_); first | (refine Nx.load1 3 rfl rfl rfl rfl (SeesAt.sub (by assumption) _ rfl) rfl ?_) | (refine Nx.load1 3 rfl rfl rfl rfl (by assumption) rfl ?_) | (refine Nx.load 3 rfl rfl rfl rfl (by assumption) rfl rfl ?_))
          | ((with_reducible refine atIn ?_); refine Nx.weak ((ih _ nx hmu)) ?_ ?_ ?_ ?_ <;> (first | exact subM.nil _ | exact subB.nil _ | exact subR.nil _ | ((repeat (first | exact subE.nil _ | refine subE.cons rfl rfl ?_ | refine subE.cons' rfl (fun _ => rfl) ?_ | (refine subE.cons rfl ?_ ?_; · (simp; done)))); done) | ((repeat (first | exact subM.nil _ | refine subM.cons rfl rfl rfl ?_)); done) | ((repeat (first | exact subB.nil _ | refine subB.cons rfl ?_)); done) | ((repeat (first | exact subR.nil _ | refine subR.cons rfl rfl ?_)); done) | omega | (dsimp only; omega) | (skip) | skip))
          | ((with_reducible refine atOps ?_); refine go 200 ?_; conv => whnf)
          | ((with_reducible refine atPlan ?_); refine Nx.runP (n := 200) rfl (by repeat (first | exact subB.nil _ | refine subB.cons rfl ?_)) ?_; conv => whnf)
          | ((with_reducible refine atAftL ?_); refine Nx.late ?_)
          | ((fail_if_success (with_reducible refine atRet ?_)); (fail_if_success (with_reducible refine atLoop ?_)); (fail_if_success (with_reducible refine atIn ?_)); (fail_if_success (with_reducible refine atDrawn ?_)); (fail_if_success (with_reducible refine atEnd ?_)); (with_reducible refine atRun ?_); refine go 200 ?_; conv => whnf))
      · have hP := HasPrefix_ok (m := m) ws[x.i] [35]
        have h35 : ws[x.i][0]? = some 35 := hsk.resolve_left h0
        rw [pre35, decide_eq_true h35] at hP
        repeat' (first
          | ((with_reducible refine atBr ?_); refine BrM.yes (by omega) ?_; conv => whnf)
          | ((with_reducible refine atBr ?_); refine BrM.not (fun h => h0 (toList_eq h)) ?_; conv => whnf)
          | ((with_reducible refine atAr ?_); refine Ar.to (k := .i64) (((x.i+1:Nat):Int)) (by omega) ⟨by omega, by omega⟩ ?_; conv => whnf)
          | ((with_reducible refine atBr ?_); (first | refine BrM.t rfl ?_ | refine BrM.f rfl ?_ | refine BrM.dec (fun _ => ?_) (fun _ => ?_) | refine BrM.mk (fun _ => ?_) (fun _ => ?_)) <;> conv => whnf)
          | ((with_reducible refine atAr ?_); refine Ar.i64 (by omega) (by omega) ?_; conv => whnf)
          | ((with_reducible refine atIdx ?_); refine Nx.idx 3 rfl rfl rfl Tryz.underlying56 rfl rfl rfl one_len hsee rfl rfl (by omega) fun _ _ _ => ?_)
          | ((with_reducible refine atLoad ?_); first | (refine Nx.load1 3 rfl rfl rfl rfl (SeesAt.sub (by assumption) _ rfl) rfl ?_) | (refine Nx.load1 3 rfl rfl rfl rfl (by assumption) rfl ?_) | (refine Nx.load 3 rfl rfl rfl rfl (by assumption) rfl rfl ?_))
          | ((with_reducible refine (atCall 51) ?_); refine Nx.call [0] [0] rfl rfl rfl rfl rfl (hP) rfl fun v Q hQ => ?_; obtain ⟨rfl, rfl⟩ := hQ)
          | ((with_reducible refine atIn ?_); refine Nx.weak ((ih _ nx hmu)) ?_ ?_ ?_ ?_ <;> (first | exact subM.nil _ | exact subB.nil _ | exact subR.nil _ | ((repeat (first | exact subE.nil _ | refine subE.cons rfl rfl ?_ | refine subE.cons' rfl (fun _ => rfl) ?_ | (refine subE.cons rfl ?_ ?_; · (simp; done)))); done) | ((repeat (first | exact subM.nil _ | refine subM.cons rfl rfl rfl ?_)); done) | ((repeat (first | exact subB.nil _ | refine subB.cons rfl ?_)); done) | ((repeat (first | exact subR.nil _ | refine subR.cons rfl rfl ?_)); done) | omega | (dsimp only; omega) | (skip) | skip))
          | ((with_reducible refine atOps ?_); refine go 200 ?_; conv => whnf)
          | ((with_reducible refine atPlan ?_); refine Nx.runP (n := 200) rfl (by repeat (first | exact subB.nil _ | refine subB.cons rfl ?_)) ?_; conv => whnf)
          | ((with_reducible refine atAftL ?_); refine Nx.late ?_)
          | ((fail_if_success (with_reducible refine atRet ?_)); (fail_if_success (with_reducible refine atLoop ?_)); (fail_if_success (with_reducible refine atIn ?_)); (fail_if_success (with_reducible refine atDrawn ?_)); (fail_if_success (with_reducible refine atEnd ?_)); (with_reducible refine atRun ?_); refine go 200 ?_; conv => whnf))
    · have h0 : ¬ ws[x.i] = [] := fun h => hsk (.inl h)
      have hP := HasPrefix_ok (m := m) ws[x.i] [35]
      rw [pre35, decide_eq_false (fun h => hsk (.inr h))] at hP
      have hPa := Parse_ok hG ws[x.i] (by omega)
      cases hp : parseA ws[x.i] with
      | error e =>
        have hb := hx.bad hlt hsk hp
        rw [hp] at hPa
        repeat' (first
          | ((with_reducible refine atBr ?_); refine BrM.yes (by omega) ?_; conv => whnf)
          | ((with_reducible refine atBr ?_); refine BrM.not (fun h => h0 (toList_eq h)) ?_; conv => whnf)
          | ((with_reducible refine atBr ?_); (first | refine BrM.t rfl ?_ | refine BrM.f rfl ?_ | refine BrM.dec (fun _ => ?_) (fun _ => ?_) | refine BrM.mk (fun _ => ?_) (fun _ => ?_)) <;> conv => whnf)
          | ((with_reducible refine atAr ?_); refine Ar.i64 (by omega) (by omega) ?_; conv => whnf)
          | ((with_reducible refine atIdx ?_); refine Nx.idx 3 rfl rfl rfl Tryz.underlying56 rfl rfl rfl one_len hsee rfl rfl (by omega) fun _ _ _ => ?_)
          | ((with_reducible refine atLoad ?_); first | (refine Nx.load1 3 rfl rfl rfl rfl (SeesAt.sub (by assumption) _ rfl) rfl ?_) | (refine Nx.load1 3 rfl rfl rfl rfl (by assumption) rfl ?_) | (refine Nx.load 3 rfl rfl rfl rfl (by assumption) rfl rfl ?_))
          | ((with_reducible refine (atCall 51) ?_); refine Nx.call [0] [0] rfl rfl rfl rfl rfl (hP) rfl fun v Q hQ => ?_; obtain ⟨rfl, rfl⟩ := hQ)
          | ((with_reducible refine atOps ?_); refine go 200 ?_; conv => whnf)
          | ((with_reducible refine atPlan ?_); refine Nx.runP (n := 200) rfl (by repeat (first | exact subB.nil _ | refine subB.cons rfl ?_)) ?_; conv => whnf)
          | ((with_reducible refine atAftL ?_); refine Nx.late ?_)
          | ((fail_if_success (with_reducible refine atRet ?_)); (fail_if_success (with_reducible refine atLoop ?_)); (fail_if_success (with_reducible refine atIn ?_)); (fail_if_success (with_reducible refine atDrawn ?_)); (fail_if_success (with_reducible refine atEnd ?_)); (with_reducible refine atRun ?_); refine go 200 ?_; conv => whnf))
        refine Nx.call [0] [0,9] rfl rfl rfl rfl rfl (hPa) rfl fun v Q hQ => ?_
        obtain ⟨b, q, rfl, rfl⟩ := hQ
        repeat' (first
          | ((with_reducible refine atAr ?_); refine Ar.to (k := .i64) (((x.i+1:Nat):Int)) (by omega) ⟨by omega, by omega⟩ ?_; conv => whnf)
          | ((with_reducible refine atBr ?_); (first | refine BrM.t rfl ?_ | refine BrM.f rfl ?_ | refine BrM.dec (fun _ => ?_) (fun _ => ?_) | refine BrM.mk (fun _ => ?_) (fun _ => ?_)) <;> conv => whnf)
          | ((with_reducible refine atAr ?_); refine Ar.i64 (by omega) (by omega) ?_; conv => whnf)
          | ((with_reducible refine atRet ?_); refine Nx.ret [0,9] Tryz.func23 rfl rfl ?_; (rw [hb]; exact ⟨b, q, rfl, rfl⟩))
          | ((with_reducible refine atOps ?_); refine go 200 ?_; conv => whnf)
          | ((with_reducible refine atPlan ?_); refine Nx.runP (n := 200) rfl (by repeat (first | exact subB.nil _ | refine subB.cons rfl ?_)) ?_; conv => whnf)
          | ((with_reducible refine atAftL ?_); refine Nx.late ?_)
          | ((fail_if_success (with_reducible refine atRet ?_)); (fail_if_success (with_reducible refine atLoop ?_)); (fail_if_success (with_reducible refine atIn ?_)); (fail_if_success (with_reducible refine atDrawn ?_)); (fail_if_success (with_reducible refine atEnd ?_)); (with_reducible refine atRun ?_); refine go 200 ?_; conv => whnf))
      | ok o =>
        rw [hp] at hPa
        repeat' (first
          | ((with_reducible refine atBr ?_); refine BrM.yes (by omega) ?_; conv => whnf)
          | ((with_reducible refine atBr ?_); refine BrM.not (fun h => h0 (toList_eq h)) ?_; conv => whnf)
          | ((with_reducible refine atBr ?_); (first | refine BrM.t rfl ?_ | refine BrM.f rfl ?_ | refine BrM.dec (fun _ => ?_) (fun _ => ?_) | refine BrM.mk (fun _ => ?_) (fun _ => ?_)) <;> conv => whnf)
          | ((with_reducible refine atAr ?_); refine Ar.i64 (by omega) (by omega) ?_; conv => whnf)
          | ((with_reducible refine atIdx ?_); refine Nx.idx 3 rfl rfl rfl Tryz.underlying56 rfl rfl rfl one_len hsee rfl rfl (by omega) fun _ _ _ => ?_)
          | ((with_reducible refine atLoad ?_); first | (refine Nx.load1 3 rfl rfl rfl rfl (SeesAt.sub (by assumption) _ rfl) rfl ?_) | (refine Nx.load1 3 rfl rfl rfl rfl (by assumption) rfl ?_) | (refine Nx.load 3 rfl rfl rfl rfl (by assumption) rfl rfl ?_))
          | ((with_reducible refine (atCall 51) ?_); refine Nx.call [0] [0] rfl rfl rfl rfl rfl (hP) rfl fun v Q hQ => ?_; obtain ⟨rfl, rfl⟩ := hQ)
          | ((with_reducible refine atOps ?_); refine go 200 ?_; conv => whnf)
          | ((with_reducible refine atPlan ?_); refine Nx.runP (n := 200) rfl (by repeat (first | exact subB.nil _ | refine subB.cons rfl ?_)) ?_; conv => whnf)
          | ((with_reducible refine atAftL ?_); refine Nx.late ?_)
          | ((fail_if_success (with_reducible refine atRet ?_)); (fail_if_success (with_reducible refine atLoop ?_)); (fail_if_success (with_reducible refine atIn ?_)); (fail_if_success (with_reducible refine atDrawn ?_)); (fail_if_success (with_reducible refine atEnd ?_)); (with_reducible refine atRun ?_); refine go 200 ?_; conv => whnf))
        refine Nx.call [0] [0,13,14] rfl rfl rfl rfl rfl (hPa) rfl fun v Q hQ => ?_
        obtain ⟨A2, c2, B2, d2, rfl, rfl⟩ := hQ
        have nx := fun A c => hx.more (y := ⟨o, A2, c2, B2, d2⟩) hlt hsk hp A c
        refine Nx.share 13 (rdS A2 o.after.length 1 (intsV o.after)) rfl own_share ?_
        refine Nx.share 14 (rdS B2 o.evs.length 2 (evsV o.evs)) rfl own_share ?_
        refine Nx.turn [6,13,14] [6] [rdAll (x.L ++ [⟨o, A2, c2, B2, d2⟩])] rfl (rdAll_more (L := x.L) (x := ⟨o, A2, c2, B2, d2⟩)) ?_
        repeat' (first
          | ((with_reducible refine atAr ?_); refine Ar.to (k := .i64) (((x.i+1:Nat):Int)) (by omega) ⟨by omega, by omega⟩ ?_; conv => whnf)
          | ((with_reducible refine atBr ?_); (first | refine BrM.t rfl ?_ | refine BrM.f rfl ?_ | refine BrM.dec (fun _ => ?_) (fun _ => ?_) | refine BrM.mk (fun _ => ?_) (fun _ => ?_)) <;> conv => whnf)
          | ((with_reducible refine atAr ?_); refine Ar.i64 (by omega) (by omega) ?_; conv => whnf)
          | ((with_reducible refine atApp ?_); refine Nx.append 5 (sz := 10) (by_ := 112) (news := (lnC o A2 c2 B2 d2)) rfl rfl rfl rfl rfl Tryz.underlying60 rfl rfl rfl rfl rfl (by unfold maxLen; omega) (by omega) fun A' c'' => ?_)
          | ((with_reducible refine atOps ?_); refine go 200 ?_; conv => whnf)
          | ((with_reducible refine atPlan ?_); refine Nx.runP (n := 200) rfl (by repeat (first | exact subB.nil _ | refine subB.cons rfl ?_)) ?_; conv => whnf)
          | ((with_reducible refine atAftL ?_); refine Nx.late ?_)
          | ((fail_if_success (with_reducible refine atRet ?_)); (fail_if_success (with_reducible refine atLoop ?_)); (fail_if_success (with_reducible refine atIn ?_)); (fail_if_success (with_reducible refine atDrawn ?_)); (fail_if_success (with_reducible refine atEnd ?_)); (with_reducible refine atRun ?_); refine go 200 ?_; conv => whnf))
        refine (ih _ (nx A' c'') hmu).weak ?_ ?_ ?_ ?_
        · exact .cons rfl (by simp) (.cons rfl rfl (.cons rfl rfl (.cons rfl rfl (.nil _))))
        · repeat (first | exact subM.nil _ | refine subM.cons rfl rfl rfl ?_)
        · repeat (first | exact subB.nil _ | refine subB.cons rfl ?_)
        · exact .cons rfl rfl (.cons rfl rfl (.cons rfl (by simp [lines_snoc]) (.cons rfl rfl (.nil _))))
  · have hf := hx.fin hlt
    repeat' (first
      | ((with_reducible refine atBr ?_); refine BrM.not (by omega) ?_; conv => whnf)
      | ((with_reducible refine atBr ?_); (first | refine BrM.t rfl ?_ | refine BrM.f rfl ?_ | refine BrM.dec (fun _ => ?_) (fun _ => ?_) | refine BrM.mk (fun _ => ?_) (fun _ => ?_)) <;> conv => whnf)
      | ((with_reducible refine atAr ?_); refine Ar.i64 (by omega) (by omega) ?_; conv => whnf)
      | ((with_reducible refine atRet ?_); refine Nx.ret [0,5,6] Tryz.func23 rfl rfl ?_; (rw [hf]; exact ⟨x.L, x.A, x.c, rfl, rfl, rfl⟩))
      | ((with_reducible refine atOps ?_); refine go 200 ?_; conv => whnf)
      | ((with_reducible refine atPlan ?_); refine Nx.runP (n := 200) rfl (by repeat (first | exact subB.nil _ | refine subB.cons rfl ?_)) ?_; conv => whnf)
      | ((with_reducible refine atAftL ?_); refine Nx.late ?_)
      | ((fail_if_success (with_reducible refine atRet ?_)); (fail_if_success (with_reducible refine atLoop ?_)); (fail_if_success (with_reducible refine atIn ?_)); (fail_if_success (with_reducible refine atDrawn ?_)); (fail_if_success (with_reducible refine atEnd ?_)); (with_reducible refine atRun ?_); refine go 200 ?_; conv => whnf))
end Go.Proofs.YtkfnbpbhcnekiaaGreatDoor

/- ScriptLines, walked: the document's Read; the law. -/
namespace Go.Proofs.YtkfnbpbhcnekiaaGreatDoor
open Go.RowKit Go.Lib
attribute [local irreducible] Nx Ar BrM
set_option maxRecDepth 20000
set_option maxHeartbeats 4000000

def RlPostR (r : Except (Nat × Int) (List Ln)) (v : Value) (Q : List SP) : Prop :=
  match r with
  | .ok l => ∃ (L : List LnS) (A : Option Addr) (c : Nat), L.map (·.o) = l ∧ v = .tuple #[.slice A L.length c, .int .i64 0, .int .i64 0] ∧ Q = [ownS 44 A L.length c 10 (L.flatMap LnS.enc), rdAll L]
  | .error e => v = .tuple #[.slice none 0 0, .int .i64 e.1, .int .i64 e.2] ∧ Q = []
theorem ReadR_ok (s : Str) (hs : s.length ≤ 500000) : FnOk Tryz.prog 24 [str s] [] (RlPostR (readA (splitC 10 s) 0)) := by
  have hl1 := split_le 10 s
  have hl2 := split_each 10 s
  obtain ⟨r, hr⟩ : ∃ r, r = readA (splitC 10 s) 0 := ⟨_, rfl⟩
  have hSp := SplitR_ok s 10 (by omega)
  rw [← hr]
  generalize splitC 10 s = ws at *
  refine FnOk.start Tryz.func24 rfl rfl rfl rfl fun F os tape output => ?_
  refine go 200 ?_
  conv => whnf
  refine Nx.call [] [3] rfl rfl rfl rfl rfl (hSp) rfl fun v Q hQ => ?_
  obtain ⟨W, wc, rfl, rfl⟩ := hQ
  refine Nx.share 3 (rdS W ws.length 1 (strs ws)) rfl own_share ?_
  have hsee : Sees (rdS W ws.length 1 (strs ws)) W ws.length 1 (ws.flatMap fun w => [str w]) := by rw [strs_flat]; exact rdS_sees _ _ _ _
  refine Nx.give 5 (ownS 44 none 0 0 10 []) (own_nil _ _ _ _) ?_
  refine Nx.give 6 (rdAll []) (rdAll_nil _ _) ?_
  repeat' (first
    | ((with_reducible refine atBr ?_); (first | refine BrM.t rfl ?_ | refine BrM.f rfl ?_ | refine BrM.dec (fun _ => ?_) (fun _ => ?_) | refine BrM.mk (fun _ => ?_) (fun _ => ?_)) <;> conv => whnf)
    | ((with_reducible refine atAr ?_); refine Ar.i64 (by omega) (by omega) ?_; conv => whnf)
    | (fail)
    | ((with_reducible refine atOps ?_); refine go 200 ?_; conv => whnf)
    | ((with_reducible refine atPlan ?_); refine Nx.runP (n := 200) rfl (by repeat (first | exact subB.nil _ | refine subB.cons rfl ?_)) ?_; conv => whnf)
    | ((with_reducible refine atAftL ?_); refine Nx.late ?_)
    | ((fail_if_success (with_reducible refine atRet ?_)); (fail_if_success (with_reducible refine atLoop ?_)); (fail_if_success (with_reducible refine atIn ?_)); (fail_if_success (with_reducible refine atDrawn ?_)); (fail_if_success (with_reducible refine atEnd ?_)); (with_reducible refine atRun ?_); refine go 200 ?_; conv => whnf))
  refine Nx.loop (X := RlX) (RlI ws r) (fun x => ws.length - x.i)
    (fun x => [(5, sl x.A x.L.length x.c), (6, sl W ws.length wc), (7, iv x.i)]) (fun _ => []) [] (fun x => [(3, rdS W ws.length 1 (strs ws)), (5, ownS 44 x.A x.L.length x.c 10 (x.L.flatMap LnS.enc)), (6, rdAll x.L)]) ⟨0, [], none, 0⟩ ⟨Nat.zero_le _, Nat.le_refl _, by rw [hr, List.drop_zero]; cases readA ws 0 <;> simp⟩ ?_ ?_ ?_ ?_ ?_
  · repeat (first | exact subE.nil _ | refine subE.cons rfl rfl ?_ | refine subE.cons' rfl (fun _ => rfl) ?_)
  · repeat (first | exact subM.nil _ | refine subM.cons rfl rfl rfl ?_)
  · repeat (first | exact subB.nil _ | refine subB.cons rfl ?_)
  · repeat (first | exact subR.nil _ | refine subR.cons rfl rfl ?_)
  intro x hx ih
  have hi := hx.i
  have hn := hx.n
  by_cases hlt : x.i < ws.length
  · have hmu : ws.length - (x.i + 1) < ws.length - x.i := by omega
    have hwl := hl2 _ (List.getElem_mem hlt)
    by_cases h0 : ws[x.i] = []
    · have nx := hx.skip hlt (.inl h0)
      repeat' (first
        | ((with_reducible refine atBr ?_); refine BrM.yes (by omega) ?_; conv => whnf)
        | ((with_reducible refine atBr ?_); refine BrM.yes (tl_eq h0) ?_; conv => whnf)
        | ((with_reducible refine atAr ?_); refine Ar.to (k := .i64) (((x.i+1:Nat):Int)) (by omega) ⟨by omega, by omega⟩ ?_; conv => whnf)
        | ((with_reducible refine atBr ?_); (first | refine BrM.t rfl ?_ | refine BrM.f rfl ?_ | refine BrM.dec (fun _ => ?_) (fun _ => ?_) | refine BrM.mk (fun _ => ?_) (fun _ => ?_)) <;> conv => whnf)
        | ((with_reducible refine atAr ?_); refine Ar.i64 (by omega) (by omega) ?_; conv => whnf)
        | ((with_reducible refine atIdx ?_); refine Nx.idx 3 rfl rfl rfl Tryz.underlying56 rfl rfl rfl one_len hsee rfl rfl (by omega) fun _ _ _ => ?_)
        | ((with_reducible refine atLoad ?_); first | (refine Nx.load1 3 rfl rfl rfl rfl (SeesAt.sub (by assumption) _ rfl) rfl ?_) | (refine Nx.load1 3 rfl rfl rfl rfl (by assumption) rfl ?_) | (refine Nx.load 3 rfl rfl rfl rfl (by assumption) rfl rfl ?_))
        | ((with_reducible refine atIn ?_); refine Nx.weak ((ih _ nx hmu)) ?_ ?_ ?_ ?_ <;> (first | exact subM.nil _ | exact subB.nil _ | exact subR.nil _ | ((repeat (first | exact subE.nil _ | refine subE.cons rfl rfl ?_ | refine subE.cons' rfl (fun _ => rfl) ?_ | (refine subE.cons rfl ?_ ?_; · (simp; done)))); done) | ((repeat (first | exact subM.nil _ | refine subM.cons rfl rfl rfl ?_)); done) | ((repeat (first | exact subB.nil _ | refine subB.cons rfl ?_)); done) | ((repeat (first | exact subR.nil _ | refine subR.cons rfl rfl ?_)); done) | omega | (dsimp only; omega) | (skip) | skip))
        | ((with_reducible refine atOps ?_); refine go 200 ?_; conv => whnf)
        | ((with_reducible refine atPlan ?_); refine Nx.runP (n := 200) rfl (by repeat (first | exact subB.nil _ | refine subB.cons rfl ?_)) ?_; conv => whnf)
        | ((with_reducible refine atAftL ?_); refine Nx.late ?_)
        | ((fail_if_success (with_reducible refine atRet ?_)); (fail_if_success (with_reducible refine atLoop ?_)); (fail_if_success (with_reducible refine atIn ?_)); (fail_if_success (with_reducible refine atDrawn ?_)); (fail_if_success (with_reducible refine atEnd ?_)); (with_reducible refine atRun ?_); refine go 200 ?_; conv => whnf))
    · have hwp := List.length_pos_iff.2 h0
      have hb0 : byteAt ws[x.i] 0 = (ws[x.i][0]).toNat := byteAt_zero hwp
      have hg0 : ws[x.i][0]? = some ws[x.i][0] := List.getElem?_eq_getElem hwp
      by_cases h35 : ws[x.i][0]? = some 35
      · have nx := hx.skip hlt (.inr h35)
        have hbv : byteAt ws[x.i] 0 = 35 := by
          rw [hg0] at h35
          rw [hb0, Option.some.inj h35]; rfl
        repeat' (first
          | ((with_reducible refine atBr ?_); refine BrM.yes (by omega) ?_; conv => whnf)
          | ((with_reducible refine atBr ?_); refine BrM.not (fun h => h0 (toList_eq h)) ?_; conv => whnf)
          | ((with_reducible refine atAr ?_); refine Ar.to (k := .i64) (((x.i+1:Nat):Int)) (by omega) ⟨by omega, by omega⟩ ?_; conv => whnf)
          | ((with_reducible refine atBr ?_); (first | refine BrM.t rfl ?_ | refine BrM.f rfl ?_ | refine BrM.dec (fun _ => ?_) (fun _ => ?_) | refine BrM.mk (fun _ => ?_) (fun _ => ?_)) <;> conv => whnf)
          | ((with_reducible refine atAr ?_); refine Ar.i64 (by omega) (by omega) ?_; conv => whnf)
          | ((with_reducible refine atIdx ?_); refine Nx.idx 3 rfl rfl rfl Tryz.underlying56 rfl rfl rfl one_len hsee rfl rfl (by omega) fun _ _ _ => ?_)
          | ((with_reducible refine atLoad ?_); first | (refine Nx.load1 3 rfl rfl rfl rfl (SeesAt.sub (by assumption) _ rfl) rfl ?_) | (refine Nx.load1 3 rfl rfl rfl rfl (by assumption) rfl ?_) | (refine Nx.load 3 rfl rfl rfl rfl (by assumption) rfl rfl ?_))
          | ((with_reducible refine atIndex ?_); refine Nx.sidx rfl rfl rfl Tryz.underlying9 rfl (by omega) (by omega) ?_)
          | ((with_reducible refine atIn ?_); refine Nx.weak ((ih _ nx hmu)) ?_ ?_ ?_ ?_ <;> (first | exact subM.nil _ | exact subB.nil _ | exact subR.nil _ | ((repeat (first | exact subE.nil _ | refine subE.cons rfl rfl ?_ | refine subE.cons' rfl (fun _ => rfl) ?_ | (refine subE.cons rfl ?_ ?_; · (simp; done)))); done) | ((repeat (first | exact subM.nil _ | refine subM.cons rfl rfl rfl ?_)); done) | ((repeat (first | exact subB.nil _ | refine subB.cons rfl ?_)); done) | ((repeat (first | exact subR.nil _ | refine subR.cons rfl rfl ?_)); done) | omega | (dsimp only; omega) | (skip) | skip))
          | ((with_reducible refine atOps ?_); refine go 200 ?_; conv => whnf)
          | ((with_reducible refine atPlan ?_); refine Nx.runP (n := 200) rfl (by repeat (first | exact subB.nil _ | refine subB.cons rfl ?_)) ?_; conv => whnf)
          | ((with_reducible refine atAftL ?_); refine Nx.late ?_)
          | ((fail_if_success (with_reducible refine atRet ?_)); (fail_if_success (with_reducible refine atLoop ?_)); (fail_if_success (with_reducible refine atIn ?_)); (fail_if_success (with_reducible refine atDrawn ?_)); (fail_if_success (with_reducible refine atEnd ?_)); (with_reducible refine atRun ?_); refine go 200 ?_; conv => whnf))
      · have hbv : ¬ byteAt ws[x.i] 0 = 35 := fun h => h35 (by rw [hg0]; exact congrArg some ((byte_eq (n := 35) (by omega)).1 (by rw [← hb0]; exact h)))
        have hsk : ¬ skipA ws[x.i] := fun h => h.elim h0 h35
        have hPa := ParseR_ok ws[x.i] (by omega)
        cases hp : parseA ws[x.i] with
        | error e =>
          have hb := hx.bad hlt hsk hp
          have he := parse_err hp
          rw [hp] at hPa
          repeat' (first
            | ((with_reducible refine atBr ?_); refine BrM.yes (by omega) ?_; conv => whnf)
            | ((with_reducible refine atBr ?_); refine BrM.not (fun h => h0 (toList_eq h)) ?_; conv => whnf)
            | ((with_reducible refine atBr ?_); refine BrM.not (by omega) ?_; conv => whnf)
            | ((with_reducible refine atBr ?_); (first | refine BrM.t rfl ?_ | refine BrM.f rfl ?_ | refine BrM.dec (fun _ => ?_) (fun _ => ?_) | refine BrM.mk (fun _ => ?_) (fun _ => ?_)) <;> conv => whnf)
            | ((with_reducible refine atAr ?_); refine Ar.i64 (by omega) (by omega) ?_; conv => whnf)
            | ((with_reducible refine atIdx ?_); refine Nx.idx 3 rfl rfl rfl Tryz.underlying56 rfl rfl rfl one_len hsee rfl rfl (by omega) fun _ _ _ => ?_)
            | ((with_reducible refine atLoad ?_); first | (refine Nx.load1 3 rfl rfl rfl rfl (SeesAt.sub (by assumption) _ rfl) rfl ?_) | (refine Nx.load1 3 rfl rfl rfl rfl (by assumption) rfl ?_) | (refine Nx.load 3 rfl rfl rfl rfl (by assumption) rfl rfl ?_))
            | ((with_reducible refine atIndex ?_); refine Nx.sidx rfl rfl rfl Tryz.underlying9 rfl (by omega) (by omega) ?_)
            | ((with_reducible refine atOps ?_); refine go 200 ?_; conv => whnf)
            | ((with_reducible refine atPlan ?_); refine Nx.runP (n := 200) rfl (by repeat (first | exact subB.nil _ | refine subB.cons rfl ?_)) ?_; conv => whnf)
            | ((with_reducible refine atAftL ?_); refine Nx.late ?_)
            | ((fail_if_success (with_reducible refine atRet ?_)); (fail_if_success (with_reducible refine atLoop ?_)); (fail_if_success (with_reducible refine atIn ?_)); (fail_if_success (with_reducible refine atDrawn ?_)); (fail_if_success (with_reducible refine atEnd ?_)); (with_reducible refine atRun ?_); refine go 200 ?_; conv => whnf))
          refine Nx.call [] [13,14] rfl rfl rfl rfl rfl (hPa) rfl fun v Q hQ => ?_
          obtain ⟨o', A', B', c', d', e', rfl, rfl, hm⟩ := hQ
          obtain ⟨rfl, rfl⟩ := hm
          repeat' (first
            | ((with_reducible refine atBr ?_); refine BrM.yes (by omega) ?_; conv => whnf)
            | ((with_reducible refine atAr ?_); refine Ar.to (k := .i64) (((x.i+1:Nat):Int)) (by omega) ⟨by omega, by omega⟩ ?_; conv => whnf)
            | ((with_reducible refine atBr ?_); (first | refine BrM.t rfl ?_ | refine BrM.f rfl ?_ | refine BrM.dec (fun _ => ?_) (fun _ => ?_) | refine BrM.mk (fun _ => ?_) (fun _ => ?_)) <;> conv => whnf)
            | ((with_reducible refine atAr ?_); refine Ar.i64 (by omega) (by omega) ?_; conv => whnf)
            | ((with_reducible refine atRet ?_); refine Nx.ret [] Tryz.func24 rfl rfl ?_; (rw [hb]; exact ⟨rfl, rfl⟩))
            | ((with_reducible refine atOps ?_); refine go 200 ?_; conv => whnf)
            | ((with_reducible refine atPlan ?_); refine Nx.runP (n := 200) rfl (by repeat (first | exact subB.nil _ | refine subB.cons rfl ?_)) ?_; conv => whnf)
            | ((with_reducible refine atAftL ?_); refine Nx.late ?_)
            | ((fail_if_success (with_reducible refine atRet ?_)); (fail_if_success (with_reducible refine atLoop ?_)); (fail_if_success (with_reducible refine atIn ?_)); (fail_if_success (with_reducible refine atDrawn ?_)); (fail_if_success (with_reducible refine atEnd ?_)); (with_reducible refine atRun ?_); refine go 200 ?_; conv => whnf))
        | ok o =>
          rw [hp] at hPa
          repeat' (first
            | ((with_reducible refine atBr ?_); refine BrM.yes (by omega) ?_; conv => whnf)
            | ((with_reducible refine atBr ?_); refine BrM.not (fun h => h0 (toList_eq h)) ?_; conv => whnf)
            | ((with_reducible refine atBr ?_); refine BrM.not (by omega) ?_; conv => whnf)
            | ((with_reducible refine atBr ?_); (first | refine BrM.t rfl ?_ | refine BrM.f rfl ?_ | refine BrM.dec (fun _ => ?_) (fun _ => ?_) | refine BrM.mk (fun _ => ?_) (fun _ => ?_)) <;> conv => whnf)
            | ((with_reducible refine atAr ?_); refine Ar.i64 (by omega) (by omega) ?_; conv => whnf)
            | ((with_reducible refine atIdx ?_); refine Nx.idx 3 rfl rfl rfl Tryz.underlying56 rfl rfl rfl one_len hsee rfl rfl (by omega) fun _ _ _ => ?_)
            | ((with_reducible refine atLoad ?_); first | (refine Nx.load1 3 rfl rfl rfl rfl (SeesAt.sub (by assumption) _ rfl) rfl ?_) | (refine Nx.load1 3 rfl rfl rfl rfl (by assumption) rfl ?_) | (refine Nx.load 3 rfl rfl rfl rfl (by assumption) rfl rfl ?_))
            | ((with_reducible refine atIndex ?_); refine Nx.sidx rfl rfl rfl Tryz.underlying9 rfl (by omega) (by omega) ?_)
            | ((with_reducible refine atOps ?_); refine go 200 ?_; conv => whnf)
            | ((with_reducible refine atPlan ?_); refine Nx.runP (n := 200) rfl (by repeat (first | exact subB.nil _ | refine subB.cons rfl ?_)) ?_; conv => whnf)
            | ((with_reducible refine atAftL ?_); refine Nx.late ?_)
            | ((fail_if_success (with_reducible refine atRet ?_)); (fail_if_success (with_reducible refine atLoop ?_)); (fail_if_success (with_reducible refine atIn ?_)); (fail_if_success (with_reducible refine atDrawn ?_)); (fail_if_success (with_reducible refine atEnd ?_)); (with_reducible refine atRun ?_); refine go 200 ?_; conv => whnf))
          refine Nx.call [] [13,14] rfl rfl rfl rfl rfl (hPa) rfl fun v Q hQ => ?_
          obtain ⟨o', A2, B2, c2, d2, e', rfl, rfl, hm⟩ := hQ
          obtain ⟨rfl, rfl⟩ := hm
          have nx := fun A c => hx.more (y := ⟨o', A2, c2, B2, d2⟩) hlt hsk hp A c
          refine Nx.share 13 (rdS A2 o'.after.length 1 (intsV o'.after)) rfl own_share ?_
          refine Nx.share 14 (rdS B2 o'.evs.length 2 (evsV o'.evs)) rfl own_share ?_
          refine Nx.turn [6,13,14] [6] [rdAll (x.L ++ [⟨o', A2, c2, B2, d2⟩])] rfl (rdAll_more (L := x.L) (x := ⟨o', A2, c2, B2, d2⟩)) ?_
          repeat' (first
            | ((with_reducible refine atBr ?_); refine BrM.not (by omega) ?_; conv => whnf)
            | ((with_reducible refine atAr ?_); refine Ar.to (k := .i64) (((x.i+1:Nat):Int)) (by omega) ⟨by omega, by omega⟩ ?_; conv => whnf)
            | ((with_reducible refine atBr ?_); (first | refine BrM.t rfl ?_ | refine BrM.f rfl ?_ | refine BrM.dec (fun _ => ?_) (fun _ => ?_) | refine BrM.mk (fun _ => ?_) (fun _ => ?_)) <;> conv => whnf)
            | ((with_reducible refine atAr ?_); refine Ar.i64 (by omega) (by omega) ?_; conv => whnf)
            | ((with_reducible refine atApp ?_); refine Nx.append 5 (sz := 10) (by_ := 112) (news := (lnC o' A2 c2 B2 d2)) rfl rfl rfl rfl rfl Tryz.underlying63 rfl rfl rfl rfl rfl (by unfold maxLen; omega) (by omega) fun A' c'' => ?_)
            | ((with_reducible refine atOps ?_); refine go 200 ?_; conv => whnf)
            | ((with_reducible refine atPlan ?_); refine Nx.runP (n := 200) rfl (by repeat (first | exact subB.nil _ | refine subB.cons rfl ?_)) ?_; conv => whnf)
            | ((with_reducible refine atAftL ?_); refine Nx.late ?_)
            | ((fail_if_success (with_reducible refine atRet ?_)); (fail_if_success (with_reducible refine atLoop ?_)); (fail_if_success (with_reducible refine atIn ?_)); (fail_if_success (with_reducible refine atDrawn ?_)); (fail_if_success (with_reducible refine atEnd ?_)); (with_reducible refine atRun ?_); refine go 200 ?_; conv => whnf))
          refine (ih _ (nx A' c'') hmu).weak ?_ ?_ ?_ ?_
          · exact .cons rfl (by simp) (.cons rfl rfl (.cons rfl rfl (.nil _)))
          · repeat (first | exact subM.nil _ | refine subM.cons rfl rfl rfl ?_)
          · repeat (first | exact subB.nil _ | refine subB.cons rfl ?_)
          · exact .cons rfl rfl (.cons rfl (by simp [lines_snoc]) (.cons rfl rfl (.nil _)))
  · have hf := hx.fin hlt
    repeat' (first
      | ((with_reducible refine atBr ?_); refine BrM.not (by omega) ?_; conv => whnf)
      | ((with_reducible refine atBr ?_); (first | refine BrM.t rfl ?_ | refine BrM.f rfl ?_ | refine BrM.dec (fun _ => ?_) (fun _ => ?_) | refine BrM.mk (fun _ => ?_) (fun _ => ?_)) <;> conv => whnf)
      | ((with_reducible refine atAr ?_); refine Ar.i64 (by omega) (by omega) ?_; conv => whnf)
      | ((with_reducible refine atRet ?_); refine Nx.ret [5,6] Tryz.func24 rfl rfl ?_; (rw [hf]; exact ⟨x.L, x.A, x.c, rfl, rfl, rfl⟩))
      | ((with_reducible refine atOps ?_); refine go 200 ?_; conv => whnf)
      | ((with_reducible refine atPlan ?_); refine Nx.runP (n := 200) rfl (by repeat (first | exact subB.nil _ | refine subB.cons rfl ?_)) ?_; conv => whnf)
      | ((with_reducible refine atAftL ?_); refine Nx.late ?_)
      | ((fail_if_success (with_reducible refine atRet ?_)); (fail_if_success (with_reducible refine atLoop ?_)); (fail_if_success (with_reducible refine atIn ?_)); (fail_if_success (with_reducible refine atDrawn ?_)); (fail_if_success (with_reducible refine atEnd ?_)); (with_reducible refine atRun ?_); refine go 200 ?_; conv => whnf))
theorem read_err : ∀ (ws : List Str) (i : Nat) {e : Nat × Int}, readA ws i = .error e → e.2 ≠ 0
  | [], i, e, h => by cases h
  | w :: ws, i, e, h => by
    rw [readA] at h
    split at h
    · exact read_err ws _ h
    · split at h
      · rename_i hp; cases h; exact parse_err hp
      · split at h
        · rename_i hr; cases h; exact read_err ws _ hr
        · cases h
theorem read_len : ∀ (ws : List Str) (i : Nat) {l : List Ln}, readA ws i = .ok l → ∀ o ∈ l, o.after.length ≤ 64 ∧ o.evs.length ≤ 64
  | [], i, l, h => by cases h; simp
  | w :: ws, i, l, h => by
    rw [readA] at h
    split at h
    · exact read_len ws _ h
    · split at h
      · cases h
      · split at h
        · cases h
        · rename_i o hp _ l' hr
          cases h
          intro x hx
          rcases List.mem_cons.1 hx with rfl | hx
          · exact parse_len hp
          · exact read_len ws _ hr x hx
theorem Lines_ok {m : PH} (hG : Glo m) (s : Str) : FnOk Tryz.prog 6 [str s] [roAll m] (fun v Q => v = .bool true ∧ Q = [roAll m]) := by
  have hsz : (⟨s.toArray⟩ : ByteArray).size = s.length := by simp [ByteArray.size]
  refine FnOk.start Tryz.func6 rfl rfl rfl rfl fun F os tape output => ?_
  refine go 200 ?_
  conv => whnf
  by_cases h5 : 20000 < s.length
  · repeat' (first
      | ((with_reducible refine atBr ?_); refine BrM.yes (by omega) ?_; conv => whnf)
      | ((with_reducible refine atBr ?_); (first | refine BrM.t rfl ?_ | refine BrM.f rfl ?_ | refine BrM.dec (fun _ => ?_) (fun _ => ?_) | refine BrM.mk (fun _ => ?_) (fun _ => ?_)) <;> conv => whnf)
      | ((with_reducible refine atAr ?_); refine Ar.i64 (by omega) (by omega) ?_; conv => whnf)
      | ((with_reducible refine (atCall 10) ?_); refine Nx.call [0] [0] rfl rfl rfl rfl rfl ((awake_ok hG)) rfl fun v Q hQ => ?_; obtain ⟨rfl, rfl⟩ := hQ)
      | ((with_reducible refine atRet ?_); refine Nx.ret [0] Tryz.func6 rfl rfl ?_; (exact ⟨rfl, rfl⟩))
      | ((with_reducible refine atOps ?_); refine go 200 ?_; conv => whnf)
      | ((with_reducible refine atPlan ?_); refine Nx.runP (n := 200) rfl (by repeat (first | exact subB.nil _ | refine subB.cons rfl ?_)) ?_; conv => whnf)
      | ((with_reducible refine atAftL ?_); refine Nx.late ?_)
      | ((fail_if_success (with_reducible refine atRet ?_)); (fail_if_success (with_reducible refine atLoop ?_)); (fail_if_success (with_reducible refine atIn ?_)); (fail_if_success (with_reducible refine atDrawn ?_)); (fail_if_success (with_reducible refine atEnd ?_)); (with_reducible refine atRun ?_); refine go 200 ?_; conv => whnf))
  · have hPa := ReadP_ok hG s (by omega)
    have hPr := ReadR_ok s (by omega)
    cases hp : readA (splitC 10 s) 0 with
    | error e =>
      have he := read_err _ _ hp
      rw [hp] at hPa hPr
      obtain ⟨k, e⟩ := e
      simp only at he
      repeat' (first
        | ((with_reducible refine atBr ?_); refine BrM.not (by omega) ?_; conv => whnf)
        | ((with_reducible refine atBr ?_); (first | refine BrM.t rfl ?_ | refine BrM.f rfl ?_ | refine BrM.dec (fun _ => ?_) (fun _ => ?_) | refine BrM.mk (fun _ => ?_) (fun _ => ?_)) <;> conv => whnf)
        | ((with_reducible refine atAr ?_); refine Ar.i64 (by omega) (by omega) ?_; conv => whnf)
        | ((with_reducible refine atOps ?_); refine go 200 ?_; conv => whnf)
        | ((with_reducible refine atPlan ?_); refine Nx.runP (n := 200) rfl (by repeat (first | exact subB.nil _ | refine subB.cons rfl ?_)) ?_; conv => whnf)
        | ((with_reducible refine atAftL ?_); refine Nx.late ?_)
        | ((fail_if_success (with_reducible refine atRet ?_)); (fail_if_success (with_reducible refine atLoop ?_)); (fail_if_success (with_reducible refine atIn ?_)); (fail_if_success (with_reducible refine atDrawn ?_)); (fail_if_success (with_reducible refine atEnd ?_)); (with_reducible refine atRun ?_); refine go 200 ?_; conv => whnf))
      refine Nx.call [0] [0,9] rfl rfl rfl rfl rfl (hPa) rfl fun v Q hQ => ?_
      obtain ⟨b, q, rfl, rfl⟩ := hQ
      repeat' (first
        | ((with_reducible refine atBr ?_); (first | refine BrM.t rfl ?_ | refine BrM.f rfl ?_ | refine BrM.dec (fun _ => ?_) (fun _ => ?_) | refine BrM.mk (fun _ => ?_) (fun _ => ?_)) <;> conv => whnf)
        | ((with_reducible refine atAr ?_); refine Ar.i64 (by omega) (by omega) ?_; conv => whnf)
        | (fail)
        | ((with_reducible refine atOps ?_); refine go 200 ?_; conv => whnf)
        | ((with_reducible refine atPlan ?_); refine Nx.runP (n := 200) rfl (by repeat (first | exact subB.nil _ | refine subB.cons rfl ?_)) ?_; conv => whnf)
        | ((with_reducible refine atAftL ?_); refine Nx.late ?_)
        | ((fail_if_success (with_reducible refine atRet ?_)); (fail_if_success (with_reducible refine atLoop ?_)); (fail_if_success (with_reducible refine atIn ?_)); (fail_if_success (with_reducible refine atDrawn ?_)); (fail_if_success (with_reducible refine atEnd ?_)); (with_reducible refine atRun ?_); refine go 200 ?_; conv => whnf))
      refine Nx.call [] [] rfl rfl rfl rfl rfl (hPr) rfl fun v Q hQ => ?_
      obtain ⟨rfl, rfl⟩ := hQ
      have hI := Is_err b q e e he
      rw [decide_eq_true rfl] at hI
      repeat' (first
        | ((with_reducible refine atBr ?_); refine BrM.not (fun h => h rfl) ?_; conv => whnf)
        | ((with_reducible refine atBr ?_); (first | refine BrM.t rfl ?_ | refine BrM.f rfl ?_ | refine BrM.dec (fun _ => ?_) (fun _ => ?_) | refine BrM.mk (fun _ => ?_) (fun _ => ?_)) <;> conv => whnf)
        | ((with_reducible refine atAr ?_); refine Ar.i64 (by omega) (by omega) ?_; conv => whnf)
        | ((with_reducible refine (atCall 15) ?_); refine Nx.call [9] [9] rfl rfl rfl rfl rfl (hI) rfl fun v Q hQ => ?_; obtain ⟨rfl, rfl⟩ := hQ)
        | ((with_reducible refine atOps ?_); refine go 200 ?_; conv => whnf)
        | ((with_reducible refine atPlan ?_); refine Nx.runP (n := 200) rfl (by repeat (first | exact subB.nil _ | refine subB.cons rfl ?_)) ?_; conv => whnf)
        | ((with_reducible refine atAftL ?_); refine Nx.late ?_)
        | ((fail_if_success (with_reducible refine atRet ?_)); (fail_if_success (with_reducible refine atLoop ?_)); (fail_if_success (with_reducible refine atIn ?_)); (fail_if_success (with_reducible refine atDrawn ?_)); (fail_if_success (with_reducible refine atEnd ?_)); (with_reducible refine atRun ?_); refine go 200 ?_; conv => whnf))
      refine Nx.loop (X := Unit) (fun _ => True) (fun _ => 0) (fun _ => [(43, iv 0), (44, iv 0)]) (fun _ => []) [] (fun _ => [(0, roAll m)]) () trivial ?_ ?_ ?_ ?_ ?_
      · repeat (first | exact subE.nil _ | refine subE.cons rfl rfl ?_ | refine subE.cons' rfl (fun _ => rfl) ?_)
      · repeat (first | exact subM.nil _ | refine subM.cons rfl rfl rfl ?_)
      · repeat (first | exact subB.nil _ | refine subB.cons rfl ?_)
      · repeat (first | exact subR.nil _ | refine subR.cons rfl rfl ?_)
      intro _ _ ih
      clear ih
      repeat' (first
        | ((with_reducible refine atBr ?_); (first | refine BrM.t rfl ?_ | refine BrM.f rfl ?_ | refine BrM.dec (fun _ => ?_) (fun _ => ?_) | refine BrM.mk (fun _ => ?_) (fun _ => ?_)) <;> conv => whnf)
        | ((with_reducible refine atAr ?_); refine Ar.i64 (by omega) (by omega) ?_; conv => whnf)
        | ((with_reducible refine (atCall 10) ?_); refine Nx.call [0] [0] rfl rfl rfl rfl rfl ((awake_ok hG)) rfl fun v Q hQ => ?_; obtain ⟨rfl, rfl⟩ := hQ)
        | ((with_reducible refine atRet ?_); refine Nx.ret [0] Tryz.func6 rfl rfl ?_; (exact ⟨rfl, rfl⟩))
        | ((with_reducible refine atOps ?_); refine go 200 ?_; conv => whnf)
        | ((with_reducible refine atPlan ?_); refine Nx.runP (n := 200) rfl (by repeat (first | exact subB.nil _ | refine subB.cons rfl ?_)) ?_; conv => whnf)
        | ((with_reducible refine atAftL ?_); refine Nx.late ?_)
        | ((fail_if_success (with_reducible refine atRet ?_)); (fail_if_success (with_reducible refine atLoop ?_)); (fail_if_success (with_reducible refine atIn ?_)); (fail_if_success (with_reducible refine atDrawn ?_)); (fail_if_success (with_reducible refine atEnd ?_)); (with_reducible refine atRun ?_); refine go 200 ?_; conv => whnf))
    | ok l =>
      have hln := read_len _ _ hp
      rw [hp] at hPa hPr
      repeat' (first
        | ((with_reducible refine atBr ?_); refine BrM.not (by omega) ?_; conv => whnf)
        | ((with_reducible refine atBr ?_); (first | refine BrM.t rfl ?_ | refine BrM.f rfl ?_ | refine BrM.dec (fun _ => ?_) (fun _ => ?_) | refine BrM.mk (fun _ => ?_) (fun _ => ?_)) <;> conv => whnf)
        | ((with_reducible refine atAr ?_); refine Ar.i64 (by omega) (by omega) ?_; conv => whnf)
        | ((with_reducible refine atOps ?_); refine go 200 ?_; conv => whnf)
        | ((with_reducible refine atPlan ?_); refine Nx.runP (n := 200) rfl (by repeat (first | exact subB.nil _ | refine subB.cons rfl ?_)) ?_; conv => whnf)
        | ((with_reducible refine atAftL ?_); refine Nx.late ?_)
        | ((fail_if_success (with_reducible refine atRet ?_)); (fail_if_success (with_reducible refine atLoop ?_)); (fail_if_success (with_reducible refine atIn ?_)); (fail_if_success (with_reducible refine atDrawn ?_)); (fail_if_success (with_reducible refine atEnd ?_)); (with_reducible refine atRun ?_); refine go 200 ?_; conv => whnf))
      refine Nx.call [0] [0,3,4] rfl rfl rfl rfl rfl (hPa) rfl fun v Q hQ => ?_
      obtain ⟨L, A, c, hL, rfl, rfl⟩ := hQ
      repeat' (first
        | ((with_reducible refine atBr ?_); (first | refine BrM.t rfl ?_ | refine BrM.f rfl ?_ | refine BrM.dec (fun _ => ?_) (fun _ => ?_) | refine BrM.mk (fun _ => ?_) (fun _ => ?_)) <;> conv => whnf)
        | ((with_reducible refine atAr ?_); refine Ar.i64 (by omega) (by omega) ?_; conv => whnf)
        | (fail)
        | ((with_reducible refine atOps ?_); refine go 200 ?_; conv => whnf)
        | ((with_reducible refine atPlan ?_); refine Nx.runP (n := 200) rfl (by repeat (first | exact subB.nil _ | refine subB.cons rfl ?_)) ?_; conv => whnf)
        | ((with_reducible refine atAftL ?_); refine Nx.late ?_)
        | ((fail_if_success (with_reducible refine atRet ?_)); (fail_if_success (with_reducible refine atLoop ?_)); (fail_if_success (with_reducible refine atIn ?_)); (fail_if_success (with_reducible refine atDrawn ?_)); (fail_if_success (with_reducible refine atEnd ?_)); (with_reducible refine atRun ?_); refine go 200 ?_; conv => whnf))
      refine Nx.call [] [5,6] rfl rfl rfl rfl rfl (hPr) rfl fun v Q hQ => ?_
      obtain ⟨L', A', c', hL', rfl, rfl⟩ := hQ
      have hlen : L.length = L'.length := by
        have h1 := congrArg List.length hL
        have h2 := congrArg List.length hL'
        rw [List.length_map] at h1 h2
        omega
      have hat : ∀ k (h1 : k < L.length) (h2 : k < L'.length), L'[k].o = L[k].o := fun k h1 h2 => by
        have e1 : (L.map (·.o))[k]'(by simpa using h1) = (L'.map (·.o))[k]'(by simpa using h2) := by simp only [hL, hL']
        simpa using e1.symm
      have hbd : ∀ k (h1 : k < L.length), L[k].o.after.length ≤ 64 ∧ L[k].o.evs.length ≤ 64 := fun k h1 => hln _ (by rw [← hL]; exact List.mem_map_of_mem (List.getElem_mem h1))
      refine Nx.fact 3 (p := L.length ≤ c ∧ c ≤ maxLen) rfl (fun r h hs => ownS_fit hs) fun ⟨hf1, hf2⟩ => ?_
      have hf3 : L.length ≤ 9223372036854775807 := by unfold maxLen at hf2; omega
      repeat' (first
        | ((with_reducible refine atBr ?_); refine BrM.not (fun h => h rfl) ?_; conv => whnf)
        | ((with_reducible refine atBr ?_); refine BrM.not (by omega) ?_; conv => whnf)
        | ((with_reducible refine atBr ?_); (first | refine BrM.t rfl ?_ | refine BrM.f rfl ?_ | refine BrM.dec (fun _ => ?_) (fun _ => ?_) | refine BrM.mk (fun _ => ?_) (fun _ => ?_)) <;> conv => whnf)
        | ((with_reducible refine atAr ?_); refine Ar.i64 (by omega) (by omega) ?_; conv => whnf)
        | ((with_reducible refine (atCall 15) ?_); refine Nx.call [] [] rfl rfl rfl rfl rfl ((Is_nil 0)) rfl fun v Q hQ => ?_; obtain ⟨rfl, rfl⟩ := hQ)
        | ((with_reducible refine atOps ?_); refine go 200 ?_; conv => whnf)
        | ((with_reducible refine atPlan ?_); refine Nx.runP (n := 200) rfl (by repeat (first | exact subB.nil _ | refine subB.cons rfl ?_)) ?_; conv => whnf)
        | ((with_reducible refine atAftL ?_); refine Nx.late ?_)
        | ((fail_if_success (with_reducible refine atRet ?_)); (fail_if_success (with_reducible refine atLoop ?_)); (fail_if_success (with_reducible refine atIn ?_)); (fail_if_success (with_reducible refine atDrawn ?_)); (fail_if_success (with_reducible refine atEnd ?_)); (with_reducible refine atRun ?_); refine go 200 ?_; conv => whnf))
      refine Nx.loop (X := Nat) (fun k => k ≤ L.length) (fun k => L.length - k) (fun k => [(3, sl A L.length c), (6, sl A' L'.length c'), (43, iv L.length), (44, iv k)]) (fun _ => []) []
        (fun _ => [(0, roAll m), (3, ownS 37 A L.length c 10 (L.flatMap LnS.enc)), (4, rdAll L), (5, ownS 44 A' L'.length c' 10 (L'.flatMap LnS.enc)), (6, rdAll L')]) 0 (Nat.zero_le _) ?_ ?_ ?_ ?_ ?_
      · repeat (first | exact subE.nil _ | refine subE.cons rfl rfl ?_ | refine subE.cons' rfl (fun _ => rfl) ?_)
      · repeat (first | exact subM.nil _ | refine subM.cons rfl rfl rfl ?_)
      · repeat (first | exact subB.nil _ | refine subB.cons rfl ?_)
      · repeat (first | exact subR.nil _ | refine subR.cons rfl rfl ?_)
      intro k hk ih
      by_cases hlt : k < L.length
      · have hlt' : k < L'.length := by omega
        obtain ⟨b1, b2⟩ := hbd k hlt
        have hxo := hat k hlt hlt'
        have s1 := rdAll_sees1 (List.getElem_mem hlt)
        have s2 := rdAll_sees2 (List.getElem_mem hlt)
        have s3 := rdAll_sees1 (List.getElem_mem hlt')
        have s4 := rdAll_sees2 (List.getElem_mem hlt')
        have hS := same_ok (rdAll L) (rdAll L) (rdAll L') (rdAll L') L[k].o L'[k].o L[k].A L[k].B L'[k].A L'[k].B L[k].c L[k].d L'[k].c L'[k].d s1 s2 s3 s4 (by omega) (by omega)
        rw [decide_eq_true hxo.symm] at hS
        refine Nx.also 4 14 (rdAll L) rfl (fun _ _ h => h) ?_
        refine Nx.also 6 16 (rdAll L') rfl (fun _ _ h => h) ?_
        repeat' (first
          | ((with_reducible refine atBr ?_); refine BrM.yes (by omega) ?_; conv => whnf)
          | ((with_reducible refine atAr ?_); refine Ar.to (k := .i64) (((k+1:Nat):Int)) (by omega) ⟨by omega, by omega⟩ ?_; conv => whnf)
          | ((with_reducible refine atBr ?_); (first | refine BrM.t rfl ?_ | refine BrM.f rfl ?_ | refine BrM.dec (fun _ => ?_) (fun _ => ?_) | refine BrM.mk (fun _ => ?_) (fun _ => ?_)) <;> conv => whnf)
          | ((with_reducible refine atAr ?_); refine Ar.i64 (by omega) (by omega) ?_; conv => whnf)
          | ((with_reducible refine atDrawn ?_); refine Nx.drawn0 [3,5] [.pure 0, .pure 1, .pure 2, .held 3, .pure 4, .pure 5, .pure 6, .held 7, .ex 8 true, .pure 9] rfl (by kernel_rfl) rfl (by kernel_rfl) rfl (by repeat (first | exact subB.nil _ | refine subB.cons rfl ?_)) rfl ?_)
          | ((with_reducible refine atHoIdx ?_); refine Nx.hoIdx 3 rfl rfl rfl Tryz.underlying60 rfl rfl rfl enc_len (ownS_sees 37 A L.length c 10 (L.flatMap LnS.enc)) rfl rfl (by omega) fun _ _ _ => ?_)
          | ((with_reducible refine atHoIdx ?_); refine Nx.hoIdx 5 rfl rfl rfl Tryz.underlying63 rfl rfl rfl enc_len (ownS_sees 44 A' L'.length c' 10 (L'.flatMap LnS.enc)) rfl rfl (by omega) fun _ _ _ => ?_)
          | ((with_reducible refine atHoLoad ?_); first | (refine Nx.hoLoad1 rfl rfl rfl rfl List.mem_cons_self (SeesAt.sub (by assumption) _ rfl) rfl ?_) | (refine Nx.hoLoad1 rfl rfl rfl rfl List.mem_cons_self (by assumption) rfl ?_) | (refine Nx.hoLoad rfl rfl rfl rfl List.mem_cons_self (by assumption) rfl rfl ?_) | (refine Nx.hoLoad1 rfl rfl rfl rfl (List.mem_cons_of_mem _ List.mem_cons_self) (SeesAt.sub (by assumption) _ rfl) rfl ?_) | (refine Nx.hoLoad1 rfl rfl rfl rfl (List.mem_cons_of_mem _ List.mem_cons_self) (by assumption) rfl ?_) | (refine Nx.hoLoad rfl rfl rfl rfl (List.mem_cons_of_mem _ List.mem_cons_self) (by assumption) rfl rfl ?_) | (refine Nx.hoLoad1 rfl rfl rfl rfl (List.mem_cons_of_mem _ (List.mem_cons_of_mem _ List.mem_cons_self)) (SeesAt.sub (by assumption) _ rfl) rfl ?_) | (refine Nx.hoLoad1 rfl rfl rfl rfl (List.mem_cons_of_mem _ (List.mem_cons_of_mem _ List.mem_cons_self)) (by assumption) rfl ?_) | (refine Nx.hoLoad rfl rfl rfl rfl (List.mem_cons_of_mem _ (List.mem_cons_of_mem _ List.mem_cons_self)) (by assumption) rfl rfl ?_) | (refine Nx.hoLoad1 rfl rfl rfl rfl (List.mem_cons_of_mem _ (List.mem_cons_of_mem _ (List.mem_cons_of_mem _ List.mem_cons_self))) (SeesAt.sub (by assumption) _ rfl) rfl ?_) | (refine Nx.hoLoad1 rfl rfl rfl rfl (List.mem_cons_of_mem _ (List.mem_cons_of_mem _ (List.mem_cons_of_mem _ List.mem_cons_self))) (by assumption) rfl ?_) | (refine Nx.hoLoad rfl rfl rfl rfl (List.mem_cons_of_mem _ (List.mem_cons_of_mem _ (List.mem_cons_of_mem _ List.mem_cons_self))) (by assumption) rfl rfl ?_))
          | ((with_reducible refine (atCall 17) ?_); refine Nx.call [4,14,6,16] [4,14,6,16] rfl rfl rfl rfl rfl (hS) rfl fun v Q hQ => ?_; obtain ⟨rfl, rfl⟩ := hQ)
          | ((with_reducible refine atAftK ?_); refine Nx.keepN [3,5] rfl (by repeat (first | exact subB.nil _ | refine subB.cons rfl ?_)) (by repeat (first | exact subM.nil _ | refine subM.cons rfl rfl rfl ?_)) rfl ?_)
          | ((with_reducible refine atIn ?_); refine Nx.weak ((ih (k + 1) hlt (by omega))) ?_ ?_ ?_ ?_ <;> (first | exact subM.nil _ | exact subB.nil _ | exact subR.nil _ | ((repeat (first | exact subE.nil _ | refine subE.cons rfl rfl ?_ | refine subE.cons' rfl (fun _ => rfl) ?_ | (refine subE.cons rfl ?_ ?_; · (simp; done)))); done) | ((repeat (first | exact subM.nil _ | refine subM.cons rfl rfl rfl ?_)); done) | ((repeat (first | exact subB.nil _ | refine subB.cons rfl ?_)); done) | ((repeat (first | exact subR.nil _ | refine subR.cons rfl rfl ?_)); done) | omega | (dsimp only; omega) | (skip) | skip))
          | ((with_reducible refine atOps ?_); refine go 200 ?_; conv => whnf)
          | ((with_reducible refine atPlan ?_); refine Nx.runP (n := 200) rfl (by repeat (first | exact subB.nil _ | refine subB.cons rfl ?_)) ?_; conv => whnf)
          | ((with_reducible refine atAftL ?_); refine Nx.late ?_)
          | ((fail_if_success (with_reducible refine atRet ?_)); (fail_if_success (with_reducible refine atLoop ?_)); (fail_if_success (with_reducible refine atIn ?_)); (fail_if_success (with_reducible refine atDrawn ?_)); (fail_if_success (with_reducible refine atEnd ?_)); (with_reducible refine atRun ?_); refine go 200 ?_; conv => whnf))
      · clear ih
        repeat' (first
          | ((with_reducible refine atBr ?_); refine BrM.not (by omega) ?_; conv => whnf)
          | ((with_reducible refine atBr ?_); (first | refine BrM.t rfl ?_ | refine BrM.f rfl ?_ | refine BrM.dec (fun _ => ?_) (fun _ => ?_) | refine BrM.mk (fun _ => ?_) (fun _ => ?_)) <;> conv => whnf)
          | ((with_reducible refine atAr ?_); refine Ar.i64 (by omega) (by omega) ?_; conv => whnf)
          | ((with_reducible refine (atCall 10) ?_); refine Nx.call [0] [0] rfl rfl rfl rfl rfl ((awake_ok hG)) rfl fun v Q hQ => ?_; obtain ⟨rfl, rfl⟩ := hQ)
          | ((with_reducible refine atRet ?_); refine Nx.ret [0] Tryz.func6 rfl rfl ?_; (exact ⟨rfl, rfl⟩))
          | ((with_reducible refine atOps ?_); refine go 200 ?_; conv => whnf)
          | ((with_reducible refine atPlan ?_); refine Nx.runP (n := 200) rfl (by repeat (first | exact subB.nil _ | refine subB.cons rfl ?_)) ?_; conv => whnf)
          | ((with_reducible refine atAftL ?_); refine Nx.late ?_)
          | ((fail_if_success (with_reducible refine atRet ?_)); (fail_if_success (with_reducible refine atLoop ?_)); (fail_if_success (with_reducible refine atIn ?_)); (fail_if_success (with_reducible refine atDrawn ?_)); (fail_if_success (with_reducible refine atEnd ?_)); (with_reducible refine atRun ?_); refine go 200 ?_; conv => whnf))
end Go.Proofs.YtkfnbpbhcnekiaaGreatDoor

/- ScriptLines: the statement's tied card holds: for every text the law returns true, where the listed package-level variables hold what the program's text lays. -/
namespace Go.Proofs.YtkfnbpbhcnekiaaGreatDoor
open Go.ChangeShapes Go.WideShapes Go.ChangeAt Go.RowKit

set_option maxRecDepth 100000 in
theorem scriptLines_lifted (os : Os) (started : os.Started) (H : Type) (enc : TypeId × Value → H) :
    ReturnsInHanded {} Tryz.checked os 6 .any (fun w args => (Rows.scriptLinesSpec.pre enc Tryz.prog Tryz.f6 [] false w args ∧ laidMetH Tryz.prog Rows.scriptLinesRow.laid w) ∧ sizedMet enc Tryz.prog Tryz.f6 (OpenSpec.ofChange Rows.scriptLinesSpec) false w args)
      (Rows.scriptLinesSpec.post enc Tryz.prog Tryz.f6 false true false false) := by
  refine law_laid (C := Tryz.checked) (tb := 4) laid0 rfl rfl Tryz.underlying4 ?_ (by kernel_rfl) own0 started (by kernel_rfl) Tryz.func6
    (ChangeSpec.witness_shaped (enc := enc) (C := Tryz.checked) (os := os) (X := fun w _ => laidMetH Tryz.prog Rows.scriptLinesRow.laid w) false (World.laidAll Tryz.prog os Rows.scriptLinesRow.laid) #[.string ⟨#[]⟩] 8 (World.laidAll_os _ _ _)
      (World.shaped_of_ZipB (by kernel_rfl) (by kernel_rfl)) (by kernel_rfl) (by kernel_rfl) (by kernel_rfl)
      (by rw [MakeChecks.laidMetH_plain _ _ _ (by kernel_rfl)]; exact laidMet_laidAll _ (by kernel_rfl) (by kernel_rfl))) ?_
  · intro ds hl
    match ds, hl with
    | [d1], _ => exact ⟨rfl, rfl, rfl⟩
  intro W base args ds ps hval hA _ hsh hL
  rw [MakeChecks.laidMetH_plain _ _ _ (by kernel_rfl)] at hL
  rw [Tryz.params6] at hval hA
  rw [chk0] at hval hA hsh hL
  have hG : Glo (hw W) := glo_of hsh fun x hx => Lib.laidMet.reads hL (by
    simp only [laidL, List.mem_cons, List.not_mem_nil, or_false] at hx
    rcases hx with rfl | rfl | rfl | rfl | rfl | rfl <;> simp [Rows.scriptLinesRow])
  obtain ⟨v0, r0, d0, e_0, p0, q0, rfl, rfl, rfl, h0, hA⟩ := trodAll_cons hA
  obtain ⟨rfl, rfl, rfl⟩ := trodAll_nil hA
  obtain ⟨s0, rfl⟩ := open_str (hval 0 9 v0 rfl rfl) h0
  exact (Lines_ok hG s0).law fun v Q h => h.1

theorem scriptLines_holds : Rows.ScriptLinesSaid :=
  OpenClaim.holds_of_wide 6 Tryz.f6 rfl rfl rfl rfl rfl rfl rfl ⟨rfl, rfl, rfl, rfl, rfl⟩ rfl rfl rfl rfl rfl (by kernel_rfl) Tryz.func6 (by kernel_rfl)
    (of_decide_eq_true (by kernel_rfl)) (by unfold Func.isWrapper; first | (rw [if_pos (by decide +kernel)]; kernel_rfl) | (rw [if_neg (by decide +kernel)]; exact ⟨rfl, rfl⟩))
    (fun os started H enc _ => scriptLines_lifted os started H enc)

theorem scriptLines_card : Rows.ScriptLinesCardSaid :=
  Claim7.holds_tied_plain_at .later [] [.data, .data, .data, .data, .sentinel, .sentinel, .data, .data, .data, .pinned] true Rows.scriptLinesCard.stood.harness true
    scriptLines_holds (fun _ h => by cases h) (by kernel_rfl) (fun _ h => by cases h) scriptLines_row_tie rfl ⟨rfl, rfl⟩ (by kernel_rfl) rfl
    (fun f fn hf hfn => by
      obtain rfl : f = 6 := Option.some.inj ((show Tryz.prog.funcNamed "noria/norialaw25.ScriptLines" = some 6 by kernel_rfl).symm.trans hf) |>.symm
      obtain rfl : fn = Tryz.f6 := (Option.some.inj (Tryz.func6.symm.trans hfn)).symm
      exact ⟨by kernel_rfl, fun j t ht => by
        rw [Tryz.params6] at ht
        have hm : t ∈ [9] := by simpa using Array.mem_of_getElem? ht
        have hall : ([9].all fun u => !Tryz.prog.wantsStandIn u) = true := by kernel_rfl
        exact (show Tryz.prog.wantsStandIn t = false by simpa using List.all_eq_true.1 hall t hm)⟩)
    (by kernel_rfl)
end Go.Proofs.YtkfnbpbhcnekiaaGreatDoor
