/- The lines that bytes tell: the program's. -/
import Derived.Test.YtkfnbpbhcnekiaaGreatDoorMe
import Derived.Laws.Shifts
import Derived.Laws.Entries
set_option linter.unusedSimpArgs false
set_option linter.unusedVariables false
/- ScriptLines, walked. -/
namespace Go.Proofs.YtkfnbpbhcnekiaaGreatDoor
open Go.RowKit Go.Lib
set_option maxRecDepth 20000
set_option maxHeartbeats 4000000

/-- Is a line none? -/
def skipA (w : Str) : Prop := w = [] ∨ w[0]? = some 35
instance (w : Str) : Decidable (skipA w) := inferInstanceAs (Decidable (w = [] ∨ w[0]? = some 35))
/-- The lines of a text's lines, from the i-th on, or which of them can't be read, and why. -/
def readA : List Str → Nat → Except (Nat × Int) (List Ln)
  | [], _ => .ok []
  | w :: ws, i => if skipA w then readA ws (i + 1) else match parseA w with
    | .error e => .error (i + 1, e)
    | .ok o => match readA ws (i + 1) with
      | .error x => .error x
      | .ok l => .ok (o :: l)
/-- A line with its slices. -/
structure LnS where
  o : Ln
  A : Option Addr
  c : Nat
  B : Option Addr
  d : Nat
abbrev LnS.enc (x : LnS) : List Value := lnC x.o x.A x.c x.B x.d
theorem enc_len (x : LnS) : x.enc.length = 10 := rfl
def LnS.rd (m : PH) (x : LnS) : Prop := Rd m x.A x.o.after.length 1 (intsV x.o.after) ∧ Rd m x.B x.o.evs.length 2 (evsV x.o.evs)
/-- The slices of some lines can be read, for good. -/
def rdAll (L : List LnS) : SP := fun r _ => ∀ x ∈ L, x.rd r
theorem rdAll_more {L : List LnS} {x : LnS} : ∀ r h, Sat [rdAll L, rdS x.A x.o.after.length 1 (intsV x.o.after), rdS x.B x.o.evs.length 2 (evsV x.o.evs)] r h → Sat [rdAll (L ++ [x])] r h := by
  rintro r h ⟨r1, h1, h2, a1, a2, a3, a4, a5, r2, k1, k2, b1, b2, b3, b4, b5, r3, l1, l2, c1, c2, c3, c4, c5, _⟩
  refine ⟨r, h, PH.em, PH.le_refl _, PH.le_refl _, PH.em_le _, PH.dj_em _, fun y hy => ?_, trivial⟩
  rcases List.mem_append.1 hy with hy | hy
  · obtain ⟨p, q⟩ := (show ∀ x ∈ L, x.rd r1 from a5) y hy
    exact ⟨p.mono a1, q.mono a1⟩
  · rw [List.mem_singleton] at hy
    subst hy
    exact ⟨(show Rd r2 _ _ _ _ from b5).mono b1, (show Rd r3 _ _ _ _ from c5).mono c1⟩
theorem rdAll_nil (r h : PH) : rdAll [] r h := fun x hx => by cases hx
theorem rdAll_sees1 {L : List LnS} {x : LnS} (hx : x ∈ L) : Sees (rdAll L) x.A x.o.after.length 1 (intsV x.o.after) := fun r h d hs => ((show ∀ x ∈ L, x.rd r from hs) x hx).1.mono (PH.le_un_left _ _)
theorem rdAll_sees2 {L : List LnS} {x : LnS} (hx : x ∈ L) : Sees (rdAll L) x.B x.o.evs.length 2 (evsV x.o.evs) := fun r h d hs => ((show ∀ x ∈ L, x.rd r from hs) x hx).2.mono (PH.le_un_left _ _)
attribute [local irreducible] Nx Ar BrM

structure RlX where
  i : Nat
  L : List LnS
  A : Option Addr
  c : Nat
structure RlI (ws : List Str) (r : Except (Nat × Int) (List Ln)) (x : RlX) : Prop where
  i : x.i ≤ ws.length
  n : x.L.length ≤ x.i
  e : r = match readA (ws.drop x.i) x.i with | .error e => .error e | .ok l => .ok (x.L.map (·.o) ++ l)
theorem RlI.skip {ws : List Str} {r : Except (Nat × Int) (List Ln)} {x : RlX} (h : RlI ws r x) (hi : x.i < ws.length) (hs : skipA ws[x.i]) : RlI ws r ⟨x.i + 1, x.L, x.A, x.c⟩ := by
  refine ⟨hi, Nat.le_trans h.n (Nat.le_succ _), ?_⟩
  rw [h.e, List.drop_eq_getElem_cons hi, readA, if_pos hs]
theorem RlI.bad {ws : List Str} {r : Except (Nat × Int) (List Ln)} {x : RlX} (h : RlI ws r x) (hi : x.i < ws.length) (hs : ¬ skipA ws[x.i]) {e : Int} (he : parseA ws[x.i] = .error e) : r = .error (x.i + 1, e) := by
  rw [h.e, List.drop_eq_getElem_cons hi, readA, if_neg hs, he]
theorem RlI.more {ws : List Str} {r : Except (Nat × Int) (List Ln)} {x : RlX} (h : RlI ws r x) (hi : x.i < ws.length) (hs : ¬ skipA ws[x.i]) {y : LnS} (he : parseA ws[x.i] = .ok y.o) (A : Option Addr) (c : Nat) : RlI ws r ⟨x.i + 1, x.L ++ [y], A, c⟩ := by
  have := h.n
  refine ⟨hi, by simp; omega, ?_⟩
  rw [h.e, List.drop_eq_getElem_cons hi, readA, if_neg hs, he]
  simp only
  cases readA (ws.drop (x.i + 1)) (x.i + 1) with
  | error e => rfl
  | ok l => simp
theorem RlI.fin {ws : List Str} {r : Except (Nat × Int) (List Ln)} {x : RlX} (h : RlI ws r x) (hi : ¬ x.i < ws.length) : r = .ok (x.L.map (·.o)) := by
  rw [h.e, List.drop_eq_nil_of_le (by omega), readA]
  simp
def RlPost (m : PH) (r : Except (Nat × Int) (List Ln)) (v : Value) (Q : List SP) : Prop :=
  match r with
  | .ok l => ∃ (L : List LnS) (A : Option Addr) (c : Nat), L.map (·.o) = l ∧ v = .tuple #[.slice A L.length c, .int .i64 0, .nilIface] ∧ Q = [roAll m, ownS 37 A L.length c 10 (L.flatMap LnS.enc), rdAll L]
  | .error e => ∃ b q, v = .tuple #[.slice none 0 0, .int .i64 e.1, .iface 114 (.pointer (some ⟨b, 0, none⟩))] ∧ Q = [roAll m, errB b q e.2]
theorem pre35 (w : Str) : hasPrefix w [35] = decide (w[0]? = some 35) := by
  cases w with
  | nil => rfl
  | cons x r =>
    have e : hasPrefix (x :: r) [35] = ((35 : UInt8) == x) := by show ((35 : UInt8) == x && true) = _; rw [Bool.and_true]
    rw [e]
    by_cases h : x = 35
    · subst h; rfl
    · rw [beq_eq_false_iff_ne.2 (fun e => h e.symm), decide_eq_false (by simpa using h)]
theorem lines_snoc (L : List LnS) (x : LnS) : (L ++ [x]).flatMap LnS.enc = L.flatMap LnS.enc ++ x.enc := by simp
theorem ReadP_ok {m : PH} (hG : Glo m) (s : Str) (hs : s.length ≤ 500000) : FnOk Tryz.prog 23 [str s] [roAll m] (RlPost m (readA (splitC 10 s) 0)) := by
  have hl1 := split_le 10 s
  have hl2 := split_each 10 s
  obtain ⟨r, hr⟩ : ∃ r, r = readA (splitC 10 s) 0 := ⟨_, rfl⟩
  have hSp := Split_ok hG s 10 (by omega)
  rw [← hr]
  generalize splitC 10 s = ws at *
  refine FnOk.start Tryz.func23 rfl rfl rfl rfl fun F os tape output => ?_
  refine go 200 ?_
  conv => whnf
  refine Nx.call [0] [0,3] rfl rfl rfl rfl rfl (hSp) rfl fun v Q hQ => ?_
  obtain ⟨b0, rfl, rfl⟩ := hQ
  refine Nx.share 3 (rdS (some ⟨b0, 0, none⟩) ws.length 1 (strs ws)) rfl own_share ?_
  have hsee : Sees (rdS (some ⟨b0, 0, none⟩) ws.length 1 (strs ws)) (some ⟨b0, 0, none⟩) ws.length 1 (ws.flatMap fun w => [str w]) := by rw [strs_flat]; exact rdS_sees _ _ _ _
  refine Nx.give 5 (ownS 37 none 0 0 10 []) (own_nil _ _ _ _) ?_
  refine Nx.give 6 (rdAll []) (rdAll_nil _ _) ?_
  repeat' (first
    | ((with_reducible refine atBr ?_); (first | refine BrM.t rfl ?_ | refine BrM.f rfl ?_ | refine BrM.dec (fun _ => ?_) (fun _ => ?_) | refine BrM.mk (fun _ => ?_) (fun _ => ?_)) <;> conv => whnf)
    | ((with_reducible refine atAr ?_); refine Ar.i64 (by omega) (by omega) ?_; conv => whnf)
    | (fail)
    | ((with_reducible refine atOps ?_); refine go 200 ?_; conv => whnf)
    | ((with_reducible refine atPlan ?_); refine Nx.runP (n := 200) rfl (by repeat (first | exact subB.nil _ | refine subB.cons rfl ?_)) ?_; conv => whnf)
    | ((with_reducible refine atAftL ?_); refine Nx.late ?_)
    | ((fail_if_success (with_reducible refine atRet ?_)); (fail_if_success (with_reducible refine atLoop ?_)); (fail_if_success (with_reducible refine atIn ?_)); (fail_if_success (with_reducible refine atDrawn ?_)); (fail_if_success (with_reducible refine atEnd ?_)); (with_reducible refine atRun ?_); refine go 200 ?_; conv => whnf))
  refine Nx.loop (X := RlX) (RlI ws r) (fun x => ws.length - x.i)
    (fun x => [(5, sl x.A x.L.length x.c), (11, sl (some ⟨b0, 0, none⟩) ws.length ws.length), (12, iv ws.length), (13, iv x.i)]) (fun _ => []) [] (fun x => [(0, roAll m), (3, rdS (some ⟨b0, 0, none⟩) ws.length 1 (strs ws)), (5, ownS 37 x.A x.L.length x.c 10 (x.L.flatMap LnS.enc)), (6, rdAll x.L)]) ⟨0, [], none, 0⟩ ⟨Nat.zero_le _, Nat.le_refl _, by rw [hr, List.drop_zero]; cases readA ws 0 <;> simp⟩ ?_ ?_ ?_ ?_ ?_
  · repeat (first | exact subE.nil _ | refine subE.cons rfl rfl ?_ | refine subE.cons' rfl (fun _ => rfl) ?_)
  · repeat (first | exact subM.nil _ | refine subM.cons rfl rfl rfl ?_)
  · repeat (first | exact subB.nil _ | refine subB.cons rfl ?_)
  · repeat (first | exact subR.nil _ | refine subR.cons rfl rfl ?_)
  intro x hx ih
  have hi := hx.i
  have hn := hx.n
  by_cases hlt : x.i < ws.length
  · have hmu : ws.length - (x.i + 1) < ws.length - x.i := by omega
    have hwl := hl2 _ (List.getElem_mem hlt)
    by_cases hsk : skipA ws[x.i]
    · have nx := hx.skip hlt hsk
      by_cases h0 : ws[x.i] = []
      · repeat' (first
          | ((with_reducible refine atBr ?_); refine BrM.yes (by omega) ?_; conv => whnf)
          | ((with_reducible refine atBr ?_); refine BrM.yes (tl_eq h0) ?_; conv => whnf)
          | ((with_reducible refine atAr ?_); refine Ar.to (k := .i64) (((x.i+1:Nat):Int)) (by omega) ⟨by omega, by omega⟩ ?_; conv => whnf)
          | ((with_reducible refine atBr ?_); (first | refine BrM.t rfl ?_ | refine BrM.f rfl ?_ | refine BrM.dec (fun _ => ?_) (fun _ => ?_) | refine BrM.mk (fun _ => ?_) (fun _ => ?_)) <;> conv => whnf)
          | ((with_reducible refine atAr ?_); refine Ar.i64 (by omega) (by omega) ?_; conv => whnf)
          | ((with_reducible refine atIdx ?_); refine Nx.idx 3 rfl rfl rfl Tryz.underlying56 rfl rfl rfl one_len hsee rfl rfl (by omega) fun _ _ _ => ?_)
          | ((with_reducible refine atLoad ?_); first | (refine Nx.load1 3 rfl rfl rfl rfl (SeesAt.sub (by assumption) _ rfl) rfl ?_) | (refine Nx.load1 3 rfl rfl rfl rfl (by assumption) rfl ?_) | (refine Nx.load 3 rfl rfl rfl rfl (by assumption) rfl rfl ?_))
          | ((with_reducible refine atIn ?_); refine Nx.weak ((ih _ nx hmu)) ?_ ?_ ?_ ?_ <;> (first | exact subM.nil _ | exact subB.nil _ | exact subR.nil _ | ((repeat (first | exact subE.nil _ | refine subE.cons rfl rfl ?_ | refine subE.cons' rfl (fun _ => rfl) ?_ | (refine subE.cons rfl ?_ ?_; · (simp; done)))); done) | ((repeat (first | exact subM.nil _ | refine subM.cons rfl rfl rfl ?_)); done) | ((repeat (first | exact subB.nil _ | refine subB.cons rfl ?_)); done) | ((repeat (first | exact subR.nil _ | refine subR.cons rfl rfl ?_)); done) | omega | (dsimp only; omega) | (skip) | skip))
          | ((with_reducible refine atOps ?_); refine go 200 ?_; conv => whnf)
          | ((with_reducible refine atPlan ?_); refine Nx.runP (n := 200) rfl (by repeat (first | exact subB.nil _ | refine subB.cons rfl ?_)) ?_; conv => whnf)
          | ((with_reducible refine atAftL ?_); refine Nx.late ?_)
          | ((fail_if_success (with_reducible refine atRet ?_)); (fail_if_success (with_reducible refine atLoop ?_)); (fail_if_success (with_reducible refine atIn ?_)); (fail_if_success (with_reducible refine atDrawn ?_)); (fail_if_success (with_reducible refine atEnd ?_)); (with_reducible refine atRun ?_); refine go 200 ?_; conv => whnf))
      · have hP := HasPrefix_ok (m := m) ws[x.i] [35]
        have h35 : ws[x.i][0]? = some 35 := hsk.resolve_left h0
        rw [pre35, decide_eq_true h35] at hP
        repeat' (first
          | ((with_reducible refine atBr ?_); refine BrM.yes (by omega) ?_; conv => whnf)
          | ((with_reducible refine atBr ?_); refine BrM.not (fun h => h0 (toList_eq h)) ?_; conv => whnf)
          | ((with_reducible refine atAr ?_); refine Ar.to (k := .i64) (((x.i+1:Nat):Int)) (by omega) ⟨by omega, by omega⟩ ?_; conv => whnf)
          | ((with_reducible refine atBr ?_); (first | refine BrM.t rfl ?_ | refine BrM.f rfl ?_ | refine BrM.dec (fun _ => ?_) (fun _ => ?_) | refine BrM.mk (fun _ => ?_) (fun _ => ?_)) <;> conv => whnf)
          | ((with_reducible refine atAr ?_); refine Ar.i64 (by omega) (by omega) ?_; conv => whnf)
          | ((with_reducible refine atIdx ?_); refine Nx.idx 3 rfl rfl rfl Tryz.underlying56 rfl rfl rfl one_len hsee rfl rfl (by omega) fun _ _ _ => ?_)
          | ((with_reducible refine atLoad ?_); first | (refine Nx.load1 3 rfl rfl rfl rfl (SeesAt.sub (by assumption) _ rfl) rfl ?_) | (refine Nx.load1 3 rfl rfl rfl rfl (by assumption) rfl ?_) | (refine Nx.load 3 rfl rfl rfl rfl (by assumption) rfl rfl ?_))
          | ((with_reducible refine (atCall 51) ?_); refine Nx.call [0] [0] rfl rfl rfl rfl rfl (hP) rfl fun v Q hQ => ?_; obtain ⟨rfl, rfl⟩ := hQ)
          | ((with_reducible refine atIn ?_); refine Nx.weak ((ih _ nx hmu)) ?_ ?_ ?_ ?_ <;> (first | exact subM.nil _ | exact subB.nil _ | exact subR.nil _ | ((repeat (first | exact subE.nil _ | refine subE.cons rfl rfl ?_ | refine subE.cons' rfl (fun _ => rfl) ?_ | (refine subE.cons rfl ?_ ?_; · (simp; done)))); done) | ((repeat (first | exact subM.nil _ | refine subM.cons rfl rfl rfl ?_)); done) | ((repeat (first | exact subB.nil _ | refine subB.cons rfl ?_)); done) | ((repeat (first | exact subR.nil _ | refine subR.cons rfl rfl ?_)); done) | omega | (dsimp only; omega) | (skip) | skip))
          | ((with_reducible refine atOps ?_); refine go 200 ?_; conv => whnf)
          | ((with_reducible refine atPlan ?_); refine Nx.runP (n := 200) rfl (by repeat (first | exact subB.nil _ | refine subB.cons rfl ?_)) ?_; conv => whnf)
          | ((with_reducible refine atAftL ?_); refine Nx.late ?_)
          | ((fail_if_success (with_reducible refine atRet ?_)); (fail_if_success (with_reducible refine atLoop ?_)); (fail_if_success (with_reducible refine atIn ?_)); (fail_if_success (with_reducible refine atDrawn ?_)); (fail_if_success (with_reducible refine atEnd ?_)); (with_reducible refine atRun ?_); refine go 200 ?_; conv => whnf))
    · have h0 : ¬ ws[x.i] = [] := fun h => hsk (.inl h)
      have hP := HasPrefix_ok (m := m) ws[x.i] [35]
      rw [pre35, decide_eq_false (fun h => hsk (.inr h))] at hP
      have hPa := Parse_ok hG ws[x.i] (by omega)
      cases hp : parseA ws[x.i] with
      | error e =>
        have hb := hx.bad hlt hsk hp
        rw [hp] at hPa
        repeat' (first
          | ((with_reducible refine atBr ?_); refine BrM.yes (by omega) ?_; conv => whnf)
          | ((with_reducible refine atBr ?_); refine BrM.not (fun h => h0 (toList_eq h)) ?_; conv => whnf)
          | ((with_reducible refine atBr ?_); (first | refine BrM.t rfl ?_ | refine BrM.f rfl ?_ | refine BrM.dec (fun _ => ?_) (fun _ => ?_) | refine BrM.mk (fun _ => ?_) (fun _ => ?_)) <;> conv => whnf)
          | ((with_reducible refine atAr ?_); refine Ar.i64 (by omega) (by omega) ?_; conv => whnf)
          | ((with_reducible refine atIdx ?_); refine Nx.idx 3 rfl rfl rfl Tryz.underlying56 rfl rfl rfl one_len hsee rfl rfl (by omega) fun _ _ _ => ?_)
          | ((with_reducible refine atLoad ?_); first | (refine Nx.load1 3 rfl rfl rfl rfl (SeesAt.sub (by assumption) _ rfl) rfl ?_) | (refine Nx.load1 3 rfl rfl rfl rfl (by assumption) rfl ?_) | (refine Nx.load 3 rfl rfl rfl rfl (by assumption) rfl rfl ?_))
          | ((with_reducible refine (atCall 51) ?_); refine Nx.call [0] [0] rfl rfl rfl rfl rfl (hP) rfl fun v Q hQ => ?_; obtain ⟨rfl, rfl⟩ := hQ)
          | ((with_reducible refine atOps ?_); refine go 200 ?_; conv => whnf)
          | ((with_reducible refine atPlan ?_); refine Nx.runP (n := 200) rfl (by repeat (first | exact subB.nil _ | refine subB.cons rfl ?_)) ?_; conv => whnf)
          | ((with_reducible refine atAftL ?_); refine Nx.late ?_)
          | ((fail_if_success (with_reducible refine atRet ?_)); (fail_if_success (with_reducible refine atLoop ?_)); (fail_if_success (with_reducible refine atIn ?_)); (fail_if_success (with_reducible refine atDrawn ?_)); (fail_if_success (with_reducible refine atEnd ?_)); (with_reducible refine atRun ?_); refine go 200 ?_; conv => whnf))
        refine Nx.call [0] [0,9] rfl rfl rfl rfl rfl (hPa) rfl fun v Q hQ => ?_
        obtain ⟨b, q, rfl, rfl⟩ := hQ
        repeat' (first
          | ((with_reducible refine atAr ?_); refine Ar.to (k := .i64) (((x.i+1:Nat):Int)) (by omega) ⟨by omega, by omega⟩ ?_; conv => whnf)
          | ((with_reducible refine atBr ?_); (first | refine BrM.t rfl ?_ | refine BrM.f rfl ?_ | refine BrM.dec (fun _ => ?_) (fun _ => ?_) | refine BrM.mk (fun _ => ?_) (fun _ => ?_)) <;> conv => whnf)
          | ((with_reducible refine atAr ?_); refine Ar.i64 (by omega) (by omega) ?_; conv => whnf)
          | ((with_reducible refine atRet ?_); refine Nx.ret [0,9] Tryz.func23 rfl rfl ?_; (rw [hb]; exact ⟨b, q, rfl, rfl⟩))
          | ((with_reducible refine atOps ?_); refine go 200 ?_; conv => whnf)
          | ((with_reducible refine atPlan ?_); refine Nx.runP (n := 200) rfl (by repeat (first | exact subB.nil _ | refine subB.cons rfl ?_)) ?_; conv => whnf)
          | ((with_reducible refine atAftL ?_); refine Nx.late ?_)
          | ((fail_if_success (with_reducible refine atRet ?_)); (fail_if_success (with_reducible refine atLoop ?_)); (fail_if_success (with_reducible refine atIn ?_)); (fail_if_success (with_reducible refine atDrawn ?_)); (fail_if_success (with_reducible refine atEnd ?_)); (with_reducible refine atRun ?_); refine go 200 ?_; conv => whnf))
      | ok o =>
        rw [hp] at hPa
        repeat' (first
          | ((with_reducible refine atBr ?_); refine BrM.yes (by omega) ?_; conv => whnf)
          | ((with_reducible refine atBr ?_); refine BrM.not (fun h => h0 (toList_eq h)) ?_; conv => whnf)
          | ((with_reducible refine atBr ?_); (first | refine BrM.t rfl ?_ | refine BrM.f rfl ?_ | refine BrM.dec (fun _ => ?_) (fun _ => ?_) | refine BrM.mk (fun _ => ?_) (fun _ => ?_)) <;> conv => whnf)
          | ((with_reducible refine atAr ?_); refine Ar.i64 (by omega) (by omega) ?_; conv => whnf)
          | ((with_reducible refine atIdx ?_); refine Nx.idx 3 rfl rfl rfl Tryz.underlying56 rfl rfl rfl one_len hsee rfl rfl (by omega) fun _ _ _ => ?_)
          | ((with_reducible refine atLoad ?_); first | (refine Nx.load1 3 rfl rfl rfl rfl (SeesAt.sub (by assumption) _ rfl) rfl ?_) | (refine Nx.load1 3 rfl rfl rfl rfl (by assumption) rfl ?_) | (refine Nx.load 3 rfl rfl rfl rfl (by assumption) rfl rfl ?_))
          | ((with_reducible refine (atCall 51) ?_); refine Nx.call [0] [0] rfl rfl rfl rfl rfl (hP) rfl fun v Q hQ => ?_; obtain ⟨rfl, rfl⟩ := hQ)
          | ((with_reducible refine atOps ?_); refine go 200 ?_; conv => whnf)
          | ((with_reducible refine atPlan ?_); refine Nx.runP (n := 200) rfl (by repeat (first | exact subB.nil _ | refine subB.cons rfl ?_)) ?_; conv => whnf)
          | ((with_reducible refine atAftL ?_); refine Nx.late ?_)
          | ((fail_if_success (with_reducible refine atRet ?_)); (fail_if_success (with_reducible refine atLoop ?_)); (fail_if_success (with_reducible refine atIn ?_)); (fail_if_success (with_reducible refine atDrawn ?_)); (fail_if_success (with_reducible refine atEnd ?_)); (with_reducible refine atRun ?_); refine go 200 ?_; conv => whnf))
        refine Nx.call [0] [0,13,14] rfl rfl rfl rfl rfl (hPa) rfl fun v Q hQ => ?_
        obtain ⟨A2, c2, B2, d2, rfl, rfl⟩ := hQ
        have nx := fun A c => hx.more (y := ⟨o, A2, c2, B2, d2⟩) hlt hsk hp A c
        refine Nx.share 13 (rdS A2 o.after.length 1 (intsV o.after)) rfl own_share ?_
        refine Nx.share 14 (rdS B2 o.evs.length 2 (evsV o.evs)) rfl own_share ?_
        refine Nx.turn [6,13,14] [6] [rdAll (x.L ++ [⟨o, A2, c2, B2, d2⟩])] rfl (rdAll_more (L := x.L) (x := ⟨o, A2, c2, B2, d2⟩)) ?_
        repeat' (first
          | ((with_reducible refine atAr ?_); refine Ar.to (k := .i64) (((x.i+1:Nat):Int)) (by omega) ⟨by omega, by omega⟩ ?_; conv => whnf)
          | ((with_reducible refine atBr ?_); (first | refine BrM.t rfl ?_ | refine BrM.f rfl ?_ | refine BrM.dec (fun _ => ?_) (fun _ => ?_) | refine BrM.mk (fun _ => ?_) (fun _ => ?_)) <;> conv => whnf)
          | ((with_reducible refine atAr ?_); refine Ar.i64 (by omega) (by omega) ?_; conv => whnf)
          | ((with_reducible refine atApp ?_); refine Nx.append 5 (sz := 10) (by_ := 112) (news := (lnC o A2 c2 B2 d2)) rfl rfl rfl rfl rfl Tryz.underlying60 rfl rfl rfl rfl rfl (by unfold maxLen; omega) (by omega) fun A' c'' => ?_)
          | ((with_reducible refine atOps ?_); refine go 200 ?_; conv => whnf)
          | ((with_reducible refine atPlan ?_); refine Nx.runP (n := 200) rfl (by repeat (first | exact subB.nil _ | refine subB.cons rfl ?_)) ?_; conv => whnf)
          | ((with_reducible refine atAftL ?_); refine Nx.late ?_)
          | ((fail_if_success (with_reducible refine atRet ?_)); (fail_if_success (with_reducible refine atLoop ?_)); (fail_if_success (with_reducible refine atIn ?_)); (fail_if_success (with_reducible refine atDrawn ?_)); (fail_if_success (with_reducible refine atEnd ?_)); (with_reducible refine atRun ?_); refine go 200 ?_; conv => whnf))
        refine (ih _ (nx A' c'') hmu).weak ?_ ?_ ?_ ?_
        · exact .cons rfl (by simp) (.cons rfl rfl (.cons rfl rfl (.cons rfl rfl (.nil _))))
        · repeat (first | exact subM.nil _ | refine subM.cons rfl rfl rfl ?_)
        · repeat (first | exact subB.nil _ | refine subB.cons rfl ?_)
        · exact .cons rfl rfl (.cons rfl rfl (.cons rfl (by simp [lines_snoc]) (.cons rfl rfl (.nil _))))
  · have hf := hx.fin hlt
    repeat' (first
      | ((with_reducible refine atBr ?_); refine BrM.not (by omega) ?_; conv => whnf)
      | ((with_reducible refine atBr ?_); (first | refine BrM.t rfl ?_ | refine BrM.f rfl ?_ | refine BrM.dec (fun _ => ?_) (fun _ => ?_) | refine BrM.mk (fun _ => ?_) (fun _ => ?_)) <;> conv => whnf)
      | ((with_reducible refine atAr ?_); refine Ar.i64 (by omega) (by omega) ?_; conv => whnf)
      | ((with_reducible refine atRet ?_); refine Nx.ret [0,5,6] Tryz.func23 rfl rfl ?_; (rw [hf]; exact ⟨x.L, x.A, x.c, rfl, rfl, rfl⟩))
      | ((with_reducible refine atOps ?_); refine go 200 ?_; conv => whnf)
      | ((with_reducible refine atPlan ?_); refine Nx.runP (n := 200) rfl (by repeat (first | exact subB.nil _ | refine subB.cons rfl ?_)) ?_; conv => whnf)
      | ((with_reducible refine atAftL ?_); refine Nx.late ?_)
      | ((fail_if_success (with_reducible refine atRet ?_)); (fail_if_success (with_reducible refine atLoop ?_)); (fail_if_success (with_reducible refine atIn ?_)); (fail_if_success (with_reducible refine atDrawn ?_)); (fail_if_success (with_reducible refine atEnd ?_)); (with_reducible refine atRun ?_); refine go 200 ?_; conv => whnf))
end Go.Proofs.YtkfnbpbhcnekiaaGreatDoor

/- The lines that bytes tell: the program's. -/
namespace Go.Proofs.YtkfnbpbhcnekiaaGreatDoor
open Go.RowKit Go.Lib
set_option maxRecDepth 20000
set_option maxHeartbeats 4000000
section
variable {g : Cx} {env : Env} {mem : Mem} {bnd : Bnd} {L : Res} {N : Act → World → Prop} {Q : Exit → Act → World → Prop}
theorem Nx.shrI {o : Oper} {t tt : TypeId} {x y : Operand} {k ky : IntKind} {i j r : Int} (ho : o.op = .binOp .shr t x y tt) (hx : ev env x = some (.c (.v (.int k i)))) (hy : ev env y = some (.c (.v (.int ky j)))) (hd : dstOk g.n o.dst = true) (hj : 0 ≤ j) (hr : i / 2 ^ min j.toNat k.bits = r)
    (hk : Nx g (putE o.dst (.c (.v (.int k r))) env) mem bnd L N) : Nx g env mem bnd L (OneC g o N Q) := by
  subst hr
  refine Nx.val (x := .c (.v (.int k _))) hd (fun β a w hr w' => ?_) hk
  have e1 : a.eval x = .int k i := hr.ev hx
  have e2 : a.eval y = .int ky j := hr.ev hy
  simp only [execOp, ho, e1, e2]
  have hg : eqGuard .shr t x y (.int k i) (.int ky j) = pure () := eqGuard_other _ _ _ _ _ _ rfl
  have hb : binOp .shr t (.int k i) (.int ky j) = Op.shift .shr k i ky j := rfl
  simp only [hg, hb, shift_shr_any k ky i j hj, Sem.run_bind, Sem.run_pure, Result.andThen_ok, SV.den, Ce.den]
theorem Nx.shlI {o : Oper} {t tt : TypeId} {x y : Operand} {k ky : IntKind} {i j r : Int} (ho : o.op = .binOp .shl t x y tt) (hx : ev env x = some (.c (.v (.int k i)))) (hy : ev env y = some (.c (.v (.int ky j)))) (hd : dstOk g.n o.dst = true) (hj : 0 ≤ j) (hr : k.wrap (i * 2 ^ min j.toNat k.bits) = r)
    (hk : Nx g (putE o.dst (.c (.v (.int k r))) env) mem bnd L N) : Nx g env mem bnd L (OneC g o N Q) := by
  subst hr
  refine Nx.val (x := .c (.v (.int k _))) hd (fun β a w hr w' => ?_) hk
  have e1 : a.eval x = .int k i := hr.ev hx
  have e2 : a.eval y = .int ky j := hr.ev hy
  simp only [execOp, ho, e1, e2]
  have hg : eqGuard .shl t x y (.int k i) (.int ky j) = pure () := eqGuard_other _ _ _ _ _ _ rfl
  have hb : binOp .shl t (.int k i) (.int ky j) = Op.shift .shl k i ky j := rfl
  simp only [hg, hb, shift_shl_any k ky i j hj, Sem.run_bind, Sem.run_pure, Result.andThen_ok, SV.den, Ce.den]
theorem Nx.and1 {o : Oper} {t tt : TypeId} {x y : Operand} {n : Nat} {i r : Int} (ho : o.op = .binOp .and t x y tt) (hx : ev env x = some (.c (.v (.int .i64 i)))) (hy : ev env y = some (.c (.v (.int .i64 1)))) (hd : dstOk g.n o.dst = true) (hi : i = n) (hn : n < 1000) (hr : ((n % 2 : Nat) : Int) = r)
    (hk : Nx g (putE o.dst (.c (.v (.int .i64 r))) env) mem bnd L N) : Nx g env mem bnd L (OneC g o N Q) := by
  subst hr hi
  refine Nx.val (x := .c (.v (.int .i64 _))) hd (fun β a w hr w' => ?_) hk
  have e1 : a.eval x = .int .i64 n := hr.ev hx
  have e2 : a.eval y = .int .i64 1 := hr.ev hy
  simp only [execOp, ho, e1, e2]
  have hg : eqGuard .and t x y (.int .i64 n) (.int .i64 1) = pure () := eqGuard_other _ _ _ _ _ _ rfl
  have hb : binOp .and t (.int .i64 n) (.int .i64 1) = pure (.int .i64 ((n % 2 : Nat) : Int)) := by
    have hv : (BitVec.ofInt 64 (n : Int) &&& BitVec.ofInt 64 1).toNat = n % 2 := by
      have e : BitVec.ofInt 64 (n : Int) = BitVec.ofNat 64 n := by simp
      have e' : BitVec.ofInt 64 1 = BitVec.ofNat 64 1 := rfl
      rw [e, e', BitVec.toNat_and, BitVec.toNat_ofNat, BitVec.toNat_ofNat, Nat.mod_eq_of_lt (by omega : n < 2 ^ 64), Nat.mod_eq_of_lt (by omega : 1 < 2 ^ 64), Nat.and_one_is_mod]
    have h0 : binOp .and t (.int .i64 n) (.int .i64 1) = pure (.int .i64 (IntKind.i64.wrap ((BitVec.ofInt 64 (n : Int) &&& BitVec.ofInt 64 1).toNat : Int))) := rfl
    rw [h0, hv, inR_wrap (k := .i64) (n := ((n % 2 : Nat) : Int)) ⟨by omega, by omega⟩]
  simp only [hg, hb, Sem.run_bind, Sem.run_pure, Result.andThen_ok, SV.den, Ce.den]
end
attribute [local irreducible] Nx Ar BrM
theorem tm (a k : Nat) : ((a : Int)).tmod (k : Int) = ((a % k : Nat) : Int) := by
  rw [Int.ofNat_tmod]
theorem td (a k : Nat) (h : a < 100000) : IntKind.i64.wrap (((a : Int)).tdiv (k : Int)) = ((a / k : Nat) : Int) := by
  have hle : a / k ≤ a := Nat.div_le_self _ _
  have e : ((a : Int)).tdiv (k : Int) = ((a / k : Nat) : Int) := (Int.ofNat_tdiv a k).symm
  rw [e]
  generalize a / k = q at hle
  exact inR_wrap (k := .i64) ⟨by omega, by omega⟩
/-- A way by its number. -/
def wayN (n : Nat) : Way := ⟨((n % 4 : Nat) : Int), if n % 4 = 1 then ((n / 4 : Nat) : Int) else 0, if n % 4 = 3 then ((n / 4 : Nat) : Int) + 1 else 0⟩
theorem ways_ok (n : Nat) (hn : n < 256) : FnOk Tryz.prog 69 [.int .i64 n] [] (fun v Q => v = wayV (wayN n) ∧ Q = []) := by
  have h4 : n % 4 = 0 ∨ n % 4 = 1 ∨ n % 4 = 2 ∨ n % 4 = 3 := by omega
  have hw : wayN n = ⟨((n % 4 : Nat) : Int), if n % 4 = 1 then ((n / 4 : Nat) : Int) else 0, if n % 4 = 3 then ((n / 4 : Nat) : Int) + 1 else 0⟩ := rfl
  by_cases h1 : n % 4 = 1
  · rw [if_pos h1, if_neg (by omega)] at hw
    rw [hw]
    refine FnOk.start Tryz.func69 rfl rfl rfl rfl fun F os tape output => ?_
    refine go 200 ?_
    conv => whnf
    repeat' (first
      | ((with_reducible refine atBr ?_); refine BrM.yes (by omega) ?_; conv => whnf)
      | ((with_reducible refine atBr ?_); refine BrM.not (by omega) ?_; conv => whnf)
      | ((with_reducible refine atBr ?_); (first | refine BrM.t rfl ?_ | refine BrM.f rfl ?_ | refine BrM.dec (fun _ => ?_) (fun _ => ?_) | refine BrM.mk (fun _ => ?_) (fun _ => ?_)) <;> conv => whnf)
      | ((with_reducible refine atAr ?_); refine Ar.i64 (by omega) (by omega) ?_; conv => whnf)
      | ((with_reducible refine atRem ?_); refine Nx.divI rfl (.inl ⟨rfl, (tm n 4)⟩) rfl rfl (by decide) rfl ?_)
      | ((with_reducible refine atQuo ?_); refine Nx.divI rfl (.inr ⟨rfl, (td n 4 (by omega))⟩) rfl rfl (by decide) rfl ?_)
      | ((with_reducible refine atRet ?_); refine Nx.ret [] Tryz.func69 rfl rfl ?_; (exact ⟨rfl, rfl⟩))
      | ((with_reducible refine atOps ?_); refine go 200 ?_; conv => whnf)
      | ((with_reducible refine atPlan ?_); refine Nx.runP (n := 200) rfl (by repeat (first | exact subB.nil _ | refine subB.cons rfl ?_)) ?_; conv => whnf)
      | ((with_reducible refine atAftL ?_); refine Nx.late ?_)
      | ((fail_if_success (with_reducible refine atRet ?_)); (fail_if_success (with_reducible refine atLoop ?_)); (fail_if_success (with_reducible refine atIn ?_)); (fail_if_success (with_reducible refine atDrawn ?_)); (fail_if_success (with_reducible refine atEnd ?_)); (with_reducible refine atRun ?_); refine go 200 ?_; conv => whnf))
  by_cases h3 : n % 4 = 3
  · rw [if_neg h1, if_pos h3] at hw
    rw [hw]
    refine FnOk.start Tryz.func69 rfl rfl rfl rfl fun F os tape output => ?_
    refine go 200 ?_
    conv => whnf
    repeat' (first
      | ((with_reducible refine atBr ?_); refine BrM.yes (by omega) ?_; conv => whnf)
      | ((with_reducible refine atBr ?_); refine BrM.not (by omega) ?_; conv => whnf)
      | ((with_reducible refine atBr ?_); (first | refine BrM.t rfl ?_ | refine BrM.f rfl ?_ | refine BrM.dec (fun _ => ?_) (fun _ => ?_) | refine BrM.mk (fun _ => ?_) (fun _ => ?_)) <;> conv => whnf)
      | ((with_reducible refine atAr ?_); refine Ar.i64 (by omega) (by omega) ?_; conv => whnf)
      | ((with_reducible refine atRem ?_); refine Nx.divI rfl (.inl ⟨rfl, (tm n 4)⟩) rfl rfl (by decide) rfl ?_)
      | ((with_reducible refine atQuo ?_); refine Nx.divI rfl (.inr ⟨rfl, (td n 4 (by omega))⟩) rfl rfl (by decide) rfl ?_)
      | ((with_reducible refine atRet ?_); refine Nx.ret [] Tryz.func69 rfl rfl ?_; (exact ⟨rfl, rfl⟩))
      | ((with_reducible refine atOps ?_); refine go 200 ?_; conv => whnf)
      | ((with_reducible refine atPlan ?_); refine Nx.runP (n := 200) rfl (by repeat (first | exact subB.nil _ | refine subB.cons rfl ?_)) ?_; conv => whnf)
      | ((with_reducible refine atAftL ?_); refine Nx.late ?_)
      | ((fail_if_success (with_reducible refine atRet ?_)); (fail_if_success (with_reducible refine atLoop ?_)); (fail_if_success (with_reducible refine atIn ?_)); (fail_if_success (with_reducible refine atDrawn ?_)); (fail_if_success (with_reducible refine atEnd ?_)); (with_reducible refine atRun ?_); refine go 200 ?_; conv => whnf))
  · rw [if_neg h1, if_neg h3] at hw
    rw [hw]
    refine FnOk.start Tryz.func69 rfl rfl rfl rfl fun F os tape output => ?_
    refine go 200 ?_
    conv => whnf
    repeat' (first
      | ((with_reducible refine atBr ?_); refine BrM.yes (by omega) ?_; conv => whnf)
      | ((with_reducible refine atBr ?_); refine BrM.not (by omega) ?_; conv => whnf)
      | ((with_reducible refine atBr ?_); (first | refine BrM.t rfl ?_ | refine BrM.f rfl ?_ | refine BrM.dec (fun _ => ?_) (fun _ => ?_) | refine BrM.mk (fun _ => ?_) (fun _ => ?_)) <;> conv => whnf)
      | ((with_reducible refine atAr ?_); refine Ar.i64 (by omega) (by omega) ?_; conv => whnf)
      | ((with_reducible refine atRem ?_); refine Nx.divI rfl (.inl ⟨rfl, (tm n 4)⟩) rfl rfl (by decide) rfl ?_)
      | ((with_reducible refine atQuo ?_); refine Nx.divI rfl (.inr ⟨rfl, (td n 4 (by omega))⟩) rfl rfl (by decide) rfl ?_)
      | ((with_reducible refine atRet ?_); refine Nx.ret [] Tryz.func69 rfl rfl ?_; (exact ⟨rfl, rfl⟩))
      | ((with_reducible refine atOps ?_); refine go 200 ?_; conv => whnf)
      | ((with_reducible refine atPlan ?_); refine Nx.runP (n := 200) rfl (by repeat (first | exact subB.nil _ | refine subB.cons rfl ?_)) ?_; conv => whnf)
      | ((with_reducible refine atAftL ?_); refine Nx.late ?_)
      | ((fail_if_success (with_reducible refine atRet ?_)); (fail_if_success (with_reducible refine atLoop ?_)); (fail_if_success (with_reducible refine atIn ?_)); (fail_if_success (with_reducible refine atDrawn ?_)); (fail_if_success (with_reducible refine atEnd ?_)); (with_reducible refine atRun ?_); refine go 200 ?_; conv => whnf))
/-- The list of one number, if there is one. -/
def oneN (n : Nat) : List Int := if n < 128 then [] else [((n % 64 : Nat) : Int)]
theorem one_ok (n : Nat) : FnOk Tryz.prog 70 [.int .i64 n] [] (fun v Q => ∃ A c, v = .slice A (oneN n).length c ∧ Q = [ownS 3 A (oneN n).length c 1 (intsV (oneN n))]) := by
  by_cases h : n < 128
  · have e : oneN n = [] := by unfold oneN; rw [if_pos h]
    rw [e]
    refine FnOk.start Tryz.func70 rfl rfl rfl rfl fun F os tape output => ?_
    refine Nx.give 3 (ownS 3 none 0 0 1 []) (own_nil _ _ _ _) ?_
    refine go 200 ?_
    conv => whnf
    repeat' (first
      | ((with_reducible refine atBr ?_); refine BrM.yes (by omega) ?_; conv => whnf)
      | ((with_reducible refine atBr ?_); (first | refine BrM.t rfl ?_ | refine BrM.f rfl ?_ | refine BrM.dec (fun _ => ?_) (fun _ => ?_) | refine BrM.mk (fun _ => ?_) (fun _ => ?_)) <;> conv => whnf)
      | ((with_reducible refine atAr ?_); refine Ar.i64 (by omega) (by omega) ?_; conv => whnf)
      | ((with_reducible refine atRet ?_); refine Nx.ret [3] Tryz.func70 rfl rfl ?_; (exact ⟨none, 0, rfl, rfl⟩))
      | ((with_reducible refine atOps ?_); refine go 200 ?_; conv => whnf)
      | ((with_reducible refine atPlan ?_); refine Nx.runP (n := 200) rfl (by repeat (first | exact subB.nil _ | refine subB.cons rfl ?_)) ?_; conv => whnf)
      | ((with_reducible refine atAftL ?_); refine Nx.late ?_)
      | ((fail_if_success (with_reducible refine atRet ?_)); (fail_if_success (with_reducible refine atLoop ?_)); (fail_if_success (with_reducible refine atIn ?_)); (fail_if_success (with_reducible refine atDrawn ?_)); (fail_if_success (with_reducible refine atEnd ?_)); (with_reducible refine atRun ?_); refine go 200 ?_; conv => whnf))
  · have e : oneN n = [((n % 64 : Nat) : Int)] := by unfold oneN; rw [if_neg h]
    rw [e]
    refine FnOk.start Tryz.func70 rfl rfl rfl rfl fun F os tape output => ?_
    refine go 200 ?_
    conv => whnf
    repeat' (first
      | ((with_reducible refine Nx.weak K ?_ ?_ ?_ ?_) <;> (first | exact subM.nil _ | exact subB.nil _ | exact subR.nil _ | ((repeat (first | exact subE.nil _ | refine subE.cons rfl rfl ?_ | refine subE.cons' rfl (fun _ => rfl) ?_ | (refine subE.cons rfl ?_ ?_; · (simp; done)))); done) | ((repeat (first | exact subM.nil _ | refine subM.cons rfl rfl rfl ?_)); done) | ((repeat (first | exact subB.nil _ | refine subB.cons rfl ?_)); done) | ((repeat (first | exact subR.nil _ | refine subR.cons rfl rfl ?_)); done) | omega | (dsimp only; omega) | skip))
      | ((with_reducible refine atBr ?_); refine BrM.not (by omega) ?_; conv => whnf)
      | ((with_reducible refine atBr ?_); (first | refine BrM.t rfl ?_ | refine BrM.f rfl ?_ | refine BrM.dec (fun _ => ?_) (fun _ => ?_) | refine BrM.mk (fun _ => ?_) (fun _ => ?_)) <;> conv => whnf)
      | ((with_reducible refine atAr ?_); refine Ar.i64 (by omega) (by omega) ?_; conv => whnf)
      | ((with_reducible refine atRem ?_); refine Nx.divI rfl (.inl ⟨rfl, (tm n 64)⟩) rfl rfl (by decide) rfl ?_)
      | ((with_reducible refine atOps ?_); refine goR 200 ?_; conv => whnf)
      | ((with_reducible refine atPlan ?_); refine Nx.runP (n := 200) rfl (by repeat (first | exact subB.nil _ | refine subB.cons rfl ?_)) ?_; conv => whnf)
      | ((with_reducible refine atAftL ?_); refine Nx.late ?_)
      | ((fail_if_success (with_reducible refine atRet ?_)); (fail_if_success (with_reducible refine atLoop ?_)); (fail_if_success (with_reducible refine atIn ?_)); (fail_if_success (with_reducible refine atDrawn ?_)); (fail_if_success (with_reducible refine atEnd ?_)); (with_reducible refine atRun ?_); refine goR 1 ?_; conv => whnf))
    refine Nx.bind (l := 7) (fun b => ?_) rfl
    refine Nx.realS 2 (l := 7) rfl rfl ?_
    refine Nx.out 7 rfl rfl rfl rfl ?_
    refine Nx.turn [7] [3] [ownS 3 (some ⟨b, 0, none⟩) 1 1 1 [.int .i64 ((n % 64 : Nat) : Int)]] rfl (fun r h hs => ?_) ?_
    · obtain ⟨r1, g1, g2, a1, a2, a3, a4, a5, a6⟩ := hs
      exact ⟨r1, g1, g2, a1, a2, a3, a4, own_blk (cells := [.int .i64 ((n % 64 : Nat) : Int)]) (by show 1 ≤ maxLen; decide) _ _ a5, a6⟩
    refine Nx.ret [3] Tryz.func70 rfl rfl ?_
    exact ⟨_, _, rfl, rfl⟩
end Go.Proofs.YtkfnbpbhcnekiaaGreatDoor

/- The lines that bytes tell: the program's. -/
namespace Go.Proofs.YtkfnbpbhcnekiaaGreatDoor
open Go.RowKit Go.Lib
attribute [local irreducible] Nx Ar BrM Int.tmod Int.tdiv
set_option maxRecDepth 20000
set_option maxHeartbeats 4000000

def fourK (c : Nat) : Nat := if c % 32 < 16 then c % 32 else 16
def bitsTo (a j : Nat) : List Int := ((List.range j).filter fun i => decide (a / 2 ^ i % 2 = 1)).map fun (i : Nat) => (i : Int)
def evsTo (d j : Nat) : List Ev := (List.range j).map fun (i : Nat) => ⟨(d : Int), (i : Int)⟩
/-- The line of four bytes. -/
def fourA (c a b d : Nat) : Ln :=
  { deed := (fourK c : Int)
    who := if 6 ≤ fourK c ∧ fourK c ≤ 14 then ((a % 64 : Nat) : Int) else 0
    ring := if fourK c = 0 then ((b % 2 : Nat) : Int) else if 1 ≤ fourK c ∧ fourK c ≤ 4 then ((a % 8 : Nat) : Int) else 0
    n := if fourK c = 0 then ((2 ^ (a % 7) : Nat) : Int) else if fourK c = 2 ∨ fourK c = 3 then 1 + ((d % 8 : Nat) : Int) else if fourK c = 8 ∨ fourK c = 10 then (b : Int) else if fourK c = 16 then (a : Int) + 256 * (b : Int) else 0
    at_ := if fourK c = 15 then (b : Int) else 0
    way := if 1 ≤ fourK c ∧ fourK c ≤ 4 then wayN b else ⟨0, 0, 0⟩
    after := if 2 ≤ fourK c ∧ fourK c ≤ 4 then oneN d else if fourK c = 5 then bitsTo a 8 else []
    evs := if fourK c = 6 ∨ fourK c = 7 then evsTo d (1 + b % 4) else [] }
def FoPost (o : Ln) (v : Value) (Q : List SP) : Prop := ∃ A c B d, v = lnV o A c B d ∧ Q = [ownS 3 A o.after.length c 1 (intsV o.after), ownS 72 B o.evs.length d 2 (evsV o.evs)]
theorem FoPost.mk {o : Ln} (A B : Option Addr) (c d : Nat) : FoPost o (lnV o A c B d) [ownS 3 A o.after.length c 1 (intsV o.after), ownS 72 B o.evs.length d 2 (evsV o.evs)] := ⟨A, c, B, d, rfl, rfl⟩
theorem bitsTo_yes {a j : Nat} (h : a / 2 ^ j % 2 = 1) : bitsTo a (j + 1) = bitsTo a j ++ [(j : Int)] := by
  unfold bitsTo; rw [List.range_succ, List.filter_append, List.map_append]; simp [h]
theorem bitsTo_no {a j : Nat} (h : ¬ a / 2 ^ j % 2 = 1) : bitsTo a (j + 1) = bitsTo a j := by
  unfold bitsTo; rw [List.range_succ, List.filter_append, List.map_append]; simp [h]
theorem bitsTo_len (a j : Nat) : (bitsTo a j).length ≤ j := by
  unfold bitsTo; rw [List.length_map]; exact Nat.le_trans (List.length_filter_le _ _) (by simp)
theorem evsTo_succ (d j : Nat) : evsTo d (j + 1) = evsTo d j ++ [⟨(d : Int), (j : Int)⟩] := by unfold evsTo; rw [List.range_succ, List.map_append]; rfl
theorem evsTo_len (d j : Nat) : (evsTo d j).length = j := by unfold evsTo; simp
theorem shl7 {q : Nat} (h : q < 7) : IntKind.i64.wrap (1 * 2 ^ min ((q : Int)).toNat IntKind.i64.bits) = ((2 ^ q : Nat) : Int) := by
  have : q = 0 ∨ q = 1 ∨ q = 2 ∨ q = 3 ∨ q = 4 ∨ q = 5 ∨ q = 6 := by omega
  rcases this with rfl | rfl | rfl | rfl | rfl | rfl | rfl <;> rfl
theorem shr8 (a : Nat) {j : Nat} (h : j < 8) : (a : Int) / 2 ^ min ((j : Int)).toNat IntKind.i64.bits = ((a / 2 ^ j : Nat) : Int) := by
  have e : min ((j : Int)).toNat IntKind.i64.bits = j := by
    have : IntKind.i64.bits = 64 := rfl
    rw [this, Int.toNat_natCast]; omega
  rw [e]; simp
theorem pow7 {q : Nat} (h : q < 7) : 2 ^ q ≤ 64 := by
  have : q = 0 ∨ q = 1 ∨ q = 2 ∨ q = 3 ∨ q = 4 ∨ q = 5 ∨ q = 6 := by omega
  rcases this with rfl | rfl | rfl | rfl | rfl | rfl | rfl <;> decide
structure BtX where
  j : Nat
  A : Option Addr
  c : Nat
theorem four_0 (c a b d : Nat) (hc : c < 256) (ha : a < 256) (hb : b < 256) (hd : d < 256) (hk : c % 32 = 0) (hK : fourK c = 0) : FnOk Tryz.prog 52 [.int .i64 c, .int .i64 a, .int .i64 b, .int .i64 d] [] (FoPost (fourA c a b d)) := by
    have b7 : a % 7 < 7 := Nat.mod_lt _ (by decide)
    have hf : fourA c a b d = ⟨0, 0, ((b % 2 : Nat) : Int), ((2 ^ (a % 7) : Nat) : Int), 0, ⟨0, 0, 0⟩, [], []⟩ := by unfold fourA; rw [hK]; rfl
    rw [hf]
    have fin := fun A B c' d' => @FoPost.mk ⟨0, 0, ((b % 2 : Nat) : Int), ((2 ^ (a % 7) : Nat) : Int), 0, ⟨0, 0, 0⟩, [], []⟩ A B c' d'
    simp only at fin
    refine FnOk.start Tryz.func52 rfl rfl rfl rfl fun F os tape output => ?_
    refine Nx.give 3 (ownS 3 none 0 0 1 []) (own_nil _ _ _ _) ?_
    refine Nx.give 4 (ownS 72 none 0 0 2 []) (own_nil _ _ _ _) ?_
    refine go 200 ?_
    conv => whnf
    repeat' (first
      | ((with_reducible refine atBr ?_); refine BrM.not (by omega) ?_; conv => whnf)
      | ((with_reducible refine atBr ?_); refine BrM.yes (by omega) ?_; conv => whnf)
      | ((with_reducible refine atBr ?_); (first | refine BrM.t rfl ?_ | refine BrM.f rfl ?_ | refine BrM.dec (fun _ => ?_) (fun _ => ?_) | refine BrM.mk (fun _ => ?_) (fun _ => ?_)) <;> conv => whnf)
      | ((with_reducible refine atAr ?_); refine Ar.i64 (by omega) (by omega) ?_; conv => whnf)
      | ((with_reducible refine atRem ?_); refine Nx.divI rfl (.inl ⟨rfl, (tm c 32)⟩) rfl rfl (by decide) rfl ?_)
      | ((with_reducible refine atRem ?_); refine Nx.divI rfl (.inl ⟨rfl, (tm a 7)⟩) rfl rfl (by decide) rfl ?_)
      | ((with_reducible refine atRem ?_); refine Nx.divI rfl (.inl ⟨rfl, (tm a 8)⟩) rfl rfl (by decide) rfl ?_)
      | ((with_reducible refine atRem ?_); refine Nx.divI rfl (.inl ⟨rfl, (tm a 64)⟩) rfl rfl (by decide) rfl ?_)
      | ((with_reducible refine atRem ?_); refine Nx.divI rfl (.inl ⟨rfl, (tm b 2)⟩) rfl rfl (by decide) rfl ?_)
      | ((with_reducible refine atRem ?_); refine Nx.divI rfl (.inl ⟨rfl, (tm b 4)⟩) rfl rfl (by decide) rfl ?_)
      | ((with_reducible refine atRem ?_); refine Nx.divI rfl (.inl ⟨rfl, (tm d 8)⟩) rfl rfl (by decide) rfl ?_)
      | ((with_reducible refine atRem ?_); refine Nx.divI rfl (.inl ⟨rfl, (tm d 64)⟩) rfl rfl (by decide) rfl ?_)
      | (refine Nx.shlI rfl rfl rfl rfl (by omega) (shl7 b7) ?_)
      | ((with_reducible refine atOps ?_); refine go 200 ?_; conv => whnf)
      | ((with_reducible refine atPlan ?_); refine Nx.runP (n := 200) rfl (by repeat (first | exact subB.nil _ | refine subB.cons rfl ?_)) ?_; conv => whnf)
      | ((with_reducible refine atAftL ?_); refine Nx.late ?_)
      | ((fail_if_success (with_reducible refine atRet ?_)); (fail_if_success (with_reducible refine atLoop ?_)); (fail_if_success (with_reducible refine atIn ?_)); (fail_if_success (with_reducible refine atDrawn ?_)); (fail_if_success (with_reducible refine atEnd ?_)); (with_reducible refine atRun ?_); refine go 200 ?_; conv => whnf))
    refine Nx.ret [3,4] Tryz.func52 rfl rfl ?_
    rw [hk]
    exact fin none none 0 0
theorem four_1 (c a b d : Nat) (hc : c < 256) (ha : a < 256) (hb : b < 256) (hd : d < 256) (hk : c % 32 = 1) (hK : fourK c = 1) : FnOk Tryz.prog 52 [.int .i64 c, .int .i64 a, .int .i64 b, .int .i64 d] [] (FoPost (fourA c a b d)) := by
    have b7 : a % 7 < 7 := Nat.mod_lt _ (by decide)
    have hf : fourA c a b d = ⟨1, 0, ((a % 8 : Nat) : Int), 0, 0, wayN b, [], []⟩ := by unfold fourA; rw [hK]; rfl
    rw [hf]
    have fin := fun A B c' d' => @FoPost.mk ⟨1, 0, ((a % 8 : Nat) : Int), 0, 0, wayN b, [], []⟩ A B c' d'
    simp only at fin
    refine FnOk.start Tryz.func52 rfl rfl rfl rfl fun F os tape output => ?_
    refine Nx.give 3 (ownS 3 none 0 0 1 []) (own_nil _ _ _ _) ?_
    refine Nx.give 4 (ownS 72 none 0 0 2 []) (own_nil _ _ _ _) ?_
    refine go 200 ?_
    conv => whnf
    repeat' (first
      | ((with_reducible refine atBr ?_); refine BrM.not (by omega) ?_; conv => whnf)
      | ((with_reducible refine atBr ?_); refine BrM.yes (by omega) ?_; conv => whnf)
      | ((with_reducible refine atBr ?_); (first | refine BrM.t rfl ?_ | refine BrM.f rfl ?_ | refine BrM.dec (fun _ => ?_) (fun _ => ?_) | refine BrM.mk (fun _ => ?_) (fun _ => ?_)) <;> conv => whnf)
      | ((with_reducible refine atAr ?_); refine Ar.i64 (by omega) (by omega) ?_; conv => whnf)
      | ((with_reducible refine atRem ?_); refine Nx.divI rfl (.inl ⟨rfl, (tm c 32)⟩) rfl rfl (by decide) rfl ?_)
      | ((with_reducible refine atRem ?_); refine Nx.divI rfl (.inl ⟨rfl, (tm a 7)⟩) rfl rfl (by decide) rfl ?_)
      | ((with_reducible refine atRem ?_); refine Nx.divI rfl (.inl ⟨rfl, (tm a 8)⟩) rfl rfl (by decide) rfl ?_)
      | ((with_reducible refine atRem ?_); refine Nx.divI rfl (.inl ⟨rfl, (tm a 64)⟩) rfl rfl (by decide) rfl ?_)
      | ((with_reducible refine atRem ?_); refine Nx.divI rfl (.inl ⟨rfl, (tm b 2)⟩) rfl rfl (by decide) rfl ?_)
      | ((with_reducible refine atRem ?_); refine Nx.divI rfl (.inl ⟨rfl, (tm b 4)⟩) rfl rfl (by decide) rfl ?_)
      | ((with_reducible refine atRem ?_); refine Nx.divI rfl (.inl ⟨rfl, (tm d 8)⟩) rfl rfl (by decide) rfl ?_)
      | ((with_reducible refine atRem ?_); refine Nx.divI rfl (.inl ⟨rfl, (tm d 64)⟩) rfl rfl (by decide) rfl ?_)
      | ((with_reducible refine (atCall 69) ?_); refine Nx.call [] [] rfl rfl rfl rfl rfl ((ways_ok b hb)) rfl fun v Q hQ => ?_; obtain ⟨rfl, rfl⟩ := hQ)
      | ((with_reducible refine atOps ?_); refine go 200 ?_; conv => whnf)
      | ((with_reducible refine atPlan ?_); refine Nx.runP (n := 200) rfl (by repeat (first | exact subB.nil _ | refine subB.cons rfl ?_)) ?_; conv => whnf)
      | ((with_reducible refine atAftL ?_); refine Nx.late ?_)
      | ((fail_if_success (with_reducible refine atRet ?_)); (fail_if_success (with_reducible refine atLoop ?_)); (fail_if_success (with_reducible refine atIn ?_)); (fail_if_success (with_reducible refine atDrawn ?_)); (fail_if_success (with_reducible refine atEnd ?_)); (with_reducible refine atRun ?_); refine go 200 ?_; conv => whnf))
    refine Nx.ret [3,4] Tryz.func52 rfl rfl ?_
    rw [hk]
    exact fin none none 0 0
theorem four_2 (c a b d : Nat) (hc : c < 256) (ha : a < 256) (hb : b < 256) (hd : d < 256) (hk : c % 32 = 2) (hK : fourK c = 2) : FnOk Tryz.prog 52 [.int .i64 c, .int .i64 a, .int .i64 b, .int .i64 d] [] (FoPost (fourA c a b d)) := by
    have b7 : a % 7 < 7 := Nat.mod_lt _ (by decide)
    have hf : fourA c a b d = ⟨2, 0, ((a % 8 : Nat) : Int), 1 + ((d % 8 : Nat) : Int), 0, wayN b, oneN d, []⟩ := by unfold fourA; rw [hK]; rfl
    rw [hf]
    have fin := fun A B c' d' => @FoPost.mk ⟨2, 0, ((a % 8 : Nat) : Int), 1 + ((d % 8 : Nat) : Int), 0, wayN b, oneN d, []⟩ A B c' d'
    simp only at fin
    refine FnOk.start Tryz.func52 rfl rfl rfl rfl fun F os tape output => ?_
    refine Nx.give 3 (ownS 3 none 0 0 1 []) (own_nil _ _ _ _) ?_
    refine Nx.give 4 (ownS 72 none 0 0 2 []) (own_nil _ _ _ _) ?_
    refine go 200 ?_
    conv => whnf
    repeat' (first
      | ((with_reducible refine atBr ?_); refine BrM.not (by omega) ?_; conv => whnf)
      | ((with_reducible refine atBr ?_); refine BrM.yes (by omega) ?_; conv => whnf)
      | ((with_reducible refine atBr ?_); (first | refine BrM.t rfl ?_ | refine BrM.f rfl ?_ | refine BrM.dec (fun _ => ?_) (fun _ => ?_) | refine BrM.mk (fun _ => ?_) (fun _ => ?_)) <;> conv => whnf)
      | ((with_reducible refine atAr ?_); refine Ar.i64 (by omega) (by omega) ?_; conv => whnf)
      | ((with_reducible refine atRem ?_); refine Nx.divI rfl (.inl ⟨rfl, (tm c 32)⟩) rfl rfl (by decide) rfl ?_)
      | ((with_reducible refine atRem ?_); refine Nx.divI rfl (.inl ⟨rfl, (tm a 7)⟩) rfl rfl (by decide) rfl ?_)
      | ((with_reducible refine atRem ?_); refine Nx.divI rfl (.inl ⟨rfl, (tm a 8)⟩) rfl rfl (by decide) rfl ?_)
      | ((with_reducible refine atRem ?_); refine Nx.divI rfl (.inl ⟨rfl, (tm a 64)⟩) rfl rfl (by decide) rfl ?_)
      | ((with_reducible refine atRem ?_); refine Nx.divI rfl (.inl ⟨rfl, (tm b 2)⟩) rfl rfl (by decide) rfl ?_)
      | ((with_reducible refine atRem ?_); refine Nx.divI rfl (.inl ⟨rfl, (tm b 4)⟩) rfl rfl (by decide) rfl ?_)
      | ((with_reducible refine atRem ?_); refine Nx.divI rfl (.inl ⟨rfl, (tm d 8)⟩) rfl rfl (by decide) rfl ?_)
      | ((with_reducible refine atRem ?_); refine Nx.divI rfl (.inl ⟨rfl, (tm d 64)⟩) rfl rfl (by decide) rfl ?_)
      | ((with_reducible refine (atCall 69) ?_); refine Nx.call [] [] rfl rfl rfl rfl rfl ((ways_ok b hb)) rfl fun v Q hQ => ?_; obtain ⟨rfl, rfl⟩ := hQ)
      | ((with_reducible refine atOps ?_); refine go 200 ?_; conv => whnf)
      | ((with_reducible refine atPlan ?_); refine Nx.runP (n := 200) rfl (by repeat (first | exact subB.nil _ | refine subB.cons rfl ?_)) ?_; conv => whnf)
      | ((with_reducible refine atAftL ?_); refine Nx.late ?_)
      | ((fail_if_success (with_reducible refine atRet ?_)); (fail_if_success (with_reducible refine atLoop ?_)); (fail_if_success (with_reducible refine atIn ?_)); (fail_if_success (with_reducible refine atDrawn ?_)); (fail_if_success (with_reducible refine atEnd ?_)); (with_reducible refine atRun ?_); refine go 200 ?_; conv => whnf))
    refine Nx.call [] [13] rfl rfl rfl rfl rfl (one_ok d) rfl fun v Q hQ => ?_
    obtain ⟨A1, c1, rfl, rfl⟩ := hQ
    repeat' (first
      | ((with_reducible refine atBr ?_); refine BrM.not (by omega) ?_; conv => whnf)
      | ((with_reducible refine atBr ?_); refine BrM.yes (by omega) ?_; conv => whnf)
      | ((with_reducible refine atBr ?_); (first | refine BrM.t rfl ?_ | refine BrM.f rfl ?_ | refine BrM.dec (fun _ => ?_) (fun _ => ?_) | refine BrM.mk (fun _ => ?_) (fun _ => ?_)) <;> conv => whnf)
      | ((with_reducible refine atAr ?_); refine Ar.i64 (by omega) (by omega) ?_; conv => whnf)
      | ((with_reducible refine atRem ?_); refine Nx.divI rfl (.inl ⟨rfl, (tm c 32)⟩) rfl rfl (by decide) rfl ?_)
      | ((with_reducible refine atRem ?_); refine Nx.divI rfl (.inl ⟨rfl, (tm a 7)⟩) rfl rfl (by decide) rfl ?_)
      | ((with_reducible refine atRem ?_); refine Nx.divI rfl (.inl ⟨rfl, (tm a 8)⟩) rfl rfl (by decide) rfl ?_)
      | ((with_reducible refine atRem ?_); refine Nx.divI rfl (.inl ⟨rfl, (tm a 64)⟩) rfl rfl (by decide) rfl ?_)
      | ((with_reducible refine atRem ?_); refine Nx.divI rfl (.inl ⟨rfl, (tm b 2)⟩) rfl rfl (by decide) rfl ?_)
      | ((with_reducible refine atRem ?_); refine Nx.divI rfl (.inl ⟨rfl, (tm b 4)⟩) rfl rfl (by decide) rfl ?_)
      | ((with_reducible refine atRem ?_); refine Nx.divI rfl (.inl ⟨rfl, (tm d 8)⟩) rfl rfl (by decide) rfl ?_)
      | ((with_reducible refine atRem ?_); refine Nx.divI rfl (.inl ⟨rfl, (tm d 64)⟩) rfl rfl (by decide) rfl ?_)
      | ((with_reducible refine atOps ?_); refine go 200 ?_; conv => whnf)
      | ((with_reducible refine atPlan ?_); refine Nx.runP (n := 200) rfl (by repeat (first | exact subB.nil _ | refine subB.cons rfl ?_)) ?_; conv => whnf)
      | ((with_reducible refine atAftL ?_); refine Nx.late ?_)
      | ((fail_if_success (with_reducible refine atRet ?_)); (fail_if_success (with_reducible refine atLoop ?_)); (fail_if_success (with_reducible refine atIn ?_)); (fail_if_success (with_reducible refine atDrawn ?_)); (fail_if_success (with_reducible refine atEnd ?_)); (with_reducible refine atRun ?_); refine go 200 ?_; conv => whnf))
    refine Nx.ret [13,4] Tryz.func52 rfl rfl ?_
    rw [hk]
    exact fin A1 none c1 0
theorem four_3 (c a b d : Nat) (hc : c < 256) (ha : a < 256) (hb : b < 256) (hd : d < 256) (hk : c % 32 = 3) (hK : fourK c = 3) : FnOk Tryz.prog 52 [.int .i64 c, .int .i64 a, .int .i64 b, .int .i64 d] [] (FoPost (fourA c a b d)) := by
    have b7 : a % 7 < 7 := Nat.mod_lt _ (by decide)
    have hf : fourA c a b d = ⟨3, 0, ((a % 8 : Nat) : Int), 1 + ((d % 8 : Nat) : Int), 0, wayN b, oneN d, []⟩ := by unfold fourA; rw [hK]; rfl
    rw [hf]
    have fin := fun A B c' d' => @FoPost.mk ⟨3, 0, ((a % 8 : Nat) : Int), 1 + ((d % 8 : Nat) : Int), 0, wayN b, oneN d, []⟩ A B c' d'
    simp only at fin
    refine FnOk.start Tryz.func52 rfl rfl rfl rfl fun F os tape output => ?_
    refine Nx.give 3 (ownS 3 none 0 0 1 []) (own_nil _ _ _ _) ?_
    refine Nx.give 4 (ownS 72 none 0 0 2 []) (own_nil _ _ _ _) ?_
    refine go 200 ?_
    conv => whnf
    repeat' (first
      | ((with_reducible refine atBr ?_); refine BrM.not (by omega) ?_; conv => whnf)
      | ((with_reducible refine atBr ?_); refine BrM.yes (by omega) ?_; conv => whnf)
      | ((with_reducible refine atBr ?_); (first | refine BrM.t rfl ?_ | refine BrM.f rfl ?_ | refine BrM.dec (fun _ => ?_) (fun _ => ?_) | refine BrM.mk (fun _ => ?_) (fun _ => ?_)) <;> conv => whnf)
      | ((with_reducible refine atAr ?_); refine Ar.i64 (by omega) (by omega) ?_; conv => whnf)
      | ((with_reducible refine atRem ?_); refine Nx.divI rfl (.inl ⟨rfl, (tm c 32)⟩) rfl rfl (by decide) rfl ?_)
      | ((with_reducible refine atRem ?_); refine Nx.divI rfl (.inl ⟨rfl, (tm a 7)⟩) rfl rfl (by decide) rfl ?_)
      | ((with_reducible refine atRem ?_); refine Nx.divI rfl (.inl ⟨rfl, (tm a 8)⟩) rfl rfl (by decide) rfl ?_)
      | ((with_reducible refine atRem ?_); refine Nx.divI rfl (.inl ⟨rfl, (tm a 64)⟩) rfl rfl (by decide) rfl ?_)
      | ((with_reducible refine atRem ?_); refine Nx.divI rfl (.inl ⟨rfl, (tm b 2)⟩) rfl rfl (by decide) rfl ?_)
      | ((with_reducible refine atRem ?_); refine Nx.divI rfl (.inl ⟨rfl, (tm b 4)⟩) rfl rfl (by decide) rfl ?_)
      | ((with_reducible refine atRem ?_); refine Nx.divI rfl (.inl ⟨rfl, (tm d 8)⟩) rfl rfl (by decide) rfl ?_)
      | ((with_reducible refine atRem ?_); refine Nx.divI rfl (.inl ⟨rfl, (tm d 64)⟩) rfl rfl (by decide) rfl ?_)
      | ((with_reducible refine (atCall 69) ?_); refine Nx.call [] [] rfl rfl rfl rfl rfl ((ways_ok b hb)) rfl fun v Q hQ => ?_; obtain ⟨rfl, rfl⟩ := hQ)
      | ((with_reducible refine atOps ?_); refine go 200 ?_; conv => whnf)
      | ((with_reducible refine atPlan ?_); refine Nx.runP (n := 200) rfl (by repeat (first | exact subB.nil _ | refine subB.cons rfl ?_)) ?_; conv => whnf)
      | ((with_reducible refine atAftL ?_); refine Nx.late ?_)
      | ((fail_if_success (with_reducible refine atRet ?_)); (fail_if_success (with_reducible refine atLoop ?_)); (fail_if_success (with_reducible refine atIn ?_)); (fail_if_success (with_reducible refine atDrawn ?_)); (fail_if_success (with_reducible refine atEnd ?_)); (with_reducible refine atRun ?_); refine go 200 ?_; conv => whnf))
    refine Nx.call [] [13] rfl rfl rfl rfl rfl (one_ok d) rfl fun v Q hQ => ?_
    obtain ⟨A1, c1, rfl, rfl⟩ := hQ
    repeat' (first
      | ((with_reducible refine atBr ?_); refine BrM.not (by omega) ?_; conv => whnf)
      | ((with_reducible refine atBr ?_); refine BrM.yes (by omega) ?_; conv => whnf)
      | ((with_reducible refine atBr ?_); (first | refine BrM.t rfl ?_ | refine BrM.f rfl ?_ | refine BrM.dec (fun _ => ?_) (fun _ => ?_) | refine BrM.mk (fun _ => ?_) (fun _ => ?_)) <;> conv => whnf)
      | ((with_reducible refine atAr ?_); refine Ar.i64 (by omega) (by omega) ?_; conv => whnf)
      | ((with_reducible refine atRem ?_); refine Nx.divI rfl (.inl ⟨rfl, (tm c 32)⟩) rfl rfl (by decide) rfl ?_)
      | ((with_reducible refine atRem ?_); refine Nx.divI rfl (.inl ⟨rfl, (tm a 7)⟩) rfl rfl (by decide) rfl ?_)
      | ((with_reducible refine atRem ?_); refine Nx.divI rfl (.inl ⟨rfl, (tm a 8)⟩) rfl rfl (by decide) rfl ?_)
      | ((with_reducible refine atRem ?_); refine Nx.divI rfl (.inl ⟨rfl, (tm a 64)⟩) rfl rfl (by decide) rfl ?_)
      | ((with_reducible refine atRem ?_); refine Nx.divI rfl (.inl ⟨rfl, (tm b 2)⟩) rfl rfl (by decide) rfl ?_)
      | ((with_reducible refine atRem ?_); refine Nx.divI rfl (.inl ⟨rfl, (tm b 4)⟩) rfl rfl (by decide) rfl ?_)
      | ((with_reducible refine atRem ?_); refine Nx.divI rfl (.inl ⟨rfl, (tm d 8)⟩) rfl rfl (by decide) rfl ?_)
      | ((with_reducible refine atRem ?_); refine Nx.divI rfl (.inl ⟨rfl, (tm d 64)⟩) rfl rfl (by decide) rfl ?_)
      | ((with_reducible refine atOps ?_); refine go 200 ?_; conv => whnf)
      | ((with_reducible refine atPlan ?_); refine Nx.runP (n := 200) rfl (by repeat (first | exact subB.nil _ | refine subB.cons rfl ?_)) ?_; conv => whnf)
      | ((with_reducible refine atAftL ?_); refine Nx.late ?_)
      | ((fail_if_success (with_reducible refine atRet ?_)); (fail_if_success (with_reducible refine atLoop ?_)); (fail_if_success (with_reducible refine atIn ?_)); (fail_if_success (with_reducible refine atDrawn ?_)); (fail_if_success (with_reducible refine atEnd ?_)); (with_reducible refine atRun ?_); refine go 200 ?_; conv => whnf))
    refine Nx.ret [13,4] Tryz.func52 rfl rfl ?_
    rw [hk]
    exact fin A1 none c1 0
theorem four_4 (c a b d : Nat) (hc : c < 256) (ha : a < 256) (hb : b < 256) (hd : d < 256) (hk : c % 32 = 4) (hK : fourK c = 4) : FnOk Tryz.prog 52 [.int .i64 c, .int .i64 a, .int .i64 b, .int .i64 d] [] (FoPost (fourA c a b d)) := by
    have b7 : a % 7 < 7 := Nat.mod_lt _ (by decide)
    have hf : fourA c a b d = ⟨4, 0, ((a % 8 : Nat) : Int), 0, 0, wayN b, oneN d, []⟩ := by unfold fourA; rw [hK]; rfl
    rw [hf]
    have fin := fun A B c' d' => @FoPost.mk ⟨4, 0, ((a % 8 : Nat) : Int), 0, 0, wayN b, oneN d, []⟩ A B c' d'
    simp only at fin
    refine FnOk.start Tryz.func52 rfl rfl rfl rfl fun F os tape output => ?_
    refine Nx.give 3 (ownS 3 none 0 0 1 []) (own_nil _ _ _ _) ?_
    refine Nx.give 4 (ownS 72 none 0 0 2 []) (own_nil _ _ _ _) ?_
    refine go 200 ?_
    conv => whnf
    repeat' (first
      | ((with_reducible refine atBr ?_); refine BrM.not (by omega) ?_; conv => whnf)
      | ((with_reducible refine atBr ?_); refine BrM.yes (by omega) ?_; conv => whnf)
      | ((with_reducible refine atBr ?_); (first | refine BrM.t rfl ?_ | refine BrM.f rfl ?_ | refine BrM.dec (fun _ => ?_) (fun _ => ?_) | refine BrM.mk (fun _ => ?_) (fun _ => ?_)) <;> conv => whnf)
      | ((with_reducible refine atAr ?_); refine Ar.i64 (by omega) (by omega) ?_; conv => whnf)
      | ((with_reducible refine atRem ?_); refine Nx.divI rfl (.inl ⟨rfl, (tm c 32)⟩) rfl rfl (by decide) rfl ?_)
      | ((with_reducible refine atRem ?_); refine Nx.divI rfl (.inl ⟨rfl, (tm a 7)⟩) rfl rfl (by decide) rfl ?_)
      | ((with_reducible refine atRem ?_); refine Nx.divI rfl (.inl ⟨rfl, (tm a 8)⟩) rfl rfl (by decide) rfl ?_)
      | ((with_reducible refine atRem ?_); refine Nx.divI rfl (.inl ⟨rfl, (tm a 64)⟩) rfl rfl (by decide) rfl ?_)
      | ((with_reducible refine atRem ?_); refine Nx.divI rfl (.inl ⟨rfl, (tm b 2)⟩) rfl rfl (by decide) rfl ?_)
      | ((with_reducible refine atRem ?_); refine Nx.divI rfl (.inl ⟨rfl, (tm b 4)⟩) rfl rfl (by decide) rfl ?_)
      | ((with_reducible refine atRem ?_); refine Nx.divI rfl (.inl ⟨rfl, (tm d 8)⟩) rfl rfl (by decide) rfl ?_)
      | ((with_reducible refine atRem ?_); refine Nx.divI rfl (.inl ⟨rfl, (tm d 64)⟩) rfl rfl (by decide) rfl ?_)
      | ((with_reducible refine (atCall 69) ?_); refine Nx.call [] [] rfl rfl rfl rfl rfl ((ways_ok b hb)) rfl fun v Q hQ => ?_; obtain ⟨rfl, rfl⟩ := hQ)
      | ((with_reducible refine atOps ?_); refine go 200 ?_; conv => whnf)
      | ((with_reducible refine atPlan ?_); refine Nx.runP (n := 200) rfl (by repeat (first | exact subB.nil _ | refine subB.cons rfl ?_)) ?_; conv => whnf)
      | ((with_reducible refine atAftL ?_); refine Nx.late ?_)
      | ((fail_if_success (with_reducible refine atRet ?_)); (fail_if_success (with_reducible refine atLoop ?_)); (fail_if_success (with_reducible refine atIn ?_)); (fail_if_success (with_reducible refine atDrawn ?_)); (fail_if_success (with_reducible refine atEnd ?_)); (with_reducible refine atRun ?_); refine go 200 ?_; conv => whnf))
    refine Nx.call [] [13] rfl rfl rfl rfl rfl (one_ok d) rfl fun v Q hQ => ?_
    obtain ⟨A1, c1, rfl, rfl⟩ := hQ
    repeat' (first
      | ((with_reducible refine atBr ?_); refine BrM.not (by omega) ?_; conv => whnf)
      | ((with_reducible refine atBr ?_); refine BrM.yes (by omega) ?_; conv => whnf)
      | ((with_reducible refine atBr ?_); (first | refine BrM.t rfl ?_ | refine BrM.f rfl ?_ | refine BrM.dec (fun _ => ?_) (fun _ => ?_) | refine BrM.mk (fun _ => ?_) (fun _ => ?_)) <;> conv => whnf)
      | ((with_reducible refine atAr ?_); refine Ar.i64 (by omega) (by omega) ?_; conv => whnf)
      | ((with_reducible refine atRem ?_); refine Nx.divI rfl (.inl ⟨rfl, (tm c 32)⟩) rfl rfl (by decide) rfl ?_)
      | ((with_reducible refine atRem ?_); refine Nx.divI rfl (.inl ⟨rfl, (tm a 7)⟩) rfl rfl (by decide) rfl ?_)
      | ((with_reducible refine atRem ?_); refine Nx.divI rfl (.inl ⟨rfl, (tm a 8)⟩) rfl rfl (by decide) rfl ?_)
      | ((with_reducible refine atRem ?_); refine Nx.divI rfl (.inl ⟨rfl, (tm a 64)⟩) rfl rfl (by decide) rfl ?_)
      | ((with_reducible refine atRem ?_); refine Nx.divI rfl (.inl ⟨rfl, (tm b 2)⟩) rfl rfl (by decide) rfl ?_)
      | ((with_reducible refine atRem ?_); refine Nx.divI rfl (.inl ⟨rfl, (tm b 4)⟩) rfl rfl (by decide) rfl ?_)
      | ((with_reducible refine atRem ?_); refine Nx.divI rfl (.inl ⟨rfl, (tm d 8)⟩) rfl rfl (by decide) rfl ?_)
      | ((with_reducible refine atRem ?_); refine Nx.divI rfl (.inl ⟨rfl, (tm d 64)⟩) rfl rfl (by decide) rfl ?_)
      | ((with_reducible refine atOps ?_); refine go 200 ?_; conv => whnf)
      | ((with_reducible refine atPlan ?_); refine Nx.runP (n := 200) rfl (by repeat (first | exact subB.nil _ | refine subB.cons rfl ?_)) ?_; conv => whnf)
      | ((with_reducible refine atAftL ?_); refine Nx.late ?_)
      | ((fail_if_success (with_reducible refine atRet ?_)); (fail_if_success (with_reducible refine atLoop ?_)); (fail_if_success (with_reducible refine atIn ?_)); (fail_if_success (with_reducible refine atDrawn ?_)); (fail_if_success (with_reducible refine atEnd ?_)); (with_reducible refine atRun ?_); refine go 200 ?_; conv => whnf))
    refine Nx.ret [13,4] Tryz.func52 rfl rfl ?_
    rw [hk]
    exact fin A1 none c1 0
theorem four_5 (c a b d : Nat) (hc : c < 256) (ha : a < 256) (hb : b < 256) (hd : d < 256) (hk : c % 32 = 5) (hK : fourK c = 5) : FnOk Tryz.prog 52 [.int .i64 c, .int .i64 a, .int .i64 b, .int .i64 d] [] (FoPost (fourA c a b d)) := by
    have b7 : a % 7 < 7 := Nat.mod_lt _ (by decide)
    have hf : fourA c a b d = ⟨5, 0, 0, 0, 0, ⟨0, 0, 0⟩, bitsTo a 8, []⟩ := by unfold fourA; rw [hK]; rfl
    rw [hf]
    have fin := fun A B c' d' => @FoPost.mk ⟨5, 0, 0, 0, 0, ⟨0, 0, 0⟩, bitsTo a 8, []⟩ A B c' d'
    simp only at fin
    refine FnOk.start Tryz.func52 rfl rfl rfl rfl fun F os tape output => ?_
    refine Nx.give 3 (ownS 3 none 0 0 1 []) (own_nil _ _ _ _) ?_
    refine Nx.give 4 (ownS 72 none 0 0 2 []) (own_nil _ _ _ _) ?_
    refine go 200 ?_
    conv => whnf
    repeat' (first
      | ((with_reducible refine atBr ?_); refine BrM.not (by omega) ?_; conv => whnf)
      | ((with_reducible refine atBr ?_); refine BrM.yes (by omega) ?_; conv => whnf)
      | ((with_reducible refine atBr ?_); (first | refine BrM.t rfl ?_ | refine BrM.f rfl ?_ | refine BrM.dec (fun _ => ?_) (fun _ => ?_) | refine BrM.mk (fun _ => ?_) (fun _ => ?_)) <;> conv => whnf)
      | ((with_reducible refine atAr ?_); refine Ar.i64 (by omega) (by omega) ?_; conv => whnf)
      | ((with_reducible refine atRem ?_); refine Nx.divI rfl (.inl ⟨rfl, (tm c 32)⟩) rfl rfl (by decide) rfl ?_)
      | ((with_reducible refine atRem ?_); refine Nx.divI rfl (.inl ⟨rfl, (tm a 7)⟩) rfl rfl (by decide) rfl ?_)
      | ((with_reducible refine atRem ?_); refine Nx.divI rfl (.inl ⟨rfl, (tm a 8)⟩) rfl rfl (by decide) rfl ?_)
      | ((with_reducible refine atRem ?_); refine Nx.divI rfl (.inl ⟨rfl, (tm a 64)⟩) rfl rfl (by decide) rfl ?_)
      | ((with_reducible refine atRem ?_); refine Nx.divI rfl (.inl ⟨rfl, (tm b 2)⟩) rfl rfl (by decide) rfl ?_)
      | ((with_reducible refine atRem ?_); refine Nx.divI rfl (.inl ⟨rfl, (tm b 4)⟩) rfl rfl (by decide) rfl ?_)
      | ((with_reducible refine atRem ?_); refine Nx.divI rfl (.inl ⟨rfl, (tm d 8)⟩) rfl rfl (by decide) rfl ?_)
      | ((with_reducible refine atRem ?_); refine Nx.divI rfl (.inl ⟨rfl, (tm d 64)⟩) rfl rfl (by decide) rfl ?_)
      | ((with_reducible refine atOps ?_); refine go 200 ?_; conv => whnf)
      | ((with_reducible refine atPlan ?_); refine Nx.runP (n := 200) rfl (by repeat (first | exact subB.nil _ | refine subB.cons rfl ?_)) ?_; conv => whnf)
      | ((with_reducible refine atAftL ?_); refine Nx.late ?_)
      | ((fail_if_success (with_reducible refine atRet ?_)); (fail_if_success (with_reducible refine atLoop ?_)); (fail_if_success (with_reducible refine atIn ?_)); (fail_if_success (with_reducible refine atDrawn ?_)); (fail_if_success (with_reducible refine atEnd ?_)); (with_reducible refine atRun ?_); refine go 200 ?_; conv => whnf))
    refine Nx.loop (X := BtX) (fun x => x.j ≤ 8) (fun x => 8 - x.j)
      (fun x => [(1, iv a), (8, .c (.loc 8 0)), (9, .c (.loc 9 0)), (70, iv x.j)]) (fun x => [(9, 37, (lnE 5 0 0 0 0 ⟨0, 0, 0⟩ (bitsTo a x.j).length x.A x.c 0 none 0).map .v), (8, 37, (lnC Ln.zero none 0 none 0).map .v)]) [] (fun x => [(3, ownS 3 x.A (bitsTo a x.j).length x.c 1 (intsV (bitsTo a x.j))), (4, ownS 72 none 0 0 2 [])]) ⟨0, none, 0⟩ (Nat.zero_le _) ?_ ?_ ?_ ?_ ?_
    · exact .cons rfl rfl (.cons rfl rfl (.cons rfl rfl (.cons rfl rfl (.nil _))))
    · exact .cons rfl (by rw [hk]; rfl) rfl (.cons rfl rfl rfl (.nil _))
    · repeat (first | exact subB.nil _ | refine subB.cons rfl ?_)
    · repeat (first | exact subR.nil _ | refine subR.cons rfl rfl ?_)
    intro x hj ih
    obtain ⟨j, A, cc⟩ := x
    simp only at hj ih ⊢
    have hbl := bitsTo_len a j
    by_cases hlt : j < 8
    · have hdl : a / 2 ^ j ≤ a := Nat.div_le_self _ _
      have hs8 := shr8 a hlt
      by_cases h1 : a / 2 ^ j % 2 = 1
      · have hst := bitsTo_yes h1
        repeat' (first
          | ((with_reducible refine atBr ?_); refine BrM.yes (by omega) ?_; conv => whnf)
          | ((with_reducible refine atAr ?_); refine Ar.to (k := .i64) (((j+1:Nat):Int)) (by omega) ⟨by omega, by omega⟩ ?_; conv => whnf)
          | ((with_reducible refine atBr ?_); (first | refine BrM.t rfl ?_ | refine BrM.f rfl ?_ | refine BrM.dec (fun _ => ?_) (fun _ => ?_) | refine BrM.mk (fun _ => ?_) (fun _ => ?_)) <;> conv => whnf)
          | ((with_reducible refine atAr ?_); refine Ar.i64 (by omega) (by omega) ?_; conv => whnf)
          | (refine Nx.shrI rfl rfl rfl rfl (by omega) hs8 ?_)
          | (refine Nx.and1 (n := a / 2 ^ j) rfl rfl rfl rfl rfl (by omega) rfl ?_)
          | ((with_reducible refine atApp ?_); refine Nx.append 3 (sz := 1) (by_ := 8) (news := [.int .i64 j]) rfl rfl rfl rfl rfl Tryz.underlying25 rfl rfl rfl rfl rfl (by unfold maxLen; omega) (by omega) fun A' c'' => ?_)
          | ((with_reducible refine atOps ?_); refine go 200 ?_; conv => whnf)
          | ((with_reducible refine atPlan ?_); refine Nx.runP (n := 200) rfl (by repeat (first | exact subB.nil _ | refine subB.cons rfl ?_)) ?_; conv => whnf)
          | ((with_reducible refine atAftL ?_); refine Nx.late ?_)
          | ((fail_if_success (with_reducible refine atRet ?_)); (fail_if_success (with_reducible refine atLoop ?_)); (fail_if_success (with_reducible refine atIn ?_)); (fail_if_success (with_reducible refine atDrawn ?_)); (fail_if_success (with_reducible refine atEnd ?_)); (with_reducible refine atRun ?_); refine go 200 ?_; conv => whnf))
        refine (ih ⟨j + 1, A', c''⟩ hlt (by show 8 - (j + 1) < 8 - j; omega)).weak ?_ ?_ ?_ ?_
        · exact .cons rfl rfl (.cons rfl rfl (.cons rfl rfl (.cons rfl rfl (.nil _))))
        · exact .cons rfl (by rw [hst]; simp) rfl (.cons rfl rfl rfl (.nil _))
        · repeat (first | exact subB.nil _ | refine subB.cons rfl ?_)
        · exact .cons rfl (by rw [hst]; simp) (.cons rfl rfl (.nil _))
      · have hst := bitsTo_no h1
        repeat' (first
          | ((with_reducible refine atBr ?_); refine BrM.yes (by omega) ?_; conv => whnf)
          | ((with_reducible refine atBr ?_); refine BrM.not (by omega) ?_; conv => whnf)
          | ((with_reducible refine atAr ?_); refine Ar.to (k := .i64) (((j+1:Nat):Int)) (by omega) ⟨by omega, by omega⟩ ?_; conv => whnf)
          | ((with_reducible refine atBr ?_); (first | refine BrM.t rfl ?_ | refine BrM.f rfl ?_ | refine BrM.dec (fun _ => ?_) (fun _ => ?_) | refine BrM.mk (fun _ => ?_) (fun _ => ?_)) <;> conv => whnf)
          | ((with_reducible refine atAr ?_); refine Ar.i64 (by omega) (by omega) ?_; conv => whnf)
          | (refine Nx.shrI rfl rfl rfl rfl (by omega) hs8 ?_)
          | (refine Nx.and1 (n := a / 2 ^ j) rfl rfl rfl rfl rfl (by omega) rfl ?_)
          | ((with_reducible refine atOps ?_); refine go 200 ?_; conv => whnf)
          | ((with_reducible refine atPlan ?_); refine Nx.runP (n := 200) rfl (by repeat (first | exact subB.nil _ | refine subB.cons rfl ?_)) ?_; conv => whnf)
          | ((with_reducible refine atAftL ?_); refine Nx.late ?_)
          | ((fail_if_success (with_reducible refine atRet ?_)); (fail_if_success (with_reducible refine atLoop ?_)); (fail_if_success (with_reducible refine atIn ?_)); (fail_if_success (with_reducible refine atDrawn ?_)); (fail_if_success (with_reducible refine atEnd ?_)); (with_reducible refine atRun ?_); refine go 200 ?_; conv => whnf))
        refine (ih ⟨j + 1, A, cc⟩ hlt (by show 8 - (j + 1) < 8 - j; omega)).weak ?_ ?_ ?_ ?_
        · exact .cons rfl rfl (.cons rfl rfl (.cons rfl rfl (.cons rfl rfl (.nil _))))
        · exact .cons rfl (by rw [hst]) rfl (.cons rfl rfl rfl (.nil _))
        · repeat (first | exact subB.nil _ | refine subB.cons rfl ?_)
        · exact .cons rfl (by rw [hst]) (.cons rfl rfl (.nil _))
    · have e8 : j = 8 := by omega
      subst e8
      clear ih
      repeat' (first
        | ((with_reducible refine atBr ?_); refine BrM.not (by omega) ?_; conv => whnf)
        | ((with_reducible refine atBr ?_); (first | refine BrM.t rfl ?_ | refine BrM.f rfl ?_ | refine BrM.dec (fun _ => ?_) (fun _ => ?_) | refine BrM.mk (fun _ => ?_) (fun _ => ?_)) <;> conv => whnf)
        | ((with_reducible refine atAr ?_); refine Ar.i64 (by omega) (by omega) ?_; conv => whnf)
        | ((with_reducible refine atOps ?_); refine go 200 ?_; conv => whnf)
        | ((with_reducible refine atPlan ?_); refine Nx.runP (n := 200) rfl (by repeat (first | exact subB.nil _ | refine subB.cons rfl ?_)) ?_; conv => whnf)
        | ((with_reducible refine atAftL ?_); refine Nx.late ?_)
        | ((fail_if_success (with_reducible refine atRet ?_)); (fail_if_success (with_reducible refine atLoop ?_)); (fail_if_success (with_reducible refine atIn ?_)); (fail_if_success (with_reducible refine atDrawn ?_)); (fail_if_success (with_reducible refine atEnd ?_)); (with_reducible refine atRun ?_); refine go 200 ?_; conv => whnf))
      refine Nx.ret [3,4] Tryz.func52 rfl rfl ?_
      exact fin A none cc 0
theorem four_6 (c a b d : Nat) (hc : c < 256) (ha : a < 256) (hb : b < 256) (hd : d < 256) (hk : c % 32 = 6) (hK : fourK c = 6) : FnOk Tryz.prog 52 [.int .i64 c, .int .i64 a, .int .i64 b, .int .i64 d] [] (FoPost (fourA c a b d)) := by
    have b7 : a % 7 < 7 := Nat.mod_lt _ (by decide)
    have hf : fourA c a b d = ⟨6, ((a % 64 : Nat) : Int), 0, 0, 0, ⟨0, 0, 0⟩, [], evsTo d (1 + b % 4)⟩ := by unfold fourA; rw [hK]; rfl
    rw [hf]
    have fin := fun A B c' d' => @FoPost.mk ⟨6, ((a % 64 : Nat) : Int), 0, 0, 0, ⟨0, 0, 0⟩, [], evsTo d (1 + b % 4)⟩ A B c' d'
    simp only at fin
    refine FnOk.start Tryz.func52 rfl rfl rfl rfl fun F os tape output => ?_
    refine Nx.give 3 (ownS 3 none 0 0 1 []) (own_nil _ _ _ _) ?_
    refine Nx.give 4 (ownS 72 none 0 0 2 []) (own_nil _ _ _ _) ?_
    refine go 200 ?_
    conv => whnf
    repeat' (first
      | ((with_reducible refine atBr ?_); refine BrM.not (by omega) ?_; conv => whnf)
      | ((with_reducible refine atBr ?_); refine BrM.yes (by omega) ?_; conv => whnf)
      | ((with_reducible refine atBr ?_); (first | refine BrM.t rfl ?_ | refine BrM.f rfl ?_ | refine BrM.dec (fun _ => ?_) (fun _ => ?_) | refine BrM.mk (fun _ => ?_) (fun _ => ?_)) <;> conv => whnf)
      | ((with_reducible refine atAr ?_); refine Ar.i64 (by omega) (by omega) ?_; conv => whnf)
      | ((with_reducible refine atRem ?_); refine Nx.divI rfl (.inl ⟨rfl, (tm c 32)⟩) rfl rfl (by decide) rfl ?_)
      | ((with_reducible refine atRem ?_); refine Nx.divI rfl (.inl ⟨rfl, (tm a 7)⟩) rfl rfl (by decide) rfl ?_)
      | ((with_reducible refine atRem ?_); refine Nx.divI rfl (.inl ⟨rfl, (tm a 8)⟩) rfl rfl (by decide) rfl ?_)
      | ((with_reducible refine atRem ?_); refine Nx.divI rfl (.inl ⟨rfl, (tm a 64)⟩) rfl rfl (by decide) rfl ?_)
      | ((with_reducible refine atRem ?_); refine Nx.divI rfl (.inl ⟨rfl, (tm b 2)⟩) rfl rfl (by decide) rfl ?_)
      | ((with_reducible refine atRem ?_); refine Nx.divI rfl (.inl ⟨rfl, (tm b 4)⟩) rfl rfl (by decide) rfl ?_)
      | ((with_reducible refine atRem ?_); refine Nx.divI rfl (.inl ⟨rfl, (tm d 8)⟩) rfl rfl (by decide) rfl ?_)
      | ((with_reducible refine atRem ?_); refine Nx.divI rfl (.inl ⟨rfl, (tm d 64)⟩) rfl rfl (by decide) rfl ?_)
      | ((with_reducible refine atOps ?_); refine go 200 ?_; conv => whnf)
      | ((with_reducible refine atPlan ?_); refine Nx.runP (n := 200) rfl (by repeat (first | exact subB.nil _ | refine subB.cons rfl ?_)) ?_; conv => whnf)
      | ((with_reducible refine atAftL ?_); refine Nx.late ?_)
      | ((fail_if_success (with_reducible refine atRet ?_)); (fail_if_success (with_reducible refine atLoop ?_)); (fail_if_success (with_reducible refine atIn ?_)); (fail_if_success (with_reducible refine atDrawn ?_)); (fail_if_success (with_reducible refine atEnd ?_)); (with_reducible refine atRun ?_); refine go 200 ?_; conv => whnf))
    refine Nx.loop (X := BtX) (fun x => x.j ≤ 1 + b % 4) (fun x => 1 + b % 4 - x.j)
      (fun x => [(3, iv d), (8, .c (.loc 8 0)), (9, .c (.loc 9 0)), (93, iv (1 + ((b % 4 : Nat) : Int))), (94, iv x.j)]) (fun x => [(9, 37, (lnE 6 ((a % 64 : Nat) : Int) 0 0 0 ⟨0, 0, 0⟩ 0 none 0 (evsTo d x.j).length x.A x.c).map .v), (8, 37, (lnC Ln.zero none 0 none 0).map .v)]) [] (fun x => [(3, ownS 3 none 0 0 1 []), (4, ownS 72 x.A (evsTo d x.j).length x.c 2 (evsV (evsTo d x.j)))]) ⟨0, none, 0⟩ (Nat.zero_le _) ?_ ?_ ?_ ?_ ?_
    · exact .cons rfl rfl (.cons rfl rfl (.cons rfl rfl (.cons rfl rfl (.cons rfl rfl (.nil _)))))
    · exact .cons rfl (by rw [hk]; rfl) rfl (.cons rfl rfl rfl (.nil _))
    · repeat (first | exact subB.nil _ | refine subB.cons rfl ?_)
    · repeat (first | exact subR.nil _ | refine subR.cons rfl rfl ?_)
    intro x hj ih
    obtain ⟨j, A, cc⟩ := x
    simp only at hj ih ⊢
    have hbl : b % 4 < 4 := Nat.mod_lt _ (by decide)
    by_cases hlt : j < 1 + b % 4
    · have hst := evsTo_succ d j
      have hel := evsTo_len d j
      repeat' (first
        | ((with_reducible refine atBr ?_); refine BrM.yes (by omega) ?_; conv => whnf)
        | ((with_reducible refine atAr ?_); refine Ar.to (k := .i64) (((j+1:Nat):Int)) (by omega) ⟨by omega, by omega⟩ ?_; conv => whnf)
        | ((with_reducible refine atBr ?_); (first | refine BrM.t rfl ?_ | refine BrM.f rfl ?_ | refine BrM.dec (fun _ => ?_) (fun _ => ?_) | refine BrM.mk (fun _ => ?_) (fun _ => ?_)) <;> conv => whnf)
        | ((with_reducible refine atAr ?_); refine Ar.i64 (by omega) (by omega) ?_; conv => whnf)
        | ((with_reducible refine atApp ?_); refine Nx.append 4 (sz := 2) (by_ := 16) (news := [.int .i64 d, .int .i64 j]) rfl rfl rfl rfl rfl Tryz.underlying26 rfl rfl rfl rfl rfl (by unfold maxLen; omega) (by omega) fun A' c'' => ?_)
        | ((with_reducible refine atOps ?_); refine go 200 ?_; conv => whnf)
        | ((with_reducible refine atPlan ?_); refine Nx.runP (n := 200) rfl (by repeat (first | exact subB.nil _ | refine subB.cons rfl ?_)) ?_; conv => whnf)
        | ((with_reducible refine atAftL ?_); refine Nx.late ?_)
        | ((fail_if_success (with_reducible refine atRet ?_)); (fail_if_success (with_reducible refine atLoop ?_)); (fail_if_success (with_reducible refine atIn ?_)); (fail_if_success (with_reducible refine atDrawn ?_)); (fail_if_success (with_reducible refine atEnd ?_)); (with_reducible refine atRun ?_); refine go 200 ?_; conv => whnf))
      refine (ih ⟨j + 1, A', c''⟩ hlt (by show 1 + b % 4 - (j + 1) < 1 + b % 4 - j; omega)).weak ?_ ?_ ?_ ?_
      · exact .cons rfl rfl (.cons rfl rfl (.cons rfl rfl (.cons rfl rfl (.cons rfl rfl (.nil _)))))
      · exact .cons rfl (by rw [hst]; simp) rfl (.cons rfl rfl rfl (.nil _))
      · repeat (first | exact subB.nil _ | refine subB.cons rfl ?_)
      · exact .cons rfl rfl (.cons rfl (by rw [hst]; simp [evC]) (.nil _))
    · have e8 : j = 1 + b % 4 := by omega
      subst e8
      clear ih
      repeat' (first
        | ((with_reducible refine atBr ?_); refine BrM.not (by omega) ?_; conv => whnf)
        | ((with_reducible refine atBr ?_); (first | refine BrM.t rfl ?_ | refine BrM.f rfl ?_ | refine BrM.dec (fun _ => ?_) (fun _ => ?_) | refine BrM.mk (fun _ => ?_) (fun _ => ?_)) <;> conv => whnf)
        | ((with_reducible refine atAr ?_); refine Ar.i64 (by omega) (by omega) ?_; conv => whnf)
        | ((with_reducible refine atOps ?_); refine go 200 ?_; conv => whnf)
        | ((with_reducible refine atPlan ?_); refine Nx.runP (n := 200) rfl (by repeat (first | exact subB.nil _ | refine subB.cons rfl ?_)) ?_; conv => whnf)
        | ((with_reducible refine atAftL ?_); refine Nx.late ?_)
        | ((fail_if_success (with_reducible refine atRet ?_)); (fail_if_success (with_reducible refine atLoop ?_)); (fail_if_success (with_reducible refine atIn ?_)); (fail_if_success (with_reducible refine atDrawn ?_)); (fail_if_success (with_reducible refine atEnd ?_)); (with_reducible refine atRun ?_); refine go 200 ?_; conv => whnf))
      refine Nx.ret [3,4] Tryz.func52 rfl rfl ?_
      exact fin none A 0 cc
theorem four_7 (c a b d : Nat) (hc : c < 256) (ha : a < 256) (hb : b < 256) (hd : d < 256) (hk : c % 32 = 7) (hK : fourK c = 7) : FnOk Tryz.prog 52 [.int .i64 c, .int .i64 a, .int .i64 b, .int .i64 d] [] (FoPost (fourA c a b d)) := by
    have b7 : a % 7 < 7 := Nat.mod_lt _ (by decide)
    have hf : fourA c a b d = ⟨7, ((a % 64 : Nat) : Int), 0, 0, 0, ⟨0, 0, 0⟩, [], evsTo d (1 + b % 4)⟩ := by unfold fourA; rw [hK]; rfl
    rw [hf]
    have fin := fun A B c' d' => @FoPost.mk ⟨7, ((a % 64 : Nat) : Int), 0, 0, 0, ⟨0, 0, 0⟩, [], evsTo d (1 + b % 4)⟩ A B c' d'
    simp only at fin
    refine FnOk.start Tryz.func52 rfl rfl rfl rfl fun F os tape output => ?_
    refine Nx.give 3 (ownS 3 none 0 0 1 []) (own_nil _ _ _ _) ?_
    refine Nx.give 4 (ownS 72 none 0 0 2 []) (own_nil _ _ _ _) ?_
    refine go 200 ?_
    conv => whnf
    repeat' (first
      | ((with_reducible refine atBr ?_); refine BrM.not (by omega) ?_; conv => whnf)
      | ((with_reducible refine atBr ?_); refine BrM.yes (by omega) ?_; conv => whnf)
      | ((with_reducible refine atBr ?_); (first | refine BrM.t rfl ?_ | refine BrM.f rfl ?_ | refine BrM.dec (fun _ => ?_) (fun _ => ?_) | refine BrM.mk (fun _ => ?_) (fun _ => ?_)) <;> conv => whnf)
      | ((with_reducible refine atAr ?_); refine Ar.i64 (by omega) (by omega) ?_; conv => whnf)
      | ((with_reducible refine atRem ?_); refine Nx.divI rfl (.inl ⟨rfl, (tm c 32)⟩) rfl rfl (by decide) rfl ?_)
      | ((with_reducible refine atRem ?_); refine Nx.divI rfl (.inl ⟨rfl, (tm a 7)⟩) rfl rfl (by decide) rfl ?_)
      | ((with_reducible refine atRem ?_); refine Nx.divI rfl (.inl ⟨rfl, (tm a 8)⟩) rfl rfl (by decide) rfl ?_)
      | ((with_reducible refine atRem ?_); refine Nx.divI rfl (.inl ⟨rfl, (tm a 64)⟩) rfl rfl (by decide) rfl ?_)
      | ((with_reducible refine atRem ?_); refine Nx.divI rfl (.inl ⟨rfl, (tm b 2)⟩) rfl rfl (by decide) rfl ?_)
      | ((with_reducible refine atRem ?_); refine Nx.divI rfl (.inl ⟨rfl, (tm b 4)⟩) rfl rfl (by decide) rfl ?_)
      | ((with_reducible refine atRem ?_); refine Nx.divI rfl (.inl ⟨rfl, (tm d 8)⟩) rfl rfl (by decide) rfl ?_)
      | ((with_reducible refine atRem ?_); refine Nx.divI rfl (.inl ⟨rfl, (tm d 64)⟩) rfl rfl (by decide) rfl ?_)
      | ((with_reducible refine atOps ?_); refine go 200 ?_; conv => whnf)
      | ((with_reducible refine atPlan ?_); refine Nx.runP (n := 200) rfl (by repeat (first | exact subB.nil _ | refine subB.cons rfl ?_)) ?_; conv => whnf)
      | ((with_reducible refine atAftL ?_); refine Nx.late ?_)
      | ((fail_if_success (with_reducible refine atRet ?_)); (fail_if_success (with_reducible refine atLoop ?_)); (fail_if_success (with_reducible refine atIn ?_)); (fail_if_success (with_reducible refine atDrawn ?_)); (fail_if_success (with_reducible refine atEnd ?_)); (with_reducible refine atRun ?_); refine go 200 ?_; conv => whnf))
    refine Nx.loop (X := BtX) (fun x => x.j ≤ 1 + b % 4) (fun x => 1 + b % 4 - x.j)
      (fun x => [(3, iv d), (8, .c (.loc 8 0)), (9, .c (.loc 9 0)), (93, iv (1 + ((b % 4 : Nat) : Int))), (94, iv x.j)]) (fun x => [(9, 37, (lnE 7 ((a % 64 : Nat) : Int) 0 0 0 ⟨0, 0, 0⟩ 0 none 0 (evsTo d x.j).length x.A x.c).map .v), (8, 37, (lnC Ln.zero none 0 none 0).map .v)]) [] (fun x => [(3, ownS 3 none 0 0 1 []), (4, ownS 72 x.A (evsTo d x.j).length x.c 2 (evsV (evsTo d x.j)))]) ⟨0, none, 0⟩ (Nat.zero_le _) ?_ ?_ ?_ ?_ ?_
    · exact .cons rfl rfl (.cons rfl rfl (.cons rfl rfl (.cons rfl rfl (.cons rfl rfl (.nil _)))))
    · exact .cons rfl (by rw [hk]; rfl) rfl (.cons rfl rfl rfl (.nil _))
    · repeat (first | exact subB.nil _ | refine subB.cons rfl ?_)
    · repeat (first | exact subR.nil _ | refine subR.cons rfl rfl ?_)
    intro x hj ih
    obtain ⟨j, A, cc⟩ := x
    simp only at hj ih ⊢
    have hbl : b % 4 < 4 := Nat.mod_lt _ (by decide)
    by_cases hlt : j < 1 + b % 4
    · have hst := evsTo_succ d j
      have hel := evsTo_len d j
      repeat' (first
        | ((with_reducible refine atBr ?_); refine BrM.yes (by omega) ?_; conv => whnf)
        | ((with_reducible refine atAr ?_); refine Ar.to (k := .i64) (((j+1:Nat):Int)) (by omega) ⟨by omega, by omega⟩ ?_; conv => whnf)
        | ((with_reducible refine atBr ?_); (first | refine BrM.t rfl ?_ | refine BrM.f rfl ?_ | refine BrM.dec (fun _ => ?_) (fun _ => ?_) | refine BrM.mk (fun _ => ?_) (fun _ => ?_)) <;> conv => whnf)
        | ((with_reducible refine atAr ?_); refine Ar.i64 (by omega) (by omega) ?_; conv => whnf)
        | ((with_reducible refine atApp ?_); refine Nx.append 4 (sz := 2) (by_ := 16) (news := [.int .i64 d, .int .i64 j]) rfl rfl rfl rfl rfl Tryz.underlying26 rfl rfl rfl rfl rfl (by unfold maxLen; omega) (by omega) fun A' c'' => ?_)
        | ((with_reducible refine atOps ?_); refine go 200 ?_; conv => whnf)
        | ((with_reducible refine atPlan ?_); refine Nx.runP (n := 200) rfl (by repeat (first | exact subB.nil _ | refine subB.cons rfl ?_)) ?_; conv => whnf)
        | ((with_reducible refine atAftL ?_); refine Nx.late ?_)
        | ((fail_if_success (with_reducible refine atRet ?_)); (fail_if_success (with_reducible refine atLoop ?_)); (fail_if_success (with_reducible refine atIn ?_)); (fail_if_success (with_reducible refine atDrawn ?_)); (fail_if_success (with_reducible refine atEnd ?_)); (with_reducible refine atRun ?_); refine go 200 ?_; conv => whnf))
      refine (ih ⟨j + 1, A', c''⟩ hlt (by show 1 + b % 4 - (j + 1) < 1 + b % 4 - j; omega)).weak ?_ ?_ ?_ ?_
      · exact .cons rfl rfl (.cons rfl rfl (.cons rfl rfl (.cons rfl rfl (.cons rfl rfl (.nil _)))))
      · exact .cons rfl (by rw [hst]; simp) rfl (.cons rfl rfl rfl (.nil _))
      · repeat (first | exact subB.nil _ | refine subB.cons rfl ?_)
      · exact .cons rfl rfl (.cons rfl (by rw [hst]; simp [evC]) (.nil _))
    · have e8 : j = 1 + b % 4 := by omega
      subst e8
      clear ih
      repeat' (first
        | ((with_reducible refine atBr ?_); refine BrM.not (by omega) ?_; conv => whnf)
        | ((with_reducible refine atBr ?_); (first | refine BrM.t rfl ?_ | refine BrM.f rfl ?_ | refine BrM.dec (fun _ => ?_) (fun _ => ?_) | refine BrM.mk (fun _ => ?_) (fun _ => ?_)) <;> conv => whnf)
        | ((with_reducible refine atAr ?_); refine Ar.i64 (by omega) (by omega) ?_; conv => whnf)
        | ((with_reducible refine atOps ?_); refine go 200 ?_; conv => whnf)
        | ((with_reducible refine atPlan ?_); refine Nx.runP (n := 200) rfl (by repeat (first | exact subB.nil _ | refine subB.cons rfl ?_)) ?_; conv => whnf)
        | ((with_reducible refine atAftL ?_); refine Nx.late ?_)
        | ((fail_if_success (with_reducible refine atRet ?_)); (fail_if_success (with_reducible refine atLoop ?_)); (fail_if_success (with_reducible refine atIn ?_)); (fail_if_success (with_reducible refine atDrawn ?_)); (fail_if_success (with_reducible refine atEnd ?_)); (with_reducible refine atRun ?_); refine go 200 ?_; conv => whnf))
      refine Nx.ret [3,4] Tryz.func52 rfl rfl ?_
      exact fin none A 0 cc
theorem four_8 (c a b d : Nat) (hc : c < 256) (ha : a < 256) (hb : b < 256) (hd : d < 256) (hk : c % 32 = 8) (hK : fourK c = 8) : FnOk Tryz.prog 52 [.int .i64 c, .int .i64 a, .int .i64 b, .int .i64 d] [] (FoPost (fourA c a b d)) := by
    have b7 : a % 7 < 7 := Nat.mod_lt _ (by decide)
    have hf : fourA c a b d = ⟨8, ((a % 64 : Nat) : Int), 0, (b : Int), 0, ⟨0, 0, 0⟩, [], []⟩ := by unfold fourA; rw [hK]; rfl
    rw [hf]
    have fin := fun A B c' d' => @FoPost.mk ⟨8, ((a % 64 : Nat) : Int), 0, (b : Int), 0, ⟨0, 0, 0⟩, [], []⟩ A B c' d'
    simp only at fin
    refine FnOk.start Tryz.func52 rfl rfl rfl rfl fun F os tape output => ?_
    refine Nx.give 3 (ownS 3 none 0 0 1 []) (own_nil _ _ _ _) ?_
    refine Nx.give 4 (ownS 72 none 0 0 2 []) (own_nil _ _ _ _) ?_
    refine go 200 ?_
    conv => whnf
    repeat' (first
      | ((with_reducible refine atBr ?_); refine BrM.not (by omega) ?_; conv => whnf)
      | ((with_reducible refine atBr ?_); refine BrM.yes (by omega) ?_; conv => whnf)
      | ((with_reducible refine atBr ?_); (first | refine BrM.t rfl ?_ | refine BrM.f rfl ?_ | refine BrM.dec (fun _ => ?_) (fun _ => ?_) | refine BrM.mk (fun _ => ?_) (fun _ => ?_)) <;> conv => whnf)
      | ((with_reducible refine atAr ?_); refine Ar.i64 (by omega) (by omega) ?_; conv => whnf)
      | ((with_reducible refine atRem ?_); refine Nx.divI rfl (.inl ⟨rfl, (tm c 32)⟩) rfl rfl (by decide) rfl ?_)
      | ((with_reducible refine atRem ?_); refine Nx.divI rfl (.inl ⟨rfl, (tm a 7)⟩) rfl rfl (by decide) rfl ?_)
      | ((with_reducible refine atRem ?_); refine Nx.divI rfl (.inl ⟨rfl, (tm a 8)⟩) rfl rfl (by decide) rfl ?_)
      | ((with_reducible refine atRem ?_); refine Nx.divI rfl (.inl ⟨rfl, (tm a 64)⟩) rfl rfl (by decide) rfl ?_)
      | ((with_reducible refine atRem ?_); refine Nx.divI rfl (.inl ⟨rfl, (tm b 2)⟩) rfl rfl (by decide) rfl ?_)
      | ((with_reducible refine atRem ?_); refine Nx.divI rfl (.inl ⟨rfl, (tm b 4)⟩) rfl rfl (by decide) rfl ?_)
      | ((with_reducible refine atRem ?_); refine Nx.divI rfl (.inl ⟨rfl, (tm d 8)⟩) rfl rfl (by decide) rfl ?_)
      | ((with_reducible refine atRem ?_); refine Nx.divI rfl (.inl ⟨rfl, (tm d 64)⟩) rfl rfl (by decide) rfl ?_)
      | ((with_reducible refine atOps ?_); refine go 200 ?_; conv => whnf)
      | ((with_reducible refine atPlan ?_); refine Nx.runP (n := 200) rfl (by repeat (first | exact subB.nil _ | refine subB.cons rfl ?_)) ?_; conv => whnf)
      | ((with_reducible refine atAftL ?_); refine Nx.late ?_)
      | ((fail_if_success (with_reducible refine atRet ?_)); (fail_if_success (with_reducible refine atLoop ?_)); (fail_if_success (with_reducible refine atIn ?_)); (fail_if_success (with_reducible refine atDrawn ?_)); (fail_if_success (with_reducible refine atEnd ?_)); (with_reducible refine atRun ?_); refine go 200 ?_; conv => whnf))
    refine Nx.ret [3,4] Tryz.func52 rfl rfl ?_
    rw [hk]
    exact fin none none 0 0
theorem four_9 (c a b d : Nat) (hc : c < 256) (ha : a < 256) (hb : b < 256) (hd : d < 256) (hk : c % 32 = 9) (hK : fourK c = 9) : FnOk Tryz.prog 52 [.int .i64 c, .int .i64 a, .int .i64 b, .int .i64 d] [] (FoPost (fourA c a b d)) := by
    have b7 : a % 7 < 7 := Nat.mod_lt _ (by decide)
    have hf : fourA c a b d = ⟨9, ((a % 64 : Nat) : Int), 0, 0, 0, ⟨0, 0, 0⟩, [], []⟩ := by unfold fourA; rw [hK]; rfl
    rw [hf]
    have fin := fun A B c' d' => @FoPost.mk ⟨9, ((a % 64 : Nat) : Int), 0, 0, 0, ⟨0, 0, 0⟩, [], []⟩ A B c' d'
    simp only at fin
    refine FnOk.start Tryz.func52 rfl rfl rfl rfl fun F os tape output => ?_
    refine Nx.give 3 (ownS 3 none 0 0 1 []) (own_nil _ _ _ _) ?_
    refine Nx.give 4 (ownS 72 none 0 0 2 []) (own_nil _ _ _ _) ?_
    refine go 200 ?_
    conv => whnf
    repeat' (first
      | ((with_reducible refine atBr ?_); refine BrM.not (by omega) ?_; conv => whnf)
      | ((with_reducible refine atBr ?_); refine BrM.yes (by omega) ?_; conv => whnf)
      | ((with_reducible refine atBr ?_); (first | refine BrM.t rfl ?_ | refine BrM.f rfl ?_ | refine BrM.dec (fun _ => ?_) (fun _ => ?_) | refine BrM.mk (fun _ => ?_) (fun _ => ?_)) <;> conv => whnf)
      | ((with_reducible refine atAr ?_); refine Ar.i64 (by omega) (by omega) ?_; conv => whnf)
      | ((with_reducible refine atRem ?_); refine Nx.divI rfl (.inl ⟨rfl, (tm c 32)⟩) rfl rfl (by decide) rfl ?_)
      | ((with_reducible refine atRem ?_); refine Nx.divI rfl (.inl ⟨rfl, (tm a 7)⟩) rfl rfl (by decide) rfl ?_)
      | ((with_reducible refine atRem ?_); refine Nx.divI rfl (.inl ⟨rfl, (tm a 8)⟩) rfl rfl (by decide) rfl ?_)
      | ((with_reducible refine atRem ?_); refine Nx.divI rfl (.inl ⟨rfl, (tm a 64)⟩) rfl rfl (by decide) rfl ?_)
      | ((with_reducible refine atRem ?_); refine Nx.divI rfl (.inl ⟨rfl, (tm b 2)⟩) rfl rfl (by decide) rfl ?_)
      | ((with_reducible refine atRem ?_); refine Nx.divI rfl (.inl ⟨rfl, (tm b 4)⟩) rfl rfl (by decide) rfl ?_)
      | ((with_reducible refine atRem ?_); refine Nx.divI rfl (.inl ⟨rfl, (tm d 8)⟩) rfl rfl (by decide) rfl ?_)
      | ((with_reducible refine atRem ?_); refine Nx.divI rfl (.inl ⟨rfl, (tm d 64)⟩) rfl rfl (by decide) rfl ?_)
      | ((with_reducible refine atOps ?_); refine go 200 ?_; conv => whnf)
      | ((with_reducible refine atPlan ?_); refine Nx.runP (n := 200) rfl (by repeat (first | exact subB.nil _ | refine subB.cons rfl ?_)) ?_; conv => whnf)
      | ((with_reducible refine atAftL ?_); refine Nx.late ?_)
      | ((fail_if_success (with_reducible refine atRet ?_)); (fail_if_success (with_reducible refine atLoop ?_)); (fail_if_success (with_reducible refine atIn ?_)); (fail_if_success (with_reducible refine atDrawn ?_)); (fail_if_success (with_reducible refine atEnd ?_)); (with_reducible refine atRun ?_); refine go 200 ?_; conv => whnf))
    refine Nx.ret [3,4] Tryz.func52 rfl rfl ?_
    rw [hk]
    exact fin none none 0 0
theorem four_10 (c a b d : Nat) (hc : c < 256) (ha : a < 256) (hb : b < 256) (hd : d < 256) (hk : c % 32 = 10) (hK : fourK c = 10) : FnOk Tryz.prog 52 [.int .i64 c, .int .i64 a, .int .i64 b, .int .i64 d] [] (FoPost (fourA c a b d)) := by
    have b7 : a % 7 < 7 := Nat.mod_lt _ (by decide)
    have hf : fourA c a b d = ⟨10, ((a % 64 : Nat) : Int), 0, (b : Int), 0, ⟨0, 0, 0⟩, [], []⟩ := by unfold fourA; rw [hK]; rfl
    rw [hf]
    have fin := fun A B c' d' => @FoPost.mk ⟨10, ((a % 64 : Nat) : Int), 0, (b : Int), 0, ⟨0, 0, 0⟩, [], []⟩ A B c' d'
    simp only at fin
    refine FnOk.start Tryz.func52 rfl rfl rfl rfl fun F os tape output => ?_
    refine Nx.give 3 (ownS 3 none 0 0 1 []) (own_nil _ _ _ _) ?_
    refine Nx.give 4 (ownS 72 none 0 0 2 []) (own_nil _ _ _ _) ?_
    refine go 200 ?_
    conv => whnf
    repeat' (first
      | ((with_reducible refine atBr ?_); refine BrM.not (by omega) ?_; conv => whnf)
      | ((with_reducible refine atBr ?_); refine BrM.yes (by omega) ?_; conv => whnf)
      | ((with_reducible refine atBr ?_); (first | refine BrM.t rfl ?_ | refine BrM.f rfl ?_ | refine BrM.dec (fun _ => ?_) (fun _ => ?_) | refine BrM.mk (fun _ => ?_) (fun _ => ?_)) <;> conv => whnf)
      | ((with_reducible refine atAr ?_); refine Ar.i64 (by omega) (by omega) ?_; conv => whnf)
      | ((with_reducible refine atRem ?_); refine Nx.divI rfl (.inl ⟨rfl, (tm c 32)⟩) rfl rfl (by decide) rfl ?_)
      | ((with_reducible refine atRem ?_); refine Nx.divI rfl (.inl ⟨rfl, (tm a 7)⟩) rfl rfl (by decide) rfl ?_)
      | ((with_reducible refine atRem ?_); refine Nx.divI rfl (.inl ⟨rfl, (tm a 8)⟩) rfl rfl (by decide) rfl ?_)
      | ((with_reducible refine atRem ?_); refine Nx.divI rfl (.inl ⟨rfl, (tm a 64)⟩) rfl rfl (by decide) rfl ?_)
      | ((with_reducible refine atRem ?_); refine Nx.divI rfl (.inl ⟨rfl, (tm b 2)⟩) rfl rfl (by decide) rfl ?_)
      | ((with_reducible refine atRem ?_); refine Nx.divI rfl (.inl ⟨rfl, (tm b 4)⟩) rfl rfl (by decide) rfl ?_)
      | ((with_reducible refine atRem ?_); refine Nx.divI rfl (.inl ⟨rfl, (tm d 8)⟩) rfl rfl (by decide) rfl ?_)
      | ((with_reducible refine atRem ?_); refine Nx.divI rfl (.inl ⟨rfl, (tm d 64)⟩) rfl rfl (by decide) rfl ?_)
      | ((with_reducible refine atOps ?_); refine go 200 ?_; conv => whnf)
      | ((with_reducible refine atPlan ?_); refine Nx.runP (n := 200) rfl (by repeat (first | exact subB.nil _ | refine subB.cons rfl ?_)) ?_; conv => whnf)
      | ((with_reducible refine atAftL ?_); refine Nx.late ?_)
      | ((fail_if_success (with_reducible refine atRet ?_)); (fail_if_success (with_reducible refine atLoop ?_)); (fail_if_success (with_reducible refine atIn ?_)); (fail_if_success (with_reducible refine atDrawn ?_)); (fail_if_success (with_reducible refine atEnd ?_)); (with_reducible refine atRun ?_); refine go 200 ?_; conv => whnf))
    refine Nx.ret [3,4] Tryz.func52 rfl rfl ?_
    rw [hk]
    exact fin none none 0 0
theorem four_11 (c a b d : Nat) (hc : c < 256) (ha : a < 256) (hb : b < 256) (hd : d < 256) (hk : c % 32 = 11) (hK : fourK c = 11) : FnOk Tryz.prog 52 [.int .i64 c, .int .i64 a, .int .i64 b, .int .i64 d] [] (FoPost (fourA c a b d)) := by
    have b7 : a % 7 < 7 := Nat.mod_lt _ (by decide)
    have hf : fourA c a b d = ⟨11, ((a % 64 : Nat) : Int), 0, 0, 0, ⟨0, 0, 0⟩, [], []⟩ := by unfold fourA; rw [hK]; rfl
    rw [hf]
    have fin := fun A B c' d' => @FoPost.mk ⟨11, ((a % 64 : Nat) : Int), 0, 0, 0, ⟨0, 0, 0⟩, [], []⟩ A B c' d'
    simp only at fin
    refine FnOk.start Tryz.func52 rfl rfl rfl rfl fun F os tape output => ?_
    refine Nx.give 3 (ownS 3 none 0 0 1 []) (own_nil _ _ _ _) ?_
    refine Nx.give 4 (ownS 72 none 0 0 2 []) (own_nil _ _ _ _) ?_
    refine go 200 ?_
    conv => whnf
    repeat' (first
      | ((with_reducible refine atBr ?_); refine BrM.not (by omega) ?_; conv => whnf)
      | ((with_reducible refine atBr ?_); refine BrM.yes (by omega) ?_; conv => whnf)
      | ((with_reducible refine atBr ?_); (first | refine BrM.t rfl ?_ | refine BrM.f rfl ?_ | refine BrM.dec (fun _ => ?_) (fun _ => ?_) | refine BrM.mk (fun _ => ?_) (fun _ => ?_)) <;> conv => whnf)
      | ((with_reducible refine atAr ?_); refine Ar.i64 (by omega) (by omega) ?_; conv => whnf)
      | ((with_reducible refine atRem ?_); refine Nx.divI rfl (.inl ⟨rfl, (tm c 32)⟩) rfl rfl (by decide) rfl ?_)
      | ((with_reducible refine atRem ?_); refine Nx.divI rfl (.inl ⟨rfl, (tm a 7)⟩) rfl rfl (by decide) rfl ?_)
      | ((with_reducible refine atRem ?_); refine Nx.divI rfl (.inl ⟨rfl, (tm a 8)⟩) rfl rfl (by decide) rfl ?_)
      | ((with_reducible refine atRem ?_); refine Nx.divI rfl (.inl ⟨rfl, (tm a 64)⟩) rfl rfl (by decide) rfl ?_)
      | ((with_reducible refine atRem ?_); refine Nx.divI rfl (.inl ⟨rfl, (tm b 2)⟩) rfl rfl (by decide) rfl ?_)
      | ((with_reducible refine atRem ?_); refine Nx.divI rfl (.inl ⟨rfl, (tm b 4)⟩) rfl rfl (by decide) rfl ?_)
      | ((with_reducible refine atRem ?_); refine Nx.divI rfl (.inl ⟨rfl, (tm d 8)⟩) rfl rfl (by decide) rfl ?_)
      | ((with_reducible refine atRem ?_); refine Nx.divI rfl (.inl ⟨rfl, (tm d 64)⟩) rfl rfl (by decide) rfl ?_)
      | ((with_reducible refine atOps ?_); refine go 200 ?_; conv => whnf)
      | ((with_reducible refine atPlan ?_); refine Nx.runP (n := 200) rfl (by repeat (first | exact subB.nil _ | refine subB.cons rfl ?_)) ?_; conv => whnf)
      | ((with_reducible refine atAftL ?_); refine Nx.late ?_)
      | ((fail_if_success (with_reducible refine atRet ?_)); (fail_if_success (with_reducible refine atLoop ?_)); (fail_if_success (with_reducible refine atIn ?_)); (fail_if_success (with_reducible refine atDrawn ?_)); (fail_if_success (with_reducible refine atEnd ?_)); (with_reducible refine atRun ?_); refine go 200 ?_; conv => whnf))
    refine Nx.ret [3,4] Tryz.func52 rfl rfl ?_
    rw [hk]
    exact fin none none 0 0
theorem four_12 (c a b d : Nat) (hc : c < 256) (ha : a < 256) (hb : b < 256) (hd : d < 256) (hk : c % 32 = 12) (hK : fourK c = 12) : FnOk Tryz.prog 52 [.int .i64 c, .int .i64 a, .int .i64 b, .int .i64 d] [] (FoPost (fourA c a b d)) := by
    have b7 : a % 7 < 7 := Nat.mod_lt _ (by decide)
    have hf : fourA c a b d = ⟨12, ((a % 64 : Nat) : Int), 0, 0, 0, ⟨0, 0, 0⟩, [], []⟩ := by unfold fourA; rw [hK]; rfl
    rw [hf]
    have fin := fun A B c' d' => @FoPost.mk ⟨12, ((a % 64 : Nat) : Int), 0, 0, 0, ⟨0, 0, 0⟩, [], []⟩ A B c' d'
    simp only at fin
    refine FnOk.start Tryz.func52 rfl rfl rfl rfl fun F os tape output => ?_
    refine Nx.give 3 (ownS 3 none 0 0 1 []) (own_nil _ _ _ _) ?_
    refine Nx.give 4 (ownS 72 none 0 0 2 []) (own_nil _ _ _ _) ?_
    refine go 200 ?_
    conv => whnf
    repeat' (first
      | ((with_reducible refine atBr ?_); refine BrM.not (by omega) ?_; conv => whnf)
      | ((with_reducible refine atBr ?_); refine BrM.yes (by omega) ?_; conv => whnf)
      | ((with_reducible refine atBr ?_); (first | refine BrM.t rfl ?_ | refine BrM.f rfl ?_ | refine BrM.dec (fun _ => ?_) (fun _ => ?_) | refine BrM.mk (fun _ => ?_) (fun _ => ?_)) <;> conv => whnf)
      | ((with_reducible refine atAr ?_); refine Ar.i64 (by omega) (by omega) ?_; conv => whnf)
      | ((with_reducible refine atRem ?_); refine Nx.divI rfl (.inl ⟨rfl, (tm c 32)⟩) rfl rfl (by decide) rfl ?_)
      | ((with_reducible refine atRem ?_); refine Nx.divI rfl (.inl ⟨rfl, (tm a 7)⟩) rfl rfl (by decide) rfl ?_)
      | ((with_reducible refine atRem ?_); refine Nx.divI rfl (.inl ⟨rfl, (tm a 8)⟩) rfl rfl (by decide) rfl ?_)
      | ((with_reducible refine atRem ?_); refine Nx.divI rfl (.inl ⟨rfl, (tm a 64)⟩) rfl rfl (by decide) rfl ?_)
      | ((with_reducible refine atRem ?_); refine Nx.divI rfl (.inl ⟨rfl, (tm b 2)⟩) rfl rfl (by decide) rfl ?_)
      | ((with_reducible refine atRem ?_); refine Nx.divI rfl (.inl ⟨rfl, (tm b 4)⟩) rfl rfl (by decide) rfl ?_)
      | ((with_reducible refine atRem ?_); refine Nx.divI rfl (.inl ⟨rfl, (tm d 8)⟩) rfl rfl (by decide) rfl ?_)
      | ((with_reducible refine atRem ?_); refine Nx.divI rfl (.inl ⟨rfl, (tm d 64)⟩) rfl rfl (by decide) rfl ?_)
      | ((with_reducible refine atOps ?_); refine go 200 ?_; conv => whnf)
      | ((with_reducible refine atPlan ?_); refine Nx.runP (n := 200) rfl (by repeat (first | exact subB.nil _ | refine subB.cons rfl ?_)) ?_; conv => whnf)
      | ((with_reducible refine atAftL ?_); refine Nx.late ?_)
      | ((fail_if_success (with_reducible refine atRet ?_)); (fail_if_success (with_reducible refine atLoop ?_)); (fail_if_success (with_reducible refine atIn ?_)); (fail_if_success (with_reducible refine atDrawn ?_)); (fail_if_success (with_reducible refine atEnd ?_)); (with_reducible refine atRun ?_); refine go 200 ?_; conv => whnf))
    refine Nx.ret [3,4] Tryz.func52 rfl rfl ?_
    rw [hk]
    exact fin none none 0 0
theorem four_13 (c a b d : Nat) (hc : c < 256) (ha : a < 256) (hb : b < 256) (hd : d < 256) (hk : c % 32 = 13) (hK : fourK c = 13) : FnOk Tryz.prog 52 [.int .i64 c, .int .i64 a, .int .i64 b, .int .i64 d] [] (FoPost (fourA c a b d)) := by
    have b7 : a % 7 < 7 := Nat.mod_lt _ (by decide)
    have hf : fourA c a b d = ⟨13, ((a % 64 : Nat) : Int), 0, 0, 0, ⟨0, 0, 0⟩, [], []⟩ := by unfold fourA; rw [hK]; rfl
    rw [hf]
    have fin := fun A B c' d' => @FoPost.mk ⟨13, ((a % 64 : Nat) : Int), 0, 0, 0, ⟨0, 0, 0⟩, [], []⟩ A B c' d'
    simp only at fin
    refine FnOk.start Tryz.func52 rfl rfl rfl rfl fun F os tape output => ?_
    refine Nx.give 3 (ownS 3 none 0 0 1 []) (own_nil _ _ _ _) ?_
    refine Nx.give 4 (ownS 72 none 0 0 2 []) (own_nil _ _ _ _) ?_
    refine go 200 ?_
    conv => whnf
    repeat' (first
      | ((with_reducible refine atBr ?_); refine BrM.not (by omega) ?_; conv => whnf)
      | ((with_reducible refine atBr ?_); refine BrM.yes (by omega) ?_; conv => whnf)
      | ((with_reducible refine atBr ?_); (first | refine BrM.t rfl ?_ | refine BrM.f rfl ?_ | refine BrM.dec (fun _ => ?_) (fun _ => ?_) | refine BrM.mk (fun _ => ?_) (fun _ => ?_)) <;> conv => whnf)
      | ((with_reducible refine atAr ?_); refine Ar.i64 (by omega) (by omega) ?_; conv => whnf)
      | ((with_reducible refine atRem ?_); refine Nx.divI rfl (.inl ⟨rfl, (tm c 32)⟩) rfl rfl (by decide) rfl ?_)
      | ((with_reducible refine atRem ?_); refine Nx.divI rfl (.inl ⟨rfl, (tm a 7)⟩) rfl rfl (by decide) rfl ?_)
      | ((with_reducible refine atRem ?_); refine Nx.divI rfl (.inl ⟨rfl, (tm a 8)⟩) rfl rfl (by decide) rfl ?_)
      | ((with_reducible refine atRem ?_); refine Nx.divI rfl (.inl ⟨rfl, (tm a 64)⟩) rfl rfl (by decide) rfl ?_)
      | ((with_reducible refine atRem ?_); refine Nx.divI rfl (.inl ⟨rfl, (tm b 2)⟩) rfl rfl (by decide) rfl ?_)
      | ((with_reducible refine atRem ?_); refine Nx.divI rfl (.inl ⟨rfl, (tm b 4)⟩) rfl rfl (by decide) rfl ?_)
      | ((with_reducible refine atRem ?_); refine Nx.divI rfl (.inl ⟨rfl, (tm d 8)⟩) rfl rfl (by decide) rfl ?_)
      | ((with_reducible refine atRem ?_); refine Nx.divI rfl (.inl ⟨rfl, (tm d 64)⟩) rfl rfl (by decide) rfl ?_)
      | ((with_reducible refine atOps ?_); refine go 200 ?_; conv => whnf)
      | ((with_reducible refine atPlan ?_); refine Nx.runP (n := 200) rfl (by repeat (first | exact subB.nil _ | refine subB.cons rfl ?_)) ?_; conv => whnf)
      | ((with_reducible refine atAftL ?_); refine Nx.late ?_)
      | ((fail_if_success (with_reducible refine atRet ?_)); (fail_if_success (with_reducible refine atLoop ?_)); (fail_if_success (with_reducible refine atIn ?_)); (fail_if_success (with_reducible refine atDrawn ?_)); (fail_if_success (with_reducible refine atEnd ?_)); (with_reducible refine atRun ?_); refine go 200 ?_; conv => whnf))
    refine Nx.ret [3,4] Tryz.func52 rfl rfl ?_
    rw [hk]
    exact fin none none 0 0
theorem four_14 (c a b d : Nat) (hc : c < 256) (ha : a < 256) (hb : b < 256) (hd : d < 256) (hk : c % 32 = 14) (hK : fourK c = 14) : FnOk Tryz.prog 52 [.int .i64 c, .int .i64 a, .int .i64 b, .int .i64 d] [] (FoPost (fourA c a b d)) := by
    have b7 : a % 7 < 7 := Nat.mod_lt _ (by decide)
    have hf : fourA c a b d = ⟨14, ((a % 64 : Nat) : Int), 0, 0, 0, ⟨0, 0, 0⟩, [], []⟩ := by unfold fourA; rw [hK]; rfl
    rw [hf]
    have fin := fun A B c' d' => @FoPost.mk ⟨14, ((a % 64 : Nat) : Int), 0, 0, 0, ⟨0, 0, 0⟩, [], []⟩ A B c' d'
    simp only at fin
    refine FnOk.start Tryz.func52 rfl rfl rfl rfl fun F os tape output => ?_
    refine Nx.give 3 (ownS 3 none 0 0 1 []) (own_nil _ _ _ _) ?_
    refine Nx.give 4 (ownS 72 none 0 0 2 []) (own_nil _ _ _ _) ?_
    refine go 200 ?_
    conv => whnf
    repeat' (first
      | ((with_reducible refine atBr ?_); refine BrM.not (by omega) ?_; conv => whnf)
      | ((with_reducible refine atBr ?_); refine BrM.yes (by omega) ?_; conv => whnf)
      | ((with_reducible refine atBr ?_); (first | refine BrM.t rfl ?_ | refine BrM.f rfl ?_ | refine BrM.dec (fun _ => ?_) (fun _ => ?_) | refine BrM.mk (fun _ => ?_) (fun _ => ?_)) <;> conv => whnf)
      | ((with_reducible refine atAr ?_); refine Ar.i64 (by omega) (by omega) ?_; conv => whnf)
      | ((with_reducible refine atRem ?_); refine Nx.divI rfl (.inl ⟨rfl, (tm c 32)⟩) rfl rfl (by decide) rfl ?_)
      | ((with_reducible refine atRem ?_); refine Nx.divI rfl (.inl ⟨rfl, (tm a 7)⟩) rfl rfl (by decide) rfl ?_)
      | ((with_reducible refine atRem ?_); refine Nx.divI rfl (.inl ⟨rfl, (tm a 8)⟩) rfl rfl (by decide) rfl ?_)
      | ((with_reducible refine atRem ?_); refine Nx.divI rfl (.inl ⟨rfl, (tm a 64)⟩) rfl rfl (by decide) rfl ?_)
      | ((with_reducible refine atRem ?_); refine Nx.divI rfl (.inl ⟨rfl, (tm b 2)⟩) rfl rfl (by decide) rfl ?_)
      | ((with_reducible refine atRem ?_); refine Nx.divI rfl (.inl ⟨rfl, (tm b 4)⟩) rfl rfl (by decide) rfl ?_)
      | ((with_reducible refine atRem ?_); refine Nx.divI rfl (.inl ⟨rfl, (tm d 8)⟩) rfl rfl (by decide) rfl ?_)
      | ((with_reducible refine atRem ?_); refine Nx.divI rfl (.inl ⟨rfl, (tm d 64)⟩) rfl rfl (by decide) rfl ?_)
      | ((with_reducible refine atOps ?_); refine go 200 ?_; conv => whnf)
      | ((with_reducible refine atPlan ?_); refine Nx.runP (n := 200) rfl (by repeat (first | exact subB.nil _ | refine subB.cons rfl ?_)) ?_; conv => whnf)
      | ((with_reducible refine atAftL ?_); refine Nx.late ?_)
      | ((fail_if_success (with_reducible refine atRet ?_)); (fail_if_success (with_reducible refine atLoop ?_)); (fail_if_success (with_reducible refine atIn ?_)); (fail_if_success (with_reducible refine atDrawn ?_)); (fail_if_success (with_reducible refine atEnd ?_)); (with_reducible refine atRun ?_); refine go 200 ?_; conv => whnf))
    refine Nx.ret [3,4] Tryz.func52 rfl rfl ?_
    rw [hk]
    exact fin none none 0 0
theorem four_15 (c a b d : Nat) (hc : c < 256) (ha : a < 256) (hb : b < 256) (hd : d < 256) (hk : c % 32 = 15) (hK : fourK c = 15) : FnOk Tryz.prog 52 [.int .i64 c, .int .i64 a, .int .i64 b, .int .i64 d] [] (FoPost (fourA c a b d)) := by
    have b7 : a % 7 < 7 := Nat.mod_lt _ (by decide)
    have hf : fourA c a b d = ⟨15, 0, 0, 0, (b : Int), ⟨0, 0, 0⟩, [], []⟩ := by unfold fourA; rw [hK]; rfl
    rw [hf]
    have fin := fun A B c' d' => @FoPost.mk ⟨15, 0, 0, 0, (b : Int), ⟨0, 0, 0⟩, [], []⟩ A B c' d'
    simp only at fin
    refine FnOk.start Tryz.func52 rfl rfl rfl rfl fun F os tape output => ?_
    refine Nx.give 3 (ownS 3 none 0 0 1 []) (own_nil _ _ _ _) ?_
    refine Nx.give 4 (ownS 72 none 0 0 2 []) (own_nil _ _ _ _) ?_
    refine go 200 ?_
    conv => whnf
    repeat' (first
      | ((with_reducible refine atBr ?_); refine BrM.not (by omega) ?_; conv => whnf)
      | ((with_reducible refine atBr ?_); refine BrM.yes (by omega) ?_; conv => whnf)
      | ((with_reducible refine atBr ?_); (first | refine BrM.t rfl ?_ | refine BrM.f rfl ?_ | refine BrM.dec (fun _ => ?_) (fun _ => ?_) | refine BrM.mk (fun _ => ?_) (fun _ => ?_)) <;> conv => whnf)
      | ((with_reducible refine atAr ?_); refine Ar.i64 (by omega) (by omega) ?_; conv => whnf)
      | ((with_reducible refine atRem ?_); refine Nx.divI rfl (.inl ⟨rfl, (tm c 32)⟩) rfl rfl (by decide) rfl ?_)
      | ((with_reducible refine atRem ?_); refine Nx.divI rfl (.inl ⟨rfl, (tm a 7)⟩) rfl rfl (by decide) rfl ?_)
      | ((with_reducible refine atRem ?_); refine Nx.divI rfl (.inl ⟨rfl, (tm a 8)⟩) rfl rfl (by decide) rfl ?_)
      | ((with_reducible refine atRem ?_); refine Nx.divI rfl (.inl ⟨rfl, (tm a 64)⟩) rfl rfl (by decide) rfl ?_)
      | ((with_reducible refine atRem ?_); refine Nx.divI rfl (.inl ⟨rfl, (tm b 2)⟩) rfl rfl (by decide) rfl ?_)
      | ((with_reducible refine atRem ?_); refine Nx.divI rfl (.inl ⟨rfl, (tm b 4)⟩) rfl rfl (by decide) rfl ?_)
      | ((with_reducible refine atRem ?_); refine Nx.divI rfl (.inl ⟨rfl, (tm d 8)⟩) rfl rfl (by decide) rfl ?_)
      | ((with_reducible refine atRem ?_); refine Nx.divI rfl (.inl ⟨rfl, (tm d 64)⟩) rfl rfl (by decide) rfl ?_)
      | ((with_reducible refine atOps ?_); refine go 200 ?_; conv => whnf)
      | ((with_reducible refine atPlan ?_); refine Nx.runP (n := 200) rfl (by repeat (first | exact subB.nil _ | refine subB.cons rfl ?_)) ?_; conv => whnf)
      | ((with_reducible refine atAftL ?_); refine Nx.late ?_)
      | ((fail_if_success (with_reducible refine atRet ?_)); (fail_if_success (with_reducible refine atLoop ?_)); (fail_if_success (with_reducible refine atIn ?_)); (fail_if_success (with_reducible refine atDrawn ?_)); (fail_if_success (with_reducible refine atEnd ?_)); (with_reducible refine atRun ?_); refine go 200 ?_; conv => whnf))
    refine Nx.ret [3,4] Tryz.func52 rfl rfl ?_
    rw [hk]
    exact fin none none 0 0
theorem four_16 (c a b d : Nat) (hc : c < 256) (ha : a < 256) (hb : b < 256) (hd : d < 256) (hk : 16 ≤ c % 32) (hK : fourK c = 16) : FnOk Tryz.prog 52 [.int .i64 c, .int .i64 a, .int .i64 b, .int .i64 d] [] (FoPost (fourA c a b d)) := by
    have b7 : a % 7 < 7 := Nat.mod_lt _ (by decide)
    have hf : fourA c a b d = ⟨16, 0, 0, (a : Int) + 256 * (b : Int), 0, ⟨0, 0, 0⟩, [], []⟩ := by unfold fourA; rw [hK]; rfl
    rw [hf]
    have fin := fun A B c' d' => @FoPost.mk ⟨16, 0, 0, (a : Int) + 256 * (b : Int), 0, ⟨0, 0, 0⟩, [], []⟩ A B c' d'
    simp only at fin
    refine FnOk.start Tryz.func52 rfl rfl rfl rfl fun F os tape output => ?_
    refine Nx.give 3 (ownS 3 none 0 0 1 []) (own_nil _ _ _ _) ?_
    refine Nx.give 4 (ownS 72 none 0 0 2 []) (own_nil _ _ _ _) ?_
    refine go 200 ?_
    conv => whnf
    repeat' (first
      | ((with_reducible refine atBr ?_); refine BrM.not (by omega) ?_; conv => whnf)
      | ((with_reducible refine atBr ?_); refine BrM.yes (by omega) ?_; conv => whnf)
      | ((with_reducible refine atBr ?_); (first | refine BrM.t rfl ?_ | refine BrM.f rfl ?_ | refine BrM.dec (fun _ => ?_) (fun _ => ?_) | refine BrM.mk (fun _ => ?_) (fun _ => ?_)) <;> conv => whnf)
      | ((with_reducible refine atAr ?_); refine Ar.i64 (by omega) (by omega) ?_; conv => whnf)
      | ((with_reducible refine atRem ?_); refine Nx.divI rfl (.inl ⟨rfl, (tm c 32)⟩) rfl rfl (by decide) rfl ?_)
      | ((with_reducible refine atRem ?_); refine Nx.divI rfl (.inl ⟨rfl, (tm a 7)⟩) rfl rfl (by decide) rfl ?_)
      | ((with_reducible refine atRem ?_); refine Nx.divI rfl (.inl ⟨rfl, (tm a 8)⟩) rfl rfl (by decide) rfl ?_)
      | ((with_reducible refine atRem ?_); refine Nx.divI rfl (.inl ⟨rfl, (tm a 64)⟩) rfl rfl (by decide) rfl ?_)
      | ((with_reducible refine atRem ?_); refine Nx.divI rfl (.inl ⟨rfl, (tm b 2)⟩) rfl rfl (by decide) rfl ?_)
      | ((with_reducible refine atRem ?_); refine Nx.divI rfl (.inl ⟨rfl, (tm b 4)⟩) rfl rfl (by decide) rfl ?_)
      | ((with_reducible refine atRem ?_); refine Nx.divI rfl (.inl ⟨rfl, (tm d 8)⟩) rfl rfl (by decide) rfl ?_)
      | ((with_reducible refine atRem ?_); refine Nx.divI rfl (.inl ⟨rfl, (tm d 64)⟩) rfl rfl (by decide) rfl ?_)
      | ((with_reducible refine atOps ?_); refine go 200 ?_; conv => whnf)
      | ((with_reducible refine atPlan ?_); refine Nx.runP (n := 200) rfl (by repeat (first | exact subB.nil _ | refine subB.cons rfl ?_)) ?_; conv => whnf)
      | ((with_reducible refine atAftL ?_); refine Nx.late ?_)
      | ((fail_if_success (with_reducible refine atRet ?_)); (fail_if_success (with_reducible refine atLoop ?_)); (fail_if_success (with_reducible refine atIn ?_)); (fail_if_success (with_reducible refine atDrawn ?_)); (fail_if_success (with_reducible refine atEnd ?_)); (with_reducible refine atRun ?_); refine go 200 ?_; conv => whnf))
    refine Nx.ret [3,4] Tryz.func52 rfl rfl ?_
    exact fin none none 0 0
theorem four_ok (c a b d : Nat) (hc : c < 256) (ha : a < 256) (hb : b < 256) (hd : d < 256) : FnOk Tryz.prog 52 [.int .i64 c, .int .i64 a, .int .i64 b, .int .i64 d] [] (FoPost (fourA c a b d)) := by
  by_cases h16 : c % 32 < 16
  · have hK : fourK c = c % 32 := by unfold fourK; rw [if_pos h16]
    obtain ⟨k, hk⟩ : ∃ k, k = c % 32 := ⟨_, rfl⟩
    rw [← hk] at h16 hK
    match k, h16, hk, hK with
    | 0, _, hk, hK => exact four_0 c a b d hc ha hb hd hk.symm hK
    | 1, _, hk, hK => exact four_1 c a b d hc ha hb hd hk.symm hK
    | 2, _, hk, hK => exact four_2 c a b d hc ha hb hd hk.symm hK
    | 3, _, hk, hK => exact four_3 c a b d hc ha hb hd hk.symm hK
    | 4, _, hk, hK => exact four_4 c a b d hc ha hb hd hk.symm hK
    | 5, _, hk, hK => exact four_5 c a b d hc ha hb hd hk.symm hK
    | 6, _, hk, hK => exact four_6 c a b d hc ha hb hd hk.symm hK
    | 7, _, hk, hK => exact four_7 c a b d hc ha hb hd hk.symm hK
    | 8, _, hk, hK => exact four_8 c a b d hc ha hb hd hk.symm hK
    | 9, _, hk, hK => exact four_9 c a b d hc ha hb hd hk.symm hK
    | 10, _, hk, hK => exact four_10 c a b d hc ha hb hd hk.symm hK
    | 11, _, hk, hK => exact four_11 c a b d hc ha hb hd hk.symm hK
    | 12, _, hk, hK => exact four_12 c a b d hc ha hb hd hk.symm hK
    | 13, _, hk, hK => exact four_13 c a b d hc ha hb hd hk.symm hK
    | 14, _, hk, hK => exact four_14 c a b d hc ha hb hd hk.symm hK
    | 15, _, hk, hK => exact four_15 c a b d hc ha hb hd hk.symm hK
    | k + 16, h, _, _ => exact absurd h (by omega)
  · exact four_16 c a b d hc ha hb hd (by omega) (by unfold fourK; rw [if_neg h16])
end Go.Proofs.YtkfnbpbhcnekiaaGreatDoor
