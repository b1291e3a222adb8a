/- ScriptWhole: the statement's tied card holds: for all bytes and every remark the law returns true, and the bytes read as they did, where the listed package-level variables hold what the program's text lays. -/
import Derived.Test.YtkfnbpbhcnekiaaGreatDoorMe
import Derived.Laws.Shifts
import Derived.Laws.Entries
import Derived.Test.YtkfnbpbhcnekiaaGreatDoorCards
import Derived.Test.YtkfnbpbhcnekiaaGreatDoorTie
set_option linter.unusedSimpArgs false
set_option linter.unusedVariables false
/- What a text read as a line is bounded by. -/
namespace Go.Proofs.YtkfnbpbhcnekiaaGreatDoor
open Go.RowKit Go.Lib
set_option maxRecDepth 20000
set_option maxHeartbeats 4000000

theorem parse_err {s : Str} {e : Int} (h : parseA s = .error e) : e ≠ 0 := by
  unfold parseA at h
  split at h
  · cases h; decide
  split at h
  · cases h; decide
  split at h
  · cases h; decide
  split at h
  · cases h; decide
  · cases h
theorem parse_len {s : Str} {o : Ln} (h : parseA s = .ok o) : o.after.length ≤ 64 ∧ o.evs.length ≤ 64 := by
  obtain ⟨k, hk, _, ws, hb⟩ := parse_back h
  have he := hb.e
  have e : o.deed.toNat = k := by omega
  have h1 : (plainA o).after = if 97 ∈ shape k then o.after else [] := by rw [← e]; rfl
  have h2 : (plainA o).evs = if 101 ∈ shape k then o.evs else [] := by rw [← e]; rfl
  rw [hb.p] at h1 h2
  constructor
  · by_cases h : (97 : UInt8) ∈ shape k
    · exact hb.a h
    · rw [if_neg h] at h1; rw [h1]; simp
  · by_cases h : (101 : UInt8) ∈ shape k
    · exact hb.v h
    · rw [if_neg h] at h2; rw [h2]; simp
end Go.Proofs.YtkfnbpbhcnekiaaGreatDoor

/- ScriptLines, walked. -/
namespace Go.Proofs.YtkfnbpbhcnekiaaGreatDoor
open Go.RowKit Go.Lib
set_option maxRecDepth 20000
set_option maxHeartbeats 4000000

/-- Is a line none? -/
def skipA (w : Str) : Prop := w = [] ∨ w[0]? = some 35
instance (w : Str) : Decidable (skipA w) := inferInstanceAs (Decidable (w = [] ∨ w[0]? = some 35))
/-- The lines of a text's lines, from the i-th on, or which of them can't be read, and why. -/
def readA : List Str → Nat → Except (Nat × Int) (List Ln)
  | [], _ => .ok []
  | w :: ws, i => if skipA w then readA ws (i + 1) else match parseA w with
    | .error e => .error (i + 1, e)
    | .ok o => match readA ws (i + 1) with
      | .error x => .error x
      | .ok l => .ok (o :: l)
/-- A line with its slices. -/
structure LnS where
  o : Ln
  A : Option Addr
  c : Nat
  B : Option Addr
  d : Nat
abbrev LnS.enc (x : LnS) : List Value := lnC x.o x.A x.c x.B x.d
theorem enc_len (x : LnS) : x.enc.length = 10 := rfl
def LnS.rd (m : PH) (x : LnS) : Prop := Rd m x.A x.o.after.length 1 (intsV x.o.after) ∧ Rd m x.B x.o.evs.length 2 (evsV x.o.evs)
/-- The slices of some lines can be read, for good. -/
def rdAll (L : List LnS) : SP := fun r _ => ∀ x ∈ L, x.rd r
theorem rdAll_more {L : List LnS} {x : LnS} : ∀ r h, Sat [rdAll L, rdS x.A x.o.after.length 1 (intsV x.o.after), rdS x.B x.o.evs.length 2 (evsV x.o.evs)] r h → Sat [rdAll (L ++ [x])] r h := by
  rintro r h ⟨r1, h1, h2, a1, a2, a3, a4, a5, r2, k1, k2, b1, b2, b3, b4, b5, r3, l1, l2, c1, c2, c3, c4, c5, _⟩
  refine ⟨r, h, PH.em, PH.le_refl _, PH.le_refl _, PH.em_le _, PH.dj_em _, fun y hy => ?_, trivial⟩
  rcases List.mem_append.1 hy with hy | hy
  · obtain ⟨p, q⟩ := (show ∀ x ∈ L, x.rd r1 from a5) y hy
    exact ⟨p.mono a1, q.mono a1⟩
  · rw [List.mem_singleton] at hy
    subst hy
    exact ⟨(show Rd r2 _ _ _ _ from b5).mono b1, (show Rd r3 _ _ _ _ from c5).mono c1⟩
theorem rdAll_nil (r h : PH) : rdAll [] r h := fun x hx => by cases hx
theorem rdAll_sees1 {L : List LnS} {x : LnS} (hx : x ∈ L) : Sees (rdAll L) x.A x.o.after.length 1 (intsV x.o.after) := fun r h d hs => ((show ∀ x ∈ L, x.rd r from hs) x hx).1.mono (PH.le_un_left _ _)
theorem rdAll_sees2 {L : List LnS} {x : LnS} (hx : x ∈ L) : Sees (rdAll L) x.B x.o.evs.length 2 (evsV x.o.evs) := fun r h d hs => ((show ∀ x ∈ L, x.rd r from hs) x hx).2.mono (PH.le_un_left _ _)
attribute [local irreducible] Nx Ar BrM

structure RlX where
  i : Nat
  L : List LnS
  A : Option Addr
  c : Nat
structure RlI (ws : List Str) (r : Except (Nat × Int) (List Ln)) (x : RlX) : Prop where
  i : x.i ≤ ws.length
  n : x.L.length ≤ x.i
  e : r = match readA (ws.drop x.i) x.i with | .error e => .error e | .ok l => .ok (x.L.map (·.o) ++ l)
theorem RlI.skip {ws : List Str} {r : Except (Nat × Int) (List Ln)} {x : RlX} (h : RlI ws r x) (hi : x.i < ws.length) (hs : skipA ws[x.i]) : RlI ws r ⟨x.i + 1, x.L, x.A, x.c⟩ := by
  refine ⟨hi, Nat.le_trans h.n (Nat.le_succ _), ?_⟩
  rw [h.e, List.drop_eq_getElem_cons hi, readA, if_pos hs]
theorem RlI.bad {ws : List Str} {r : Except (Nat × Int) (List Ln)} {x : RlX} (h : RlI ws r x) (hi : x.i < ws.length) (hs : ¬ skipA ws[x.i]) {e : Int} (he : parseA ws[x.i] = .error e) : r = .error (x.i + 1, e) := by
  rw [h.e, List.drop_eq_getElem_cons hi, readA, if_neg hs, he]
theorem RlI.more {ws : List Str} {r : Except (Nat × Int) (List Ln)} {x : RlX} (h : RlI ws r x) (hi : x.i < ws.length) (hs : ¬ skipA ws[x.i]) {y : LnS} (he : parseA ws[x.i] = .ok y.o) (A : Option Addr) (c : Nat) : RlI ws r ⟨x.i + 1, x.L ++ [y], A, c⟩ := by
  have := h.n
  refine ⟨hi, by simp; omega, ?_⟩
  rw [h.e, List.drop_eq_getElem_cons hi, readA, if_neg hs, he]
  simp only
  cases readA (ws.drop (x.i + 1)) (x.i + 1) with
  | error e => rfl
  | ok l => simp
theorem RlI.fin {ws : List Str} {r : Except (Nat × Int) (List Ln)} {x : RlX} (h : RlI ws r x) (hi : ¬ x.i < ws.length) : r = .ok (x.L.map (·.o)) := by
  rw [h.e, List.drop_eq_nil_of_le (by omega), readA]
  simp
def RlPost (m : PH) (r : Except (Nat × Int) (List Ln)) (v : Value) (Q : List SP) : Prop :=
  match r with
  | .ok l => ∃ (L : List LnS) (A : Option Addr) (c : Nat), L.map (·.o) = l ∧ v = .tuple #[.slice A L.length c, .int .i64 0, .nilIface] ∧ Q = [roAll m, ownS 37 A L.length c 10 (L.flatMap LnS.enc), rdAll L]
  | .error e => ∃ b q, v = .tuple #[.slice none 0 0, .int .i64 e.1, .iface 114 (.pointer (some ⟨b, 0, none⟩))] ∧ Q = [roAll m, errB b q e.2]
theorem pre35 (w : Str) : hasPrefix w [35] = decide (w[0]? = some 35) := by
  cases w with
  | nil => rfl
  | cons x r =>
    have e : hasPrefix (x :: r) [35] = ((35 : UInt8) == x) := by show ((35 : UInt8) == x && true) = _; rw [Bool.and_true]
    rw [e]
    by_cases h : x = 35
    · subst h; rfl
    · rw [beq_eq_false_iff_ne.2 (fun e => h e.symm), decide_eq_false (by simpa using h)]
theorem lines_snoc (L : List LnS) (x : LnS) : (L ++ [x]).flatMap LnS.enc = L.flatMap LnS.enc ++ x.enc := by simp
theorem ReadP_ok {m : PH} (hG : Glo m) (s : Str) (hs : s.length ≤ 500000) : FnOk Tryz.prog 23 [str s] [roAll m] (RlPost m (readA (splitC 10 s) 0)) := by
  have hl1 := split_le 10 s
  have hl2 := split_each 10 s
  obtain ⟨r, hr⟩ : ∃ r, r = readA (splitC 10 s) 0 := ⟨_, rfl⟩
  have hSp := Split_ok hG s 10 (by omega)
  rw [← hr]
  generalize splitC 10 s = ws at *
  refine FnOk.start Tryz.func23 rfl rfl rfl rfl fun F os tape output => ?_
  refine go 200 ?_
  conv => whnf
  refine Nx.call [0] [0,3] rfl rfl rfl rfl rfl (hSp) rfl fun v Q hQ => ?_
  obtain ⟨b0, rfl, rfl⟩ := hQ
  refine Nx.share 3 (rdS (some ⟨b0, 0, none⟩) ws.length 1 (strs ws)) rfl own_share ?_
  have hsee : Sees (rdS (some ⟨b0, 0, none⟩) ws.length 1 (strs ws)) (some ⟨b0, 0, none⟩) ws.length 1 (ws.flatMap fun w => [str w]) := by rw [strs_flat]; exact rdS_sees _ _ _ _
  refine Nx.give 5 (ownS 37 none 0 0 10 []) (own_nil _ _ _ _) ?_
  refine Nx.give 6 (rdAll []) (rdAll_nil _ _) ?_
  repeat' (first
    | ((with_reducible refine atBr ?_); (first | refine BrM.t rfl ?_ | refine BrM.f rfl ?_ | refine BrM.dec (fun _ => ?_) (fun _ => ?_) | refine BrM.mk (fun _ => ?_) (fun _ => ?_)) <;> conv => whnf)
    | ((with_reducible refine atAr ?_); refine Ar.i64 (by omega) (by omega) ?_; conv => whnf)
    | (fail)
    | ((with_reducible refine atOps ?_); refine go 200 ?_; conv => whnf)
    | ((with_reducible refine atPlan ?_); refine Nx.runP (n := 200) rfl (by repeat (first | exact subB.nil _ | refine subB.cons rfl ?_)) ?_; conv => whnf)
    | ((with_reducible refine atAftL ?_); refine Nx.late ?_)
    | ((fail_if_success (with_reducible refine atRet ?_)); (fail_if_success (with_reducible refine atLoop ?_)); (fail_if_success (with_reducible refine atIn ?_)); (fail_if_success (with_reducible refine atDrawn ?_)); (fail_if_success (with_reducible refine atEnd ?_)); (with_reducible refine atRun ?_); refine go 200 ?_; conv => whnf))
  refine Nx.loop (X := RlX) (RlI ws r) (fun x => ws.length - x.i)
    (fun x => [(5, sl x.A x.L.length x.c), (11, sl (some ⟨b0, 0, none⟩) ws.length ws.length), (12, iv ws.length), (13, iv x.i)]) (fun _ => []) [] (fun x => [(0, roAll m), (3, rdS (some ⟨b0, 0, none⟩) ws.length 1 (strs ws)), (5, ownS 37 x.A x.L.length x.c 10 (x.L.flatMap LnS.enc)), (6, rdAll x.L)]) ⟨0, [], none, 0⟩ ⟨Nat.zero_le _, Nat.le_refl _, by rw [hr, List.drop_zero]; cases readA ws 0 <;> simp⟩ ?_ ?_ ?_ ?_ ?_
  · repeat (first | exact subE.nil _ | refine subE.cons rfl rfl ?_ | refine subE.cons' rfl (fun _ => rfl) ?_)
  · repeat (first | exact subM.nil _ | refine subM.cons rfl rfl rfl ?_)
  · repeat (first | exact subB.nil _ | refine subB.cons rfl ?_)
  · repeat (first | exact subR.nil _ | refine subR.cons rfl rfl ?_)
  intro x hx ih
  have hi := hx.i
  have hn := hx.n
  by_cases hlt : x.i < ws.length
  · have hmu : ws.length - (x.i + 1) < ws.length - x.i := by omega
    have hwl := hl2 _ (List.getElem_mem hlt)
    by_cases hsk : skipA ws[x.i]
    · have nx := hx.skip hlt hsk
      by_cases h0 : ws[x.i] = []
      · repeat' (first
          | ((with_reducible refine atBr ?_); refine BrM.yes (by omega) ?_; conv => whnf)
          | ((with_reducible refine atBr ?_); refine BrM.yes (tl_eq h0) ?_; conv => whnf)
          | ((with_reducible refine atAr ?_); refine Ar.to (k := .i64) (((x.i+1:Nat):Int)) (by omega) ⟨by omega, by omega⟩ ?_; conv => whnf)
          | ((with_reducible refine atBr ?_); (first | refine BrM.t rfl ?_ | refine BrM.f rfl ?_ | refine BrM.dec (fun _ => ?_) (fun _ => ?_) | refine BrM.mk (fun _ => ?_) (fun _ => ?_)) <;> conv => whnf)
          | ((with_reducible refine atAr ?_); refine Ar.i64 (by omega) (by omega) ?_; conv => whnf)
          | ((with_reducible refine atIdx ?_); refine Nx.idx 3 rfl rfl rfl Tryz.underlying56 rfl rfl rfl one_len hsee rfl rfl (by omega) fun _ _ _ => ?_)
          | ((with_reducible refine atLoad ?_); first | (refine Nx.load1 3 rfl rfl rfl rfl (SeesAt.sub (by assumption) _ rfl) rfl ?_) | (refine Nx.load1 3 rfl rfl rfl rfl (by assumption) rfl ?_) | (refine Nx.load 3 rfl rfl rfl rfl (by assumption) rfl rfl ?_))
          | ((with_reducible refine atIn ?_); refine Nx.weak ((ih _ nx hmu)) ?_ ?_ ?_ ?_ <;> (first | exact subM.nil _ | exact subB.nil _ | exact subR.nil _ | ((repeat (first | exact subE.nil _ | refine subE.cons rfl rfl ?_ | refine subE.cons' rfl (fun _ => rfl) ?_ | (refine subE.cons rfl ?_ ?_; · (simp; done)))); done) | ((repeat (first | exact subM.nil _ | refine subM.cons rfl rfl rfl ?_)); done) | ((repeat (first | exact subB.nil _ | refine subB.cons rfl ?_)); done) | ((repeat (first | exact subR.nil _ | refine subR.cons rfl rfl ?_)); done) | omega | (dsimp only; omega) | (skip) | skip))
          | ((with_reducible refine atOps ?_); refine go 200 ?_; conv => whnf)
          | ((with_reducible refine atPlan ?_); refine Nx.runP (n := 200) rfl (by repeat (first | exact subB.nil _ | refine subB.cons rfl ?_)) ?_; conv => whnf)
          | ((with_reducible refine atAftL ?_); refine Nx.late ?_)
          | ((fail_if_success (with_reducible refine atRet ?_)); (fail_if_success (with_reducible refine atLoop ?_)); (fail_if_success (with_reducible refine atIn ?_)); (fail_if_success (with_reducible refine atDrawn ?_)); (fail_if_success (with_reducible refine atEnd ?_)); (with_reducible refine atRun ?_); refine go 200 ?_; conv => whnf))
      · have hP := HasPrefix_ok (m := m) ws[x.i] [35]
        have h35 : ws[x.i][0]? = some 35 := hsk.resolve_left h0
        rw [pre35, decide_eq_true h35] at hP
        repeat' (first
          | ((with_reducible refine atBr ?_); refine BrM.yes (by omega) ?_; conv => whnf)
          | ((with_reducible refine atBr ?_); refine BrM.not (fun h => h0 (toList_eq h)) ?_; conv => whnf)
          | ((with_reducible refine atAr ?_); refine Ar.to (k := .i64) (((x.i+1:Nat):Int)) (by omega) ⟨by omega, by omega⟩ ?_; conv => whnf)
          | ((with_reducible refine atBr ?_); (first | refine BrM.t rfl ?_ | refine BrM.f rfl ?_ | refine BrM.dec (fun _ => ?_) (fun _ => ?_) | refine BrM.mk (fun _ => ?_) (fun _ => ?_)) <;> conv => whnf)
          | ((with_reducible refine atAr ?_); refine Ar.i64 (by omega) (by omega) ?_; conv => whnf)
          | ((with_reducible refine atIdx ?_); refine Nx.idx 3 rfl rfl rfl Tryz.underlying56 rfl rfl rfl one_len hsee rfl rfl (by omega) fun _ _ _ => ?_)
          | ((with_reducible refine atLoad ?_); first | (refine Nx.load1 3 rfl rfl rfl rfl (SeesAt.sub (by assumption) _ rfl) rfl ?_) | (refine Nx.load1 3 rfl rfl rfl rfl (by assumption) rfl ?_) | (refine Nx.load 3 rfl rfl rfl rfl (by assumption) rfl rfl ?_))
          | ((with_reducible refine (atCall 51) ?_); refine Nx.call [0] [0] rfl rfl rfl rfl rfl (hP) rfl fun v Q hQ => ?_; obtain ⟨rfl, rfl⟩ := hQ)
          | ((with_reducible refine atIn ?_); refine Nx.weak ((ih _ nx hmu)) ?_ ?_ ?_ ?_ <;> (first | exact subM.nil _ | exact subB.nil _ | exact subR.nil _ | ((repeat (first | exact subE.nil _ | refine subE.cons rfl rfl ?_ | refine subE.cons' rfl (fun _ => rfl) ?_ | (refine subE.cons rfl ?_ ?_; · (simp; done)))); done) | ((repeat (first | exact subM.nil _ | refine subM.cons rfl rfl rfl ?_)); done) | ((repeat (first | exact subB.nil _ | refine subB.cons rfl ?_)); done) | ((repeat (first | exact subR.nil _ | refine subR.cons rfl rfl ?_)); done) | omega | (dsimp only; omega) | (skip) | skip))
          | ((with_reducible refine atOps ?_); refine go 200 ?_; conv => whnf)
          | ((with_reducible refine atPlan ?_); refine Nx.runP (n := 200) rfl (by repeat (first | exact subB.nil _ | refine subB.cons rfl ?_)) ?_; conv => whnf)
          | ((with_reducible refine atAftL ?_); refine Nx.late ?_)
          | ((fail_if_success (with_reducible refine atRet ?_)); (fail_if_success (with_reducible refine atLoop ?_)); (fail_if_success (with_reducible refine atIn ?_)); (fail_if_success (with_reducible refine atDrawn ?_)); (fail_if_success (with_reducible refine atEnd ?_)); (with_reducible refine atRun ?_); refine go 200 ?_; conv => whnf))
    · have h0 : ¬ ws[x.i] = [] := fun h => hsk (.inl h)
      have hP := HasPrefix_ok (m := m) ws[x.i] [35]
      rw [pre35, decide_eq_false (fun h => hsk (.inr h))] at hP
      have hPa := Parse_ok hG ws[x.i] (by omega)
      cases hp : parseA ws[x.i] with
      | error e =>
        have hb := hx.bad hlt hsk hp
        rw [hp] at hPa
        repeat' (first
          | ((with_reducible refine atBr ?_); refine BrM.yes (by omega) ?_; conv => whnf)
          | ((with_reducible refine atBr ?_); refine BrM.not (fun h => h0 (toList_eq h)) ?_; conv => whnf)
          | ((with_reducible refine atBr ?_); (first | refine BrM.t rfl ?_ | refine BrM.f rfl ?_ | refine BrM.dec (fun _ => ?_) (fun _ => ?_) | refine BrM.mk (fun _ => ?_) (fun _ => ?_)) <;> conv => whnf)
          | ((with_reducible refine atAr ?_); refine Ar.i64 (by omega) (by omega) ?_; conv => whnf)
          | ((with_reducible refine atIdx ?_); refine Nx.idx 3 rfl rfl rfl Tryz.underlying56 rfl rfl rfl one_len hsee rfl rfl (by omega) fun _ _ _ => ?_)
          | ((with_reducible refine atLoad ?_); first | (refine Nx.load1 3 rfl rfl rfl rfl (SeesAt.sub (by assumption) _ rfl) rfl ?_) | (refine Nx.load1 3 rfl rfl rfl rfl (by assumption) rfl ?_) | (refine Nx.load 3 rfl rfl rfl rfl (by assumption) rfl rfl ?_))
          | ((with_reducible refine (atCall 51) ?_); refine Nx.call [0] [0] rfl rfl rfl rfl rfl (hP) rfl fun v Q hQ => ?_; obtain ⟨rfl, rfl⟩ := hQ)
          | ((with_reducible refine atOps ?_); refine go 200 ?_; conv => whnf)
          | ((with_reducible refine atPlan ?_); refine Nx.runP (n := 200) rfl (by repeat (first | exact subB.nil _ | refine subB.cons rfl ?_)) ?_; conv => whnf)
          | ((with_reducible refine atAftL ?_); refine Nx.late ?_)
          | ((fail_if_success (with_reducible refine atRet ?_)); (fail_if_success (with_reducible refine atLoop ?_)); (fail_if_success (with_reducible refine atIn ?_)); (fail_if_success (with_reducible refine atDrawn ?_)); (fail_if_success (with_reducible refine atEnd ?_)); (with_reducible refine atRun ?_); refine go 200 ?_; conv => whnf))
        refine Nx.call [0] [0,9] rfl rfl rfl rfl rfl (hPa) rfl fun v Q hQ => ?_
        obtain ⟨b, q, rfl, rfl⟩ := hQ
        repeat' (first
          | ((with_reducible refine atAr ?_); refine Ar.to (k := .i64) (((x.i+1:Nat):Int)) (by omega) ⟨by omega, by omega⟩ ?_; conv => whnf)
          | ((with_reducible refine atBr ?_); (first | refine BrM.t rfl ?_ | refine BrM.f rfl ?_ | refine BrM.dec (fun _ => ?_) (fun _ => ?_) | refine BrM.mk (fun _ => ?_) (fun _ => ?_)) <;> conv => whnf)
          | ((with_reducible refine atAr ?_); refine Ar.i64 (by omega) (by omega) ?_; conv => whnf)
          | ((with_reducible refine atRet ?_); refine Nx.ret [0,9] Tryz.func23 rfl rfl ?_; (rw [hb]; exact ⟨b, q, rfl, rfl⟩))
          | ((with_reducible refine atOps ?_); refine go 200 ?_; conv => whnf)
          | ((with_reducible refine atPlan ?_); refine Nx.runP (n := 200) rfl (by repeat (first | exact subB.nil _ | refine subB.cons rfl ?_)) ?_; conv => whnf)
          | ((with_reducible refine atAftL ?_); refine Nx.late ?_)
          | ((fail_if_success (with_reducible refine atRet ?_)); (fail_if_success (with_reducible refine atLoop ?_)); (fail_if_success (with_reducible refine atIn ?_)); (fail_if_success (with_reducible refine atDrawn ?_)); (fail_if_success (with_reducible refine atEnd ?_)); (with_reducible refine atRun ?_); refine go 200 ?_; conv => whnf))
      | ok o =>
        rw [hp] at hPa
        repeat' (first
          | ((with_reducible refine atBr ?_); refine BrM.yes (by omega) ?_; conv => whnf)
          | ((with_reducible refine atBr ?_); refine BrM.not (fun h => h0 (toList_eq h)) ?_; conv => whnf)
          | ((with_reducible refine atBr ?_); (first | refine BrM.t rfl ?_ | refine BrM.f rfl ?_ | refine BrM.dec (fun _ => ?_) (fun _ => ?_) | refine BrM.mk (fun _ => ?_) (fun _ => ?_)) <;> conv => whnf)
          | ((with_reducible refine atAr ?_); refine Ar.i64 (by omega) (by omega) ?_; conv => whnf)
          | ((with_reducible refine atIdx ?_); refine Nx.idx 3 rfl rfl rfl Tryz.underlying56 rfl rfl rfl one_len hsee rfl rfl (by omega) fun _ _ _ => ?_)
          | ((with_reducible refine atLoad ?_); first | (refine Nx.load1 3 rfl rfl rfl rfl (SeesAt.sub (by assumption) _ rfl) rfl ?_) | (refine Nx.load1 3 rfl rfl rfl rfl (by assumption) rfl ?_) | (refine Nx.load 3 rfl rfl rfl rfl (by assumption) rfl rfl ?_))
          | ((with_reducible refine (atCall 51) ?_); refine Nx.call [0] [0] rfl rfl rfl rfl rfl (hP) rfl fun v Q hQ => ?_; obtain ⟨rfl, rfl⟩ := hQ)
          | ((with_reducible refine atOps ?_); refine go 200 ?_; conv => whnf)
          | ((with_reducible refine atPlan ?_); refine Nx.runP (n := 200) rfl (by repeat (first | exact subB.nil _ | refine subB.cons rfl ?_)) ?_; conv => whnf)
          | ((with_reducible refine atAftL ?_); refine Nx.late ?_)
          | ((fail_if_success (with_reducible refine atRet ?_)); (fail_if_success (with_reducible refine atLoop ?_)); (fail_if_success (with_reducible refine atIn ?_)); (fail_if_success (with_reducible refine atDrawn ?_)); (fail_if_success (with_reducible refine atEnd ?_)); (with_reducible refine atRun ?_); refine go 200 ?_; conv => whnf))
        refine Nx.call [0] [0,13,14] rfl rfl rfl rfl rfl (hPa) rfl fun v Q hQ => ?_
        obtain ⟨A2, c2, B2, d2, rfl, rfl⟩ := hQ
        have nx := fun A c => hx.more (y := ⟨o, A2, c2, B2, d2⟩) hlt hsk hp A c
        refine Nx.share 13 (rdS A2 o.after.length 1 (intsV o.after)) rfl own_share ?_
        refine Nx.share 14 (rdS B2 o.evs.length 2 (evsV o.evs)) rfl own_share ?_
        refine Nx.turn [6,13,14] [6] [rdAll (x.L ++ [⟨o, A2, c2, B2, d2⟩])] rfl (rdAll_more (L := x.L) (x := ⟨o, A2, c2, B2, d2⟩)) ?_
        repeat' (first
          | ((with_reducible refine atAr ?_); refine Ar.to (k := .i64) (((x.i+1:Nat):Int)) (by omega) ⟨by omega, by omega⟩ ?_; conv => whnf)
          | ((with_reducible refine atBr ?_); (first | refine BrM.t rfl ?_ | refine BrM.f rfl ?_ | refine BrM.dec (fun _ => ?_) (fun _ => ?_) | refine BrM.mk (fun _ => ?_) (fun _ => ?_)) <;> conv => whnf)
          | ((with_reducible refine atAr ?_); refine Ar.i64 (by omega) (by omega) ?_; conv => whnf)
          | ((with_reducible refine atApp ?_); refine Nx.append 5 (sz := 10) (by_ := 112) (news := (lnC o A2 c2 B2 d2)) rfl rfl rfl rfl rfl Tryz.underlying60 rfl rfl rfl rfl rfl (by unfold maxLen; omega) (by omega) fun A' c'' => ?_)
          | ((with_reducible refine atOps ?_); refine go 200 ?_; conv => whnf)
          | ((with_reducible refine atPlan ?_); refine Nx.runP (n := 200) rfl (by repeat (first | exact subB.nil _ | refine subB.cons rfl ?_)) ?_; conv => whnf)
          | ((with_reducible refine atAftL ?_); refine Nx.late ?_)
          | ((fail_if_success (with_reducible refine atRet ?_)); (fail_if_success (with_reducible refine atLoop ?_)); (fail_if_success (with_reducible refine atIn ?_)); (fail_if_success (with_reducible refine atDrawn ?_)); (fail_if_success (with_reducible refine atEnd ?_)); (with_reducible refine atRun ?_); refine go 200 ?_; conv => whnf))
        refine (ih _ (nx A' c'') hmu).weak ?_ ?_ ?_ ?_
        · exact .cons rfl (by simp) (.cons rfl rfl (.cons rfl rfl (.cons rfl rfl (.nil _))))
        · repeat (first | exact subM.nil _ | refine subM.cons rfl rfl rfl ?_)
        · repeat (first | exact subB.nil _ | refine subB.cons rfl ?_)
        · exact .cons rfl rfl (.cons rfl rfl (.cons rfl (by simp [lines_snoc]) (.cons rfl rfl (.nil _))))
  · have hf := hx.fin hlt
    repeat' (first
      | ((with_reducible refine atBr ?_); refine BrM.not (by omega) ?_; conv => whnf)
      | ((with_reducible refine atBr ?_); (first | refine BrM.t rfl ?_ | refine BrM.f rfl ?_ | refine BrM.dec (fun _ => ?_) (fun _ => ?_) | refine BrM.mk (fun _ => ?_) (fun _ => ?_)) <;> conv => whnf)
      | ((with_reducible refine atAr ?_); refine Ar.i64 (by omega) (by omega) ?_; conv => whnf)
      | ((with_reducible refine atRet ?_); refine Nx.ret [0,5,6] Tryz.func23 rfl rfl ?_; (rw [hf]; exact ⟨x.L, x.A, x.c, rfl, rfl, rfl⟩))
      | ((with_reducible refine atOps ?_); refine go 200 ?_; conv => whnf)
      | ((with_reducible refine atPlan ?_); refine Nx.runP (n := 200) rfl (by repeat (first | exact subB.nil _ | refine subB.cons rfl ?_)) ?_; conv => whnf)
      | ((with_reducible refine atAftL ?_); refine Nx.late ?_)
      | ((fail_if_success (with_reducible refine atRet ?_)); (fail_if_success (with_reducible refine atLoop ?_)); (fail_if_success (with_reducible refine atIn ?_)); (fail_if_success (with_reducible refine atDrawn ?_)); (fail_if_success (with_reducible refine atEnd ?_)); (with_reducible refine atRun ?_); refine go 200 ?_; conv => whnf))
end Go.Proofs.YtkfnbpbhcnekiaaGreatDoor

/- The lines that bytes tell: the program's. -/
namespace Go.Proofs.YtkfnbpbhcnekiaaGreatDoor
open Go.RowKit Go.Lib
set_option maxRecDepth 20000
set_option maxHeartbeats 4000000
section
variable {g : Cx} {env : Env} {mem : Mem} {bnd : Bnd} {L : Res} {N : Act → World → Prop} {Q : Exit → Act → World → Prop}
theorem Nx.shrI {o : Oper} {t tt : TypeId} {x y : Operand} {k ky : IntKind} {i j r : Int} (ho : o.op = .binOp .shr t x y tt) (hx : ev env x = some (.c (.v (.int k i)))) (hy : ev env y = some (.c (.v (.int ky j)))) (hd : dstOk g.n o.dst = true) (hj : 0 ≤ j) (hr : i / 2 ^ min j.toNat k.bits = r)
    (hk : Nx g (putE o.dst (.c (.v (.int k r))) env) mem bnd L N) : Nx g env mem bnd L (OneC g o N Q) := by
  subst hr
  refine Nx.val (x := .c (.v (.int k _))) hd (fun β a w hr w' => ?_) hk
  have e1 : a.eval x = .int k i := hr.ev hx
  have e2 : a.eval y = .int ky j := hr.ev hy
  simp only [execOp, ho, e1, e2]
  have hg : eqGuard .shr t x y (.int k i) (.int ky j) = pure () := eqGuard_other _ _ _ _ _ _ rfl
  have hb : binOp .shr t (.int k i) (.int ky j) = Op.shift .shr k i ky j := rfl
  simp only [hg, hb, shift_shr_any k ky i j hj, Sem.run_bind, Sem.run_pure, Result.andThen_ok, SV.den, Ce.den]
theorem Nx.shlI {o : Oper} {t tt : TypeId} {x y : Operand} {k ky : IntKind} {i j r : Int} (ho : o.op = .binOp .shl t x y tt) (hx : ev env x = some (.c (.v (.int k i)))) (hy : ev env y = some (.c (.v (.int ky j)))) (hd : dstOk g.n o.dst = true) (hj : 0 ≤ j) (hr : k.wrap (i * 2 ^ min j.toNat k.bits) = r)
    (hk : Nx g (putE o.dst (.c (.v (.int k r))) env) mem bnd L N) : Nx g env mem bnd L (OneC g o N Q) := by
  subst hr
  refine Nx.val (x := .c (.v (.int k _))) hd (fun β a w hr w' => ?_) hk
  have e1 : a.eval x = .int k i := hr.ev hx
  have e2 : a.eval y = .int ky j := hr.ev hy
  simp only [execOp, ho, e1, e2]
  have hg : eqGuard .shl t x y (.int k i) (.int ky j) = pure () := eqGuard_other _ _ _ _ _ _ rfl
  have hb : binOp .shl t (.int k i) (.int ky j) = Op.shift .shl k i ky j := rfl
  simp only [hg, hb, shift_shl_any k ky i j hj, Sem.run_bind, Sem.run_pure, Result.andThen_ok, SV.den, Ce.den]
theorem Nx.and1 {o : Oper} {t tt : TypeId} {x y : Operand} {n : Nat} {i r : Int} (ho : o.op = .binOp .and t x y tt) (hx : ev env x = some (.c (.v (.int .i64 i)))) (hy : ev env y = some (.c (.v (.int .i64 1)))) (hd : dstOk g.n o.dst = true) (hi : i = n) (hn : n < 1000) (hr : ((n % 2 : Nat) : Int) = r)
    (hk : Nx g (putE o.dst (.c (.v (.int .i64 r))) env) mem bnd L N) : Nx g env mem bnd L (OneC g o N Q) := by
  subst hr hi
  refine Nx.val (x := .c (.v (.int .i64 _))) hd (fun β a w hr w' => ?_) hk
  have e1 : a.eval x = .int .i64 n := hr.ev hx
  have e2 : a.eval y = .int .i64 1 := hr.ev hy
  simp only [execOp, ho, e1, e2]
  have hg : eqGuard .and t x y (.int .i64 n) (.int .i64 1) = pure () := eqGuard_other _ _ _ _ _ _ rfl
  have hb : binOp .and t (.int .i64 n) (.int .i64 1) = pure (.int .i64 ((n % 2 : Nat) : Int)) := by
    have hv : (BitVec.ofInt 64 (n : Int) &&& BitVec.ofInt 64 1).toNat = n % 2 := by
      have e : BitVec.ofInt 64 (n : Int) = BitVec.ofNat 64 n := by simp
      have e' : BitVec.ofInt 64 1 = BitVec.ofNat 64 1 := rfl
      rw [e, e', BitVec.toNat_and, BitVec.toNat_ofNat, BitVec.toNat_ofNat, Nat.mod_eq_of_lt (by omega : n < 2 ^ 64), Nat.mod_eq_of_lt (by omega : 1 < 2 ^ 64), Nat.and_one_is_mod]
    have h0 : binOp .and t (.int .i64 n) (.int .i64 1) = pure (.int .i64 (IntKind.i64.wrap ((BitVec.ofInt 64 (n : Int) &&& BitVec.ofInt 64 1).toNat : Int))) := rfl
    rw [h0, hv, inR_wrap (k := .i64) (n := ((n % 2 : Nat) : Int)) ⟨by omega, by omega⟩]
  simp only [hg, hb, Sem.run_bind, Sem.run_pure, Result.andThen_ok, SV.den, Ce.den]
end
attribute [local irreducible] Nx Ar BrM
theorem tm (a k : Nat) : ((a : Int)).tmod (k : Int) = ((a % k : Nat) : Int) := by
  rw [Int.ofNat_tmod]
theorem td (a k : Nat) (h : a < 100000) : IntKind.i64.wrap (((a : Int)).tdiv (k : Int)) = ((a / k : Nat) : Int) := by
  have hle : a / k ≤ a := Nat.div_le_self _ _
  have e : ((a : Int)).tdiv (k : Int) = ((a / k : Nat) : Int) := (Int.ofNat_tdiv a k).symm
  rw [e]
  generalize a / k = q at hle
  exact inR_wrap (k := .i64) ⟨by omega, by omega⟩
/-- A way by its number. -/
def wayN (n : Nat) : Way := ⟨((n % 4 : Nat) : Int), if n % 4 = 1 then ((n / 4 : Nat) : Int) else 0, if n % 4 = 3 then ((n / 4 : Nat) : Int) + 1 else 0⟩
theorem ways_ok (n : Nat) (hn : n < 256) : FnOk Tryz.prog 69 [.int .i64 n] [] (fun v Q => v = wayV (wayN n) ∧ Q = []) := by
  have h4 : n % 4 = 0 ∨ n % 4 = 1 ∨ n % 4 = 2 ∨ n % 4 = 3 := by omega
  have hw : wayN n = ⟨((n % 4 : Nat) : Int), if n % 4 = 1 then ((n / 4 : Nat) : Int) else 0, if n % 4 = 3 then ((n / 4 : Nat) : Int) + 1 else 0⟩ := rfl
  by_cases h1 : n % 4 = 1
  · rw [if_pos h1, if_neg (by omega)] at hw
    rw [hw]
    refine FnOk.start Tryz.func69 rfl rfl rfl rfl fun F os tape output => ?_
    refine go 200 ?_
    conv => whnf
    repeat' (first
      | ((with_reducible refine atBr ?_); refine BrM.yes (by omega) ?_; conv => whnf)
      | ((with_reducible refine atBr ?_); refine BrM.not (by omega) ?_; conv => whnf)
      | ((with_reducible refine atBr ?_); (first | refine BrM.t rfl ?_ | refine BrM.f rfl ?_ | refine BrM.dec (fun _ => ?_) (fun _ => ?_) | refine BrM.mk (fun _ => ?_) (fun _ => ?_)) <;> conv => whnf)
      | ((with_reducible refine atAr ?_); refine Ar.i64 (by omega) (by omega) ?_; conv => whnf)
      | ((with_reducible refine atRem ?_); refine Nx.divI rfl (.inl ⟨rfl, (tm n 4)⟩) rfl rfl (by decide) rfl ?_)
      | ((with_reducible refine atQuo ?_); refine Nx.divI rfl (.inr ⟨rfl, (td n 4 (by omega))⟩) rfl rfl (by decide) rfl ?_)
      | ((with_reducible refine atRet ?_); refine Nx.ret [] Tryz.func69 rfl rfl ?_; (exact ⟨rfl, rfl⟩))
      | ((with_reducible refine atOps ?_); refine go 200 ?_; conv => whnf)
      | ((with_reducible refine atPlan ?_); refine Nx.runP (n := 200) rfl (by repeat (first | exact subB.nil _ | refine subB.cons rfl ?_)) ?_; conv => whnf)
      | ((with_reducible refine atAftL ?_); refine Nx.late ?_)
      | ((fail_if_success (with_reducible refine atRet ?_)); (fail_if_success (with_reducible refine atLoop ?_)); (fail_if_success (with_reducible refine atIn ?_)); (fail_if_success (with_reducible refine atDrawn ?_)); (fail_if_success (with_reducible refine atEnd ?_)); (with_reducible refine atRun ?_); refine go 200 ?_; conv => whnf))
  by_cases h3 : n % 4 = 3
  · rw [if_neg h1, if_pos h3] at hw
    rw [hw]
    refine FnOk.start Tryz.func69 rfl rfl rfl rfl fun F os tape output => ?_
    refine go 200 ?_
    conv => whnf
    repeat' (first
      | ((with_reducible refine atBr ?_); refine BrM.yes (by omega) ?_; conv => whnf)
      | ((with_reducible refine atBr ?_); refine BrM.not (by omega) ?_; conv => whnf)
      | ((with_reducible refine atBr ?_); (first | refine BrM.t rfl ?_ | refine BrM.f rfl ?_ | refine BrM.dec (fun _ => ?_) (fun _ => ?_) | refine BrM.mk (fun _ => ?_) (fun _ => ?_)) <;> conv => whnf)
      | ((with_reducible refine atAr ?_); refine Ar.i64 (by omega) (by omega) ?_; conv => whnf)
      | ((with_reducible refine atRem ?_); refine Nx.divI rfl (.inl ⟨rfl, (tm n 4)⟩) rfl rfl (by decide) rfl ?_)
      | ((with_reducible refine atQuo ?_); refine Nx.divI rfl (.inr ⟨rfl, (td n 4 (by omega))⟩) rfl rfl (by decide) rfl ?_)
      | ((with_reducible refine atRet ?_); refine Nx.ret [] Tryz.func69 rfl rfl ?_; (exact ⟨rfl, rfl⟩))
      | ((with_reducible refine atOps ?_); refine go 200 ?_; conv => whnf)
      | ((with_reducible refine atPlan ?_); refine Nx.runP (n := 200) rfl (by repeat (first | exact subB.nil _ | refine subB.cons rfl ?_)) ?_; conv => whnf)
      | ((with_reducible refine atAftL ?_); refine Nx.late ?_)
      | ((fail_if_success (with_reducible refine atRet ?_)); (fail_if_success (with_reducible refine atLoop ?_)); (fail_if_success (with_reducible refine atIn ?_)); (fail_if_success (with_reducible refine atDrawn ?_)); (fail_if_success (with_reducible refine atEnd ?_)); (with_reducible refine atRun ?_); refine go 200 ?_; conv => whnf))
  · rw [if_neg h1, if_neg h3] at hw
    rw [hw]
    refine FnOk.start Tryz.func69 rfl rfl rfl rfl fun F os tape output => ?_
    refine go 200 ?_
    conv => whnf
    repeat' (first
      | ((with_reducible refine atBr ?_); refine BrM.yes (by omega) ?_; conv => whnf)
      | ((with_reducible refine atBr ?_); refine BrM.not (by omega) ?_; conv => whnf)
      | ((with_reducible refine atBr ?_); (first | refine BrM.t rfl ?_ | refine BrM.f rfl ?_ | refine BrM.dec (fun _ => ?_) (fun _ => ?_) | refine BrM.mk (fun _ => ?_) (fun _ => ?_)) <;> conv => whnf)
      | ((with_reducible refine atAr ?_); refine Ar.i64 (by omega) (by omega) ?_; conv => whnf)
      | ((with_reducible refine atRem ?_); refine Nx.divI rfl (.inl ⟨rfl, (tm n 4)⟩) rfl rfl (by decide) rfl ?_)
      | ((with_reducible refine atQuo ?_); refine Nx.divI rfl (.inr ⟨rfl, (td n 4 (by omega))⟩) rfl rfl (by decide) rfl ?_)
      | ((with_reducible refine atRet ?_); refine Nx.ret [] Tryz.func69 rfl rfl ?_; (exact ⟨rfl, rfl⟩))
      | ((with_reducible refine atOps ?_); refine go 200 ?_; conv => whnf)
      | ((with_reducible refine atPlan ?_); refine Nx.runP (n := 200) rfl (by repeat (first | exact subB.nil _ | refine subB.cons rfl ?_)) ?_; conv => whnf)
      | ((with_reducible refine atAftL ?_); refine Nx.late ?_)
      | ((fail_if_success (with_reducible refine atRet ?_)); (fail_if_success (with_reducible refine atLoop ?_)); (fail_if_success (with_reducible refine atIn ?_)); (fail_if_success (with_reducible refine atDrawn ?_)); (fail_if_success (with_reducible refine atEnd ?_)); (with_reducible refine atRun ?_); refine go 200 ?_; conv => whnf))
/-- The list of one number, if there is one. -/
def oneN (n : Nat) : List Int := if n < 128 then [] else [((n % 64 : Nat) : Int)]
theorem one_ok (n : Nat) : FnOk Tryz.prog 70 [.int .i64 n] [] (fun v Q => ∃ A c, v = .slice A (oneN n).length c ∧ Q = [ownS 3 A (oneN n).length c 1 (intsV (oneN n))]) := by
  by_cases h : n < 128
  · have e : oneN n = [] := by unfold oneN; rw [if_pos h]
    rw [e]
    refine FnOk.start Tryz.func70 rfl rfl rfl rfl fun F os tape output => ?_
    refine Nx.give 3 (ownS 3 none 0 0 1 []) (own_nil _ _ _ _) ?_
    refine go 200 ?_
    conv => whnf
    repeat' (first
      | ((with_reducible refine atBr ?_); refine BrM.yes (by omega) ?_; conv => whnf)
      | ((with_reducible refine atBr ?_); (first | refine BrM.t rfl ?_ | refine BrM.f rfl ?_ | refine BrM.dec (fun _ => ?_) (fun _ => ?_) | refine BrM.mk (fun _ => ?_) (fun _ => ?_)) <;> conv => whnf)
      | ((with_reducible refine atAr ?_); refine Ar.i64 (by omega) (by omega) ?_; conv => whnf)
      | ((with_reducible refine atRet ?_); refine Nx.ret [3] Tryz.func70 rfl rfl ?_; (exact ⟨none, 0, rfl, rfl⟩))
      | ((with_reducible refine atOps ?_); refine go 200 ?_; conv => whnf)
      | ((with_reducible refine atPlan ?_); refine Nx.runP (n := 200) rfl (by repeat (first | exact subB.nil _ | refine subB.cons rfl ?_)) ?_; conv => whnf)
      | ((with_reducible refine atAftL ?_); refine Nx.late ?_)
      | ((fail_if_success (with_reducible refine atRet ?_)); (fail_if_success (with_reducible refine atLoop ?_)); (fail_if_success (with_reducible refine atIn ?_)); (fail_if_success (with_reducible refine atDrawn ?_)); (fail_if_success (with_reducible refine atEnd ?_)); (with_reducible refine atRun ?_); refine go 200 ?_; conv => whnf))
  · have e : oneN n = [((n % 64 : Nat) : Int)] := by unfold oneN; rw [if_neg h]
    rw [e]
    refine FnOk.start Tryz.func70 rfl rfl rfl rfl fun F os tape output => ?_
    refine go 200 ?_
    conv => whnf
    repeat' (first
      | ((with_reducible refine Nx.weak K ?_ ?_ ?_ ?_) <;> (first | exact subM.nil _ | exact subB.nil _ | exact subR.nil _ | ((repeat (first | exact subE.nil _ | refine subE.cons rfl rfl ?_ | refine subE.cons' rfl (fun _ => rfl) ?_ | (refine subE.cons rfl ?_ ?_; · (simp; done)))); done) | ((repeat (first | exact subM.nil _ | refine subM.cons rfl rfl rfl ?_)); done) | ((repeat (first | exact subB.nil _ | refine subB.cons rfl ?_)); done) | ((repeat (first | exact subR.nil _ | refine subR.cons rfl rfl ?_)); done) | omega | (dsimp only; omega) | skip))
      | ((with_reducible refine atBr ?_); refine BrM.not (by omega) ?_; conv => whnf)
      | ((with_reducible refine atBr ?_); (first | refine BrM.t rfl ?_ | refine BrM.f rfl ?_ | refine BrM.dec (fun _ => ?_) (fun _ => ?_) | refine BrM.mk (fun _ => ?_) (fun _ => ?_)) <;> conv => whnf)
      | ((with_reducible refine atAr ?_); refine Ar.i64 (by omega) (by omega) ?_; conv => whnf)
      | ((with_reducible refine atRem ?_); refine Nx.divI rfl (.inl ⟨rfl, (tm n 64)⟩) rfl rfl (by decide) rfl ?_)
      | ((with_reducible refine atOps ?_); refine goR 200 ?_; conv => whnf)
      | ((with_reducible refine atPlan ?_); refine Nx.runP (n := 200) rfl (by repeat (first | exact subB.nil _ | refine subB.cons rfl ?_)) ?_; conv => whnf)
      | ((with_reducible refine atAftL ?_); refine Nx.late ?_)
      | ((fail_if_success (with_reducible refine atRet ?_)); (fail_if_success (with_reducible refine atLoop ?_)); (fail_if_success (with_reducible refine atIn ?_)); (fail_if_success (with_reducible refine atDrawn ?_)); (fail_if_success (with_reducible refine atEnd ?_)); (with_reducible refine atRun ?_); refine goR 1 ?_; conv => whnf))
    refine Nx.bind (l := 7) (fun b => ?_) rfl
    refine Nx.realS 2 (l := 7) rfl rfl ?_
    refine Nx.out 7 rfl rfl rfl rfl ?_
    refine Nx.turn [7] [3] [ownS 3 (some ⟨b, 0, none⟩) 1 1 1 [.int .i64 ((n % 64 : Nat) : Int)]] rfl (fun r h hs => ?_) ?_
    · obtain ⟨r1, g1, g2, a1, a2, a3, a4, a5, a6⟩ := hs
      exact ⟨r1, g1, g2, a1, a2, a3, a4, own_blk (cells := [.int .i64 ((n % 64 : Nat) : Int)]) (by show 1 ≤ maxLen; decide) _ _ a5, a6⟩
    refine Nx.ret [3] Tryz.func70 rfl rfl ?_
    exact ⟨_, _, rfl, rfl⟩
end Go.Proofs.YtkfnbpbhcnekiaaGreatDoor

/- The lines that bytes tell: the program's. -/
namespace Go.Proofs.YtkfnbpbhcnekiaaGreatDoor
open Go.RowKit Go.Lib
attribute [local irreducible] Nx Ar BrM Int.tmod Int.tdiv
set_option maxRecDepth 20000
set_option maxHeartbeats 4000000

def fourK (c : Nat) : Nat := if c % 32 < 16 then c % 32 else 16
def bitsTo (a j : Nat) : List Int := ((List.range j).filter fun i => decide (a / 2 ^ i % 2 = 1)).map fun (i : Nat) => (i : Int)
def evsTo (d j : Nat) : List Ev := (List.range j).map fun (i : Nat) => ⟨(d : Int), (i : Int)⟩
/-- The line of four bytes. -/
def fourA (c a b d : Nat) : Ln :=
  { deed := (fourK c : Int)
    who := if 6 ≤ fourK c ∧ fourK c ≤ 14 then ((a % 64 : Nat) : Int) else 0
    ring := if fourK c = 0 then ((b % 2 : Nat) : Int) else if 1 ≤ fourK c ∧ fourK c ≤ 4 then ((a % 8 : Nat) : Int) else 0
    n := if fourK c = 0 then ((2 ^ (a % 7) : Nat) : Int) else if fourK c = 2 ∨ fourK c = 3 then 1 + ((d % 8 : Nat) : Int) else if fourK c = 8 ∨ fourK c = 10 then (b : Int) else if fourK c = 16 then (a : Int) + 256 * (b : Int) else 0
    at_ := if fourK c = 15 then (b : Int) else 0
    way := if 1 ≤ fourK c ∧ fourK c ≤ 4 then wayN b else ⟨0, 0, 0⟩
    after := if 2 ≤ fourK c ∧ fourK c ≤ 4 then oneN d else if fourK c = 5 then bitsTo a 8 else []
    evs := if fourK c = 6 ∨ fourK c = 7 then evsTo d (1 + b % 4) else [] }
def FoPost (o : Ln) (v : Value) (Q : List SP) : Prop := ∃ A c B d, v = lnV o A c B d ∧ Q = [ownS 3 A o.after.length c 1 (intsV o.after), ownS 72 B o.evs.length d 2 (evsV o.evs)]
theorem FoPost.mk {o : Ln} (A B : Option Addr) (c d : Nat) : FoPost o (lnV o A c B d) [ownS 3 A o.after.length c 1 (intsV o.after), ownS 72 B o.evs.length d 2 (evsV o.evs)] := ⟨A, c, B, d, rfl, rfl⟩
theorem bitsTo_yes {a j : Nat} (h : a / 2 ^ j % 2 = 1) : bitsTo a (j + 1) = bitsTo a j ++ [(j : Int)] := by
  unfold bitsTo; rw [List.range_succ, List.filter_append, List.map_append]; simp [h]
theorem bitsTo_no {a j : Nat} (h : ¬ a / 2 ^ j % 2 = 1) : bitsTo a (j + 1) = bitsTo a j := by
  unfold bitsTo; rw [List.range_succ, List.filter_append, List.map_append]; simp [h]
theorem bitsTo_len (a j : Nat) : (bitsTo a j).length ≤ j := by
  unfold bitsTo; rw [List.length_map]; exact Nat.le_trans (List.length_filter_le _ _) (by simp)
theorem evsTo_succ (d j : Nat) : evsTo d (j + 1) = evsTo d j ++ [⟨(d : Int), (j : Int)⟩] := by unfold evsTo; rw [List.range_succ, List.map_append]; rfl
theorem evsTo_len (d j : Nat) : (evsTo d j).length = j := by unfold evsTo; simp
theorem shl7 {q : Nat} (h : q < 7) : IntKind.i64.wrap (1 * 2 ^ min ((q : Int)).toNat IntKind.i64.bits) = ((2 ^ q : Nat) : Int) := by
  have : q = 0 ∨ q = 1 ∨ q = 2 ∨ q = 3 ∨ q = 4 ∨ q = 5 ∨ q = 6 := by omega
  rcases this with rfl | rfl | rfl | rfl | rfl | rfl | rfl <;> rfl
theorem shr8 (a : Nat) {j : Nat} (h : j < 8) : (a : Int) / 2 ^ min ((j : Int)).toNat IntKind.i64.bits = ((a / 2 ^ j : Nat) : Int) := by
  have e : min ((j : Int)).toNat IntKind.i64.bits = j := by
    have : IntKind.i64.bits = 64 := rfl
    rw [this, Int.toNat_natCast]; omega
  rw [e]; simp
theorem pow7 {q : Nat} (h : q < 7) : 2 ^ q ≤ 64 := by
  have : q = 0 ∨ q = 1 ∨ q = 2 ∨ q = 3 ∨ q = 4 ∨ q = 5 ∨ q = 6 := by omega
  rcases this with rfl | rfl | rfl | rfl | rfl | rfl | rfl <;> decide
structure BtX where
  j : Nat
  A : Option Addr
  c : Nat
theorem four_0 (c a b d : Nat) (hc : c < 256) (ha : a < 256) (hb : b < 256) (hd : d < 256) (hk : c % 32 = 0) (hK : fourK c = 0) : FnOk Tryz.prog 52 [.int .i64 c, .int .i64 a, .int .i64 b, .int .i64 d] [] (FoPost (fourA c a b d)) := by
    have b7 : a % 7 < 7 := Nat.mod_lt _ (by decide)
    have hf : fourA c a b d = ⟨0, 0, ((b % 2 : Nat) : Int), ((2 ^ (a % 7) : Nat) : Int), 0, ⟨0, 0, 0⟩, [], []⟩ := by unfold fourA; rw [hK]; rfl
    rw [hf]
    have fin := fun A B c' d' => @FoPost.mk ⟨0, 0, ((b % 2 : Nat) : Int), ((2 ^ (a % 7) : Nat) : Int), 0, ⟨0, 0, 0⟩, [], []⟩ A B c' d'
    simp only at fin
    refine FnOk.start Tryz.func52 rfl rfl rfl rfl fun F os tape output => ?_
    refine Nx.give 3 (ownS 3 none 0 0 1 []) (own_nil _ _ _ _) ?_
    refine Nx.give 4 (ownS 72 none 0 0 2 []) (own_nil _ _ _ _) ?_
    refine go 200 ?_
    conv => whnf
    repeat' (first
      | ((with_reducible refine atBr ?_); refine BrM.not (by omega) ?_; conv => whnf)
      | ((with_reducible refine atBr ?_); refine BrM.yes (by omega) ?_; conv => whnf)
      | ((with_reducible refine atBr ?_); (first | refine BrM.t rfl ?_ | refine BrM.f rfl ?_ | refine BrM.dec (fun _ => ?_) (fun _ => ?_) | refine BrM.mk (fun _ => ?_) (fun _ => ?_)) <;> conv => whnf)
      | ((with_reducible refine atAr ?_); refine Ar.i64 (by omega) (by omega) ?_; conv => whnf)
      | ((with_reducible refine atRem ?_); refine Nx.divI rfl (.inl ⟨rfl, (tm c 32)⟩) rfl rfl (by decide) rfl ?_)
      | ((with_reducible refine atRem ?_); refine Nx.divI rfl (.inl ⟨rfl, (tm a 7)⟩) rfl rfl (by decide) rfl ?_)
      | ((with_reducible refine atRem ?_); refine Nx.divI rfl (.inl ⟨rfl, (tm a 8)⟩) rfl rfl (by decide) rfl ?_)
      | ((with_reducible refine atRem ?_); refine Nx.divI rfl (.inl ⟨rfl, (tm a 64)⟩) rfl rfl (by decide) rfl ?_)
      | ((with_reducible refine atRem ?_); refine Nx.divI rfl (.inl ⟨rfl, (tm b 2)⟩) rfl rfl (by decide) rfl ?_)
      | ((with_reducible refine atRem ?_); refine Nx.divI rfl (.inl ⟨rfl, (tm b 4)⟩) rfl rfl (by decide) rfl ?_)
      | ((with_reducible refine atRem ?_); refine Nx.divI rfl (.inl ⟨rfl, (tm d 8)⟩) rfl rfl (by decide) rfl ?_)
      | ((with_reducible refine atRem ?_); refine Nx.divI rfl (.inl ⟨rfl, (tm d 64)⟩) rfl rfl (by decide) rfl ?_)
      | (refine Nx.shlI rfl rfl rfl rfl (by omega) (shl7 b7) ?_)
      | ((with_reducible refine atOps ?_); refine go 200 ?_; conv => whnf)
      | ((with_reducible refine atPlan ?_); refine Nx.runP (n := 200) rfl (by repeat (first | exact subB.nil _ | refine subB.cons rfl ?_)) ?_; conv => whnf)
      | ((with_reducible refine atAftL ?_); refine Nx.late ?_)
      | ((fail_if_success (with_reducible refine atRet ?_)); (fail_if_success (with_reducible refine atLoop ?_)); (fail_if_success (with_reducible refine atIn ?_)); (fail_if_success (with_reducible refine atDrawn ?_)); (fail_if_success (with_reducible refine atEnd ?_)); (with_reducible refine atRun ?_); refine go 200 ?_; conv => whnf))
    refine Nx.ret [3,4] Tryz.func52 rfl rfl ?_
    rw [hk]
    exact fin none none 0 0
theorem four_1 (c a b d : Nat) (hc : c < 256) (ha : a < 256) (hb : b < 256) (hd : d < 256) (hk : c % 32 = 1) (hK : fourK c = 1) : FnOk Tryz.prog 52 [.int .i64 c, .int .i64 a, .int .i64 b, .int .i64 d] [] (FoPost (fourA c a b d)) := by
    have b7 : a % 7 < 7 := Nat.mod_lt _ (by decide)
    have hf : fourA c a b d = ⟨1, 0, ((a % 8 : Nat) : Int), 0, 0, wayN b, [], []⟩ := by unfold fourA; rw [hK]; rfl
    rw [hf]
    have fin := fun A B c' d' => @FoPost.mk ⟨1, 0, ((a % 8 : Nat) : Int), 0, 0, wayN b, [], []⟩ A B c' d'
    simp only at fin
    refine FnOk.start Tryz.func52 rfl rfl rfl rfl fun F os tape output => ?_
    refine Nx.give 3 (ownS 3 none 0 0 1 []) (own_nil _ _ _ _) ?_
    refine Nx.give 4 (ownS 72 none 0 0 2 []) (own_nil _ _ _ _) ?_
    refine go 200 ?_
    conv => whnf
    repeat' (first
      | ((with_reducible refine atBr ?_); refine BrM.not (by omega) ?_; conv => whnf)
      | ((with_reducible refine atBr ?_); refine BrM.yes (by omega) ?_; conv => whnf)
      | ((with_reducible refine atBr ?_); (first | refine BrM.t rfl ?_ | refine BrM.f rfl ?_ | refine BrM.dec (fun _ => ?_) (fun _ => ?_) | refine BrM.mk (fun _ => ?_) (fun _ => ?_)) <;> conv => whnf)
      | ((with_reducible refine atAr ?_); refine Ar.i64 (by omega) (by omega) ?_; conv => whnf)
      | ((with_reducible refine atRem ?_); refine Nx.divI rfl (.inl ⟨rfl, (tm c 32)⟩) rfl rfl (by decide) rfl ?_)
      | ((with_reducible refine atRem ?_); refine Nx.divI rfl (.inl ⟨rfl, (tm a 7)⟩) rfl rfl (by decide) rfl ?_)
      | ((with_reducible refine atRem ?_); refine Nx.divI rfl (.inl ⟨rfl, (tm a 8)⟩) rfl rfl (by decide) rfl ?_)
      | ((with_reducible refine atRem ?_); refine Nx.divI rfl (.inl ⟨rfl, (tm a 64)⟩) rfl rfl (by decide) rfl ?_)
      | ((with_reducible refine atRem ?_); refine Nx.divI rfl (.inl ⟨rfl, (tm b 2)⟩) rfl rfl (by decide) rfl ?_)
      | ((with_reducible refine atRem ?_); refine Nx.divI rfl (.inl ⟨rfl, (tm b 4)⟩) rfl rfl (by decide) rfl ?_)
      | ((with_reducible refine atRem ?_); refine Nx.divI rfl (.inl ⟨rfl, (tm d 8)⟩) rfl rfl (by decide) rfl ?_)
      | ((with_reducible refine atRem ?_); refine Nx.divI rfl (.inl ⟨rfl, (tm d 64)⟩) rfl rfl (by decide) rfl ?_)
      | ((with_reducible refine (atCall 69) ?_); refine Nx.call [] [] rfl rfl rfl rfl rfl ((ways_ok b hb)) rfl fun v Q hQ => ?_; obtain ⟨rfl, rfl⟩ := hQ)
      | ((with_reducible refine atOps ?_); refine go 200 ?_; conv => whnf)
      | ((with_reducible refine atPlan ?_); refine Nx.runP (n := 200) rfl (by repeat (first | exact subB.nil _ | refine subB.cons rfl ?_)) ?_; conv => whnf)
      | ((with_reducible refine atAftL ?_); refine Nx.late ?_)
      | ((fail_if_success (with_reducible refine atRet ?_)); (fail_if_success (with_reducible refine atLoop ?_)); (fail_if_success (with_reducible refine atIn ?_)); (fail_if_success (with_reducible refine atDrawn ?_)); (fail_if_success (with_reducible refine atEnd ?_)); (with_reducible refine atRun ?_); refine go 200 ?_; conv => whnf))
    refine Nx.ret [3,4] Tryz.func52 rfl rfl ?_
    rw [hk]
    exact fin none none 0 0
theorem four_2 (c a b d : Nat) (hc : c < 256) (ha : a < 256) (hb : b < 256) (hd : d < 256) (hk : c % 32 = 2) (hK : fourK c = 2) : FnOk Tryz.prog 52 [.int .i64 c, .int .i64 a, .int .i64 b, .int .i64 d] [] (FoPost (fourA c a b d)) := by
    have b7 : a % 7 < 7 := Nat.mod_lt _ (by decide)
    have hf : fourA c a b d = ⟨2, 0, ((a % 8 : Nat) : Int), 1 + ((d % 8 : Nat) : Int), 0, wayN b, oneN d, []⟩ := by unfold fourA; rw [hK]; rfl
    rw [hf]
    have fin := fun A B c' d' => @FoPost.mk ⟨2, 0, ((a % 8 : Nat) : Int), 1 + ((d % 8 : Nat) : Int), 0, wayN b, oneN d, []⟩ A B c' d'
    simp only at fin
    refine FnOk.start Tryz.func52 rfl rfl rfl rfl fun F os tape output => ?_
    refine Nx.give 3 (ownS 3 none 0 0 1 []) (own_nil _ _ _ _) ?_
    refine Nx.give 4 (ownS 72 none 0 0 2 []) (own_nil _ _ _ _) ?_
    refine go 200 ?_
    conv => whnf
    repeat' (first
      | ((with_reducible refine atBr ?_); refine BrM.not (by omega) ?_; conv => whnf)
      | ((with_reducible refine atBr ?_); refine BrM.yes (by omega) ?_; conv => whnf)
      | ((with_reducible refine atBr ?_); (first | refine BrM.t rfl ?_ | refine BrM.f rfl ?_ | refine BrM.dec (fun _ => ?_) (fun _ => ?_) | refine BrM.mk (fun _ => ?_) (fun _ => ?_)) <;> conv => whnf)
      | ((with_reducible refine atAr ?_); refine Ar.i64 (by omega) (by omega) ?_; conv => whnf)
      | ((with_reducible refine atRem ?_); refine Nx.divI rfl (.inl ⟨rfl, (tm c 32)⟩) rfl rfl (by decide) rfl ?_)
      | ((with_reducible refine atRem ?_); refine Nx.divI rfl (.inl ⟨rfl, (tm a 7)⟩) rfl rfl (by decide) rfl ?_)
      | ((with_reducible refine atRem ?_); refine Nx.divI rfl (.inl ⟨rfl, (tm a 8)⟩) rfl rfl (by decide) rfl ?_)
      | ((with_reducible refine atRem ?_); refine Nx.divI rfl (.inl ⟨rfl, (tm a 64)⟩) rfl rfl (by decide) rfl ?_)
      | ((with_reducible refine atRem ?_); refine Nx.divI rfl (.inl ⟨rfl, (tm b 2)⟩) rfl rfl (by decide) rfl ?_)
      | ((with_reducible refine atRem ?_); refine Nx.divI rfl (.inl ⟨rfl, (tm b 4)⟩) rfl rfl (by decide) rfl ?_)
      | ((with_reducible refine atRem ?_); refine Nx.divI rfl (.inl ⟨rfl, (tm d 8)⟩) rfl rfl (by decide) rfl ?_)
      | ((with_reducible refine atRem ?_); refine Nx.divI rfl (.inl ⟨rfl, (tm d 64)⟩) rfl rfl (by decide) rfl ?_)
      | ((with_reducible refine (atCall 69) ?_); refine Nx.call [] [] rfl rfl rfl rfl rfl ((ways_ok b hb)) rfl fun v Q hQ => ?_; obtain ⟨rfl, rfl⟩ := hQ)
      | ((with_reducible refine atOps ?_); refine go 200 ?_; conv => whnf)
      | ((with_reducible refine atPlan ?_); refine Nx.runP (n := 200) rfl (by repeat (first | exact subB.nil _ | refine subB.cons rfl ?_)) ?_; conv => whnf)
      | ((with_reducible refine atAftL ?_); refine Nx.late ?_)
      | ((fail_if_success (with_reducible refine atRet ?_)); (fail_if_success (with_reducible refine atLoop ?_)); (fail_if_success (with_reducible refine atIn ?_)); (fail_if_success (with_reducible refine atDrawn ?_)); (fail_if_success (with_reducible refine atEnd ?_)); (with_reducible refine atRun ?_); refine go 200 ?_; conv => whnf))
    refine Nx.call [] [13] rfl rfl rfl rfl rfl (one_ok d) rfl fun v Q hQ => ?_
    obtain ⟨A1, c1, rfl, rfl⟩ := hQ
    repeat' (first
      | ((with_reducible refine atBr ?_); refine BrM.not (by omega) ?_; conv => whnf)
      | ((with_reducible refine atBr ?_); refine BrM.yes (by omega) ?_; conv => whnf)
      | ((with_reducible refine atBr ?_); (first | refine BrM.t rfl ?_ | refine BrM.f rfl ?_ | refine BrM.dec (fun _ => ?_) (fun _ => ?_) | refine BrM.mk (fun _ => ?_) (fun _ => ?_)) <;> conv => whnf)
      | ((with_reducible refine atAr ?_); refine Ar.i64 (by omega) (by omega) ?_; conv => whnf)
      | ((with_reducible refine atRem ?_); refine Nx.divI rfl (.inl ⟨rfl, (tm c 32)⟩) rfl rfl (by decide) rfl ?_)
      | ((with_reducible refine atRem ?_); refine Nx.divI rfl (.inl ⟨rfl, (tm a 7)⟩) rfl rfl (by decide) rfl ?_)
      | ((with_reducible refine atRem ?_); refine Nx.divI rfl (.inl ⟨rfl, (tm a 8)⟩) rfl rfl (by decide) rfl ?_)
      | ((with_reducible refine atRem ?_); refine Nx.divI rfl (.inl ⟨rfl, (tm a 64)⟩) rfl rfl (by decide) rfl ?_)
      | ((with_reducible refine atRem ?_); refine Nx.divI rfl (.inl ⟨rfl, (tm b 2)⟩) rfl rfl (by decide) rfl ?_)
      | ((with_reducible refine atRem ?_); refine Nx.divI rfl (.inl ⟨rfl, (tm b 4)⟩) rfl rfl (by decide) rfl ?_)
      | ((with_reducible refine atRem ?_); refine Nx.divI rfl (.inl ⟨rfl, (tm d 8)⟩) rfl rfl (by decide) rfl ?_)
      | ((with_reducible refine atRem ?_); refine Nx.divI rfl (.inl ⟨rfl, (tm d 64)⟩) rfl rfl (by decide) rfl ?_)
      | ((with_reducible refine atOps ?_); refine go 200 ?_; conv => whnf)
      | ((with_reducible refine atPlan ?_); refine Nx.runP (n := 200) rfl (by repeat (first | exact subB.nil _ | refine subB.cons rfl ?_)) ?_; conv => whnf)
      | ((with_reducible refine atAftL ?_); refine Nx.late ?_)
      | ((fail_if_success (with_reducible refine atRet ?_)); (fail_if_success (with_reducible refine atLoop ?_)); (fail_if_success (with_reducible refine atIn ?_)); (fail_if_success (with_reducible refine atDrawn ?_)); (fail_if_success (with_reducible refine atEnd ?_)); (with_reducible refine atRun ?_); refine go 200 ?_; conv => whnf))
    refine Nx.ret [13,4] Tryz.func52 rfl rfl ?_
    rw [hk]
    exact fin A1 none c1 0
theorem four_3 (c a b d : Nat) (hc : c < 256) (ha : a < 256) (hb : b < 256) (hd : d < 256) (hk : c % 32 = 3) (hK : fourK c = 3) : FnOk Tryz.prog 52 [.int .i64 c, .int .i64 a, .int .i64 b, .int .i64 d] [] (FoPost (fourA c a b d)) := by
    have b7 : a % 7 < 7 := Nat.mod_lt _ (by decide)
    have hf : fourA c a b d = ⟨3, 0, ((a % 8 : Nat) : Int), 1 + ((d % 8 : Nat) : Int), 0, wayN b, oneN d, []⟩ := by unfold fourA; rw [hK]; rfl
    rw [hf]
    have fin := fun A B c' d' => @FoPost.mk ⟨3, 0, ((a % 8 : Nat) : Int), 1 + ((d % 8 : Nat) : Int), 0, wayN b, oneN d, []⟩ A B c' d'
    simp only at fin
    refine FnOk.start Tryz.func52 rfl rfl rfl rfl fun F os tape output => ?_
    refine Nx.give 3 (ownS 3 none 0 0 1 []) (own_nil _ _ _ _) ?_
    refine Nx.give 4 (ownS 72 none 0 0 2 []) (own_nil _ _ _ _) ?_
    refine go 200 ?_
    conv => whnf
    repeat' (first
      | ((with_reducible refine atBr ?_); refine BrM.not (by omega) ?_; conv => whnf)
      | ((with_reducible refine atBr ?_); refine BrM.yes (by omega) ?_; conv => whnf)
      | ((with_reducible refine atBr ?_); (first | refine BrM.t rfl ?_ | refine BrM.f rfl ?_ | refine BrM.dec (fun _ => ?_) (fun _ => ?_) | refine BrM.mk (fun _ => ?_) (fun _ => ?_)) <;> conv => whnf)
      | ((with_reducible refine atAr ?_); refine Ar.i64 (by omega) (by omega) ?_; conv => whnf)
      | ((with_reducible refine atRem ?_); refine Nx.divI rfl (.inl ⟨rfl, (tm c 32)⟩) rfl rfl (by decide) rfl ?_)
      | ((with_reducible refine atRem ?_); refine Nx.divI rfl (.inl ⟨rfl, (tm a 7)⟩) rfl rfl (by decide) rfl ?_)
      | ((with_reducible refine atRem ?_); refine Nx.divI rfl (.inl ⟨rfl, (tm a 8)⟩) rfl rfl (by decide) rfl ?_)
      | ((with_reducible refine atRem ?_); refine Nx.divI rfl (.inl ⟨rfl, (tm a 64)⟩) rfl rfl (by decide) rfl ?_)
      | ((with_reducible refine atRem ?_); refine Nx.divI rfl (.inl ⟨rfl, (tm b 2)⟩) rfl rfl (by decide) rfl ?_)
      | ((with_reducible refine atRem ?_); refine Nx.divI rfl (.inl ⟨rfl, (tm b 4)⟩) rfl rfl (by decide) rfl ?_)
      | ((with_reducible refine atRem ?_); refine Nx.divI rfl (.inl ⟨rfl, (tm d 8)⟩) rfl rfl (by decide) rfl ?_)
      | ((with_reducible refine atRem ?_); refine Nx.divI rfl (.inl ⟨rfl, (tm d 64)⟩) rfl rfl (by decide) rfl ?_)
      | ((with_reducible refine (atCall 69) ?_); refine Nx.call [] [] rfl rfl rfl rfl rfl ((ways_ok b hb)) rfl fun v Q hQ => ?_; obtain ⟨rfl, rfl⟩ := hQ)
      | ((with_reducible refine atOps ?_); refine go 200 ?_; conv => whnf)
      | ((with_reducible refine atPlan ?_); refine Nx.runP (n := 200) rfl (by repeat (first | exact subB.nil _ | refine subB.cons rfl ?_)) ?_; conv => whnf)
      | ((with_reducible refine atAftL ?_); refine Nx.late ?_)
      | ((fail_if_success (with_reducible refine atRet ?_)); (fail_if_success (with_reducible refine atLoop ?_)); (fail_if_success (with_reducible refine atIn ?_)); (fail_if_success (with_reducible refine atDrawn ?_)); (fail_if_success (with_reducible refine atEnd ?_)); (with_reducible refine atRun ?_); refine go 200 ?_; conv => whnf))
    refine Nx.call [] [13] rfl rfl rfl rfl rfl (one_ok d) rfl fun v Q hQ => ?_
    obtain ⟨A1, c1, rfl, rfl⟩ := hQ
    repeat' (first
      | ((with_reducible refine atBr ?_); refine BrM.not (by omega) ?_; conv => whnf)
      | ((with_reducible refine atBr ?_); refine BrM.yes (by omega) ?_; conv => whnf)
      | ((with_reducible refine atBr ?_); (first | refine BrM.t rfl ?_ | refine BrM.f rfl ?_ | refine BrM.dec (fun _ => ?_) (fun _ => ?_) | refine BrM.mk (fun _ => ?_) (fun _ => ?_)) <;> conv => whnf)
      | ((with_reducible refine atAr ?_); refine Ar.i64 (by omega) (by omega) ?_; conv => whnf)
      | ((with_reducible refine atRem ?_); refine Nx.divI rfl (.inl ⟨rfl, (tm c 32)⟩) rfl rfl (by decide) rfl ?_)
      | ((with_reducible refine atRem ?_); refine Nx.divI rfl (.inl ⟨rfl, (tm a 7)⟩) rfl rfl (by decide) rfl ?_)
      | ((with_reducible refine atRem ?_); refine Nx.divI rfl (.inl ⟨rfl, (tm a 8)⟩) rfl rfl (by decide) rfl ?_)
      | ((with_reducible refine atRem ?_); refine Nx.divI rfl (.inl ⟨rfl, (tm a 64)⟩) rfl rfl (by decide) rfl ?_)
      | ((with_reducible refine atRem ?_); refine Nx.divI rfl (.inl ⟨rfl, (tm b 2)⟩) rfl rfl (by decide) rfl ?_)
      | ((with_reducible refine atRem ?_); refine Nx.divI rfl (.inl ⟨rfl, (tm b 4)⟩) rfl rfl (by decide) rfl ?_)
      | ((with_reducible refine atRem ?_); refine Nx.divI rfl (.inl ⟨rfl, (tm d 8)⟩) rfl rfl (by decide) rfl ?_)
      | ((with_reducible refine atRem ?_); refine Nx.divI rfl (.inl ⟨rfl, (tm d 64)⟩) rfl rfl (by decide) rfl ?_)
      | ((with_reducible refine atOps ?_); refine go 200 ?_; conv => whnf)
      | ((with_reducible refine atPlan ?_); refine Nx.runP (n := 200) rfl (by repeat (first | exact subB.nil _ | refine subB.cons rfl ?_)) ?_; conv => whnf)
      | ((with_reducible refine atAftL ?_); refine Nx.late ?_)
      | ((fail_if_success (with_reducible refine atRet ?_)); (fail_if_success (with_reducible refine atLoop ?_)); (fail_if_success (with_reducible refine atIn ?_)); (fail_if_success (with_reducible refine atDrawn ?_)); (fail_if_success (with_reducible refine atEnd ?_)); (with_reducible refine atRun ?_); refine go 200 ?_; conv => whnf))
    refine Nx.ret [13,4] Tryz.func52 rfl rfl ?_
    rw [hk]
    exact fin A1 none c1 0
theorem four_4 (c a b d : Nat) (hc : c < 256) (ha : a < 256) (hb : b < 256) (hd : d < 256) (hk : c % 32 = 4) (hK : fourK c = 4) : FnOk Tryz.prog 52 [.int .i64 c, .int .i64 a, .int .i64 b, .int .i64 d] [] (FoPost (fourA c a b d)) := by
    have b7 : a % 7 < 7 := Nat.mod_lt _ (by decide)
    have hf : fourA c a b d = ⟨4, 0, ((a % 8 : Nat) : Int), 0, 0, wayN b, oneN d, []⟩ := by unfold fourA; rw [hK]; rfl
    rw [hf]
    have fin := fun A B c' d' => @FoPost.mk ⟨4, 0, ((a % 8 : Nat) : Int), 0, 0, wayN b, oneN d, []⟩ A B c' d'
    simp only at fin
    refine FnOk.start Tryz.func52 rfl rfl rfl rfl fun F os tape output => ?_
    refine Nx.give 3 (ownS 3 none 0 0 1 []) (own_nil _ _ _ _) ?_
    refine Nx.give 4 (ownS 72 none 0 0 2 []) (own_nil _ _ _ _) ?_
    refine go 200 ?_
    conv => whnf
    repeat' (first
      | ((with_reducible refine atBr ?_); refine BrM.not (by omega) ?_; conv => whnf)
      | ((with_reducible refine atBr ?_); refine BrM.yes (by omega) ?_; conv => whnf)
      | ((with_reducible refine atBr ?_); (first | refine BrM.t rfl ?_ | refine BrM.f rfl ?_ | refine BrM.dec (fun _ => ?_) (fun _ => ?_) | refine BrM.mk (fun _ => ?_) (fun _ => ?_)) <;> conv => whnf)
      | ((with_reducible refine atAr ?_); refine Ar.i64 (by omega) (by omega) ?_; conv => whnf)
      | ((with_reducible refine atRem ?_); refine Nx.divI rfl (.inl ⟨rfl, (tm c 32)⟩) rfl rfl (by decide) rfl ?_)
      | ((with_reducible refine atRem ?_); refine Nx.divI rfl (.inl ⟨rfl, (tm a 7)⟩) rfl rfl (by decide) rfl ?_)
      | ((with_reducible refine atRem ?_); refine Nx.divI rfl (.inl ⟨rfl, (tm a 8)⟩) rfl rfl (by decide) rfl ?_)
      | ((with_reducible refine atRem ?_); refine Nx.divI rfl (.inl ⟨rfl, (tm a 64)⟩) rfl rfl (by decide) rfl ?_)
      | ((with_reducible refine atRem ?_); refine Nx.divI rfl (.inl ⟨rfl, (tm b 2)⟩) rfl rfl (by decide) rfl ?_)
      | ((with_reducible refine atRem ?_); refine Nx.divI rfl (.inl ⟨rfl, (tm b 4)⟩) rfl rfl (by decide) rfl ?_)
      | ((with_reducible refine atRem ?_); refine Nx.divI rfl (.inl ⟨rfl, (tm d 8)⟩) rfl rfl (by decide) rfl ?_)
      | ((with_reducible refine atRem ?_); refine Nx.divI rfl (.inl ⟨rfl, (tm d 64)⟩) rfl rfl (by decide) rfl ?_)
      | ((with_reducible refine (atCall 69) ?_); refine Nx.call [] [] rfl rfl rfl rfl rfl ((ways_ok b hb)) rfl fun v Q hQ => ?_; obtain ⟨rfl, rfl⟩ := hQ)
      | ((with_reducible refine atOps ?_); refine go 200 ?_; conv => whnf)
      | ((with_reducible refine atPlan ?_); refine Nx.runP (n := 200) rfl (by repeat (first | exact subB.nil _ | refine subB.cons rfl ?_)) ?_; conv => whnf)
      | ((with_reducible refine atAftL ?_); refine Nx.late ?_)
      | ((fail_if_success (with_reducible refine atRet ?_)); (fail_if_success (with_reducible refine atLoop ?_)); (fail_if_success (with_reducible refine atIn ?_)); (fail_if_success (with_reducible refine atDrawn ?_)); (fail_if_success (with_reducible refine atEnd ?_)); (with_reducible refine atRun ?_); refine go 200 ?_; conv => whnf))
    refine Nx.call [] [13] rfl rfl rfl rfl rfl (one_ok d) rfl fun v Q hQ => ?_
    obtain ⟨A1, c1, rfl, rfl⟩ := hQ
    repeat' (first
      | ((with_reducible refine atBr ?_); refine BrM.not (by omega) ?_; conv => whnf)
      | ((with_reducible refine atBr ?_); refine BrM.yes (by omega) ?_; conv => whnf)
      | ((with_reducible refine atBr ?_); (first | refine BrM.t rfl ?_ | refine BrM.f rfl ?_ | refine BrM.dec (fun _ => ?_) (fun _ => ?_) | refine BrM.mk (fun _ => ?_) (fun _ => ?_)) <;> conv => whnf)
      | ((with_reducible refine atAr ?_); refine Ar.i64 (by omega) (by omega) ?_; conv => whnf)
      | ((with_reducible refine atRem ?_); refine Nx.divI rfl (.inl ⟨rfl, (tm c 32)⟩) rfl rfl (by decide) rfl ?_)
      | ((with_reducible refine atRem ?_); refine Nx.divI rfl (.inl ⟨rfl, (tm a 7)⟩) rfl rfl (by decide) rfl ?_)
      | ((with_reducible refine atRem ?_); refine Nx.divI rfl (.inl ⟨rfl, (tm a 8)⟩) rfl rfl (by decide) rfl ?_)
      | ((with_reducible refine atRem ?_); refine Nx.divI rfl (.inl ⟨rfl, (tm a 64)⟩) rfl rfl (by decide) rfl ?_)
      | ((with_reducible refine atRem ?_); refine Nx.divI rfl (.inl ⟨rfl, (tm b 2)⟩) rfl rfl (by decide) rfl ?_)
      | ((with_reducible refine atRem ?_); refine Nx.divI rfl (.inl ⟨rfl, (tm b 4)⟩) rfl rfl (by decide) rfl ?_)
      | ((with_reducible refine atRem ?_); refine Nx.divI rfl (.inl ⟨rfl, (tm d 8)⟩) rfl rfl (by decide) rfl ?_)
      | ((with_reducible refine atRem ?_); refine Nx.divI rfl (.inl ⟨rfl, (tm d 64)⟩) rfl rfl (by decide) rfl ?_)
      | ((with_reducible refine atOps ?_); refine go 200 ?_; conv => whnf)
      | ((with_reducible refine atPlan ?_); refine Nx.runP (n := 200) rfl (by repeat (first | exact subB.nil _ | refine subB.cons rfl ?_)) ?_; conv => whnf)
      | ((with_reducible refine atAftL ?_); refine Nx.late ?_)
      | ((fail_if_success (with_reducible refine atRet ?_)); (fail_if_success (with_reducible refine atLoop ?_)); (fail_if_success (with_reducible refine atIn ?_)); (fail_if_success (with_reducible refine atDrawn ?_)); (fail_if_success (with_reducible refine atEnd ?_)); (with_reducible refine atRun ?_); refine go 200 ?_; conv => whnf))
    refine Nx.ret [13,4] Tryz.func52 rfl rfl ?_
    rw [hk]
    exact fin A1 none c1 0
theorem four_5 (c a b d : Nat) (hc : c < 256) (ha : a < 256) (hb : b < 256) (hd : d < 256) (hk : c % 32 = 5) (hK : fourK c = 5) : FnOk Tryz.prog 52 [.int .i64 c, .int .i64 a, .int .i64 b, .int .i64 d] [] (FoPost (fourA c a b d)) := by
    have b7 : a % 7 < 7 := Nat.mod_lt _ (by decide)
    have hf : fourA c a b d = ⟨5, 0, 0, 0, 0, ⟨0, 0, 0⟩, bitsTo a 8, []⟩ := by unfold fourA; rw [hK]; rfl
    rw [hf]
    have fin := fun A B c' d' => @FoPost.mk ⟨5, 0, 0, 0, 0, ⟨0, 0, 0⟩, bitsTo a 8, []⟩ A B c' d'
    simp only at fin
    refine FnOk.start Tryz.func52 rfl rfl rfl rfl fun F os tape output => ?_
    refine Nx.give 3 (ownS 3 none 0 0 1 []) (own_nil _ _ _ _) ?_
    refine Nx.give 4 (ownS 72 none 0 0 2 []) (own_nil _ _ _ _) ?_
    refine go 200 ?_
    conv => whnf
    repeat' (first
      | ((with_reducible refine atBr ?_); refine BrM.not (by omega) ?_; conv => whnf)
      | ((with_reducible refine atBr ?_); refine BrM.yes (by omega) ?_; conv => whnf)
      | ((with_reducible refine atBr ?_); (first | refine BrM.t rfl ?_ | refine BrM.f rfl ?_ | refine BrM.dec (fun _ => ?_) (fun _ => ?_) | refine BrM.mk (fun _ => ?_) (fun _ => ?_)) <;> conv => whnf)
      | ((with_reducible refine atAr ?_); refine Ar.i64 (by omega) (by omega) ?_; conv => whnf)
      | ((with_reducible refine atRem ?_); refine Nx.divI rfl (.inl ⟨rfl, (tm c 32)⟩) rfl rfl (by decide) rfl ?_)
      | ((with_reducible refine atRem ?_); refine Nx.divI rfl (.inl ⟨rfl, (tm a 7)⟩) rfl rfl (by decide) rfl ?_)
      | ((with_reducible refine atRem ?_); refine Nx.divI rfl (.inl ⟨rfl, (tm a 8)⟩) rfl rfl (by decide) rfl ?_)
      | ((with_reducible refine atRem ?_); refine Nx.divI rfl (.inl ⟨rfl, (tm a 64)⟩) rfl rfl (by decide) rfl ?_)
      | ((with_reducible refine atRem ?_); refine Nx.divI rfl (.inl ⟨rfl, (tm b 2)⟩) rfl rfl (by decide) rfl ?_)
      | ((with_reducible refine atRem ?_); refine Nx.divI rfl (.inl ⟨rfl, (tm b 4)⟩) rfl rfl (by decide) rfl ?_)
      | ((with_reducible refine atRem ?_); refine Nx.divI rfl (.inl ⟨rfl, (tm d 8)⟩) rfl rfl (by decide) rfl ?_)
      | ((with_reducible refine atRem ?_); refine Nx.divI rfl (.inl ⟨rfl, (tm d 64)⟩) rfl rfl (by decide) rfl ?_)
      | ((with_reducible refine atOps ?_); refine go 200 ?_; conv => whnf)
      | ((with_reducible refine atPlan ?_); refine Nx.runP (n := 200) rfl (by repeat (first | exact subB.nil _ | refine subB.cons rfl ?_)) ?_; conv => whnf)
      | ((with_reducible refine atAftL ?_); refine Nx.late ?_)
      | ((fail_if_success (with_reducible refine atRet ?_)); (fail_if_success (with_reducible refine atLoop ?_)); (fail_if_success (with_reducible refine atIn ?_)); (fail_if_success (with_reducible refine atDrawn ?_)); (fail_if_success (with_reducible refine atEnd ?_)); (with_reducible refine atRun ?_); refine go 200 ?_; conv => whnf))
    refine Nx.loop (X := BtX) (fun x => x.j ≤ 8) (fun x => 8 - x.j)
      (fun x => [(1, iv a), (8, .c (.loc 8 0)), (9, .c (.loc 9 0)), (70, iv x.j)]) (fun x => [(9, 37, (lnE 5 0 0 0 0 ⟨0, 0, 0⟩ (bitsTo a x.j).length x.A x.c 0 none 0).map .v), (8, 37, (lnC Ln.zero none 0 none 0).map .v)]) [] (fun x => [(3, ownS 3 x.A (bitsTo a x.j).length x.c 1 (intsV (bitsTo a x.j))), (4, ownS 72 none 0 0 2 [])]) ⟨0, none, 0⟩ (Nat.zero_le _) ?_ ?_ ?_ ?_ ?_
    · exact .cons rfl rfl (.cons rfl rfl (.cons rfl rfl (.cons rfl rfl (.nil _))))
    · exact .cons rfl (by rw [hk]; rfl) rfl (.cons rfl rfl rfl (.nil _))
    · repeat (first | exact subB.nil _ | refine subB.cons rfl ?_)
    · repeat (first | exact subR.nil _ | refine subR.cons rfl rfl ?_)
    intro x hj ih
    obtain ⟨j, A, cc⟩ := x
    simp only at hj ih ⊢
    have hbl := bitsTo_len a j
    by_cases hlt : j < 8
    · have hdl : a / 2 ^ j ≤ a := Nat.div_le_self _ _
      have hs8 := shr8 a hlt
      by_cases h1 : a / 2 ^ j % 2 = 1
      · have hst := bitsTo_yes h1
        repeat' (first
          | ((with_reducible refine atBr ?_); refine BrM.yes (by omega) ?_; conv => whnf)
          | ((with_reducible refine atAr ?_); refine Ar.to (k := .i64) (((j+1:Nat):Int)) (by omega) ⟨by omega, by omega⟩ ?_; conv => whnf)
          | ((with_reducible refine atBr ?_); (first | refine BrM.t rfl ?_ | refine BrM.f rfl ?_ | refine BrM.dec (fun _ => ?_) (fun _ => ?_) | refine BrM.mk (fun _ => ?_) (fun _ => ?_)) <;> conv => whnf)
          | ((with_reducible refine atAr ?_); refine Ar.i64 (by omega) (by omega) ?_; conv => whnf)
          | (refine Nx.shrI rfl rfl rfl rfl (by omega) hs8 ?_)
          | (refine Nx.and1 (n := a / 2 ^ j) rfl rfl rfl rfl rfl (by omega) rfl ?_)
          | ((with_reducible refine atApp ?_); refine Nx.append 3 (sz := 1) (by_ := 8) (news := [.int .i64 j]) rfl rfl rfl rfl rfl Tryz.underlying25 rfl rfl rfl rfl rfl (by unfold maxLen; omega) (by omega) fun A' c'' => ?_)
          | ((with_reducible refine atOps ?_); refine go 200 ?_; conv => whnf)
          | ((with_reducible refine atPlan ?_); refine Nx.runP (n := 200) rfl (by repeat (first | exact subB.nil _ | refine subB.cons rfl ?_)) ?_; conv => whnf)
          | ((with_reducible refine atAftL ?_); refine Nx.late ?_)
          | ((fail_if_success (with_reducible refine atRet ?_)); (fail_if_success (with_reducible refine atLoop ?_)); (fail_if_success (with_reducible refine atIn ?_)); (fail_if_success (with_reducible refine atDrawn ?_)); (fail_if_success (with_reducible refine atEnd ?_)); (with_reducible refine atRun ?_); refine go 200 ?_; conv => whnf))
        refine (ih ⟨j + 1, A', c''⟩ hlt (by show 8 - (j + 1) < 8 - j; omega)).weak ?_ ?_ ?_ ?_
        · exact .cons rfl rfl (.cons rfl rfl (.cons rfl rfl (.cons rfl rfl (.nil _))))
        · exact .cons rfl (by rw [hst]; simp) rfl (.cons rfl rfl rfl (.nil _))
        · repeat (first | exact subB.nil _ | refine subB.cons rfl ?_)
        · exact .cons rfl (by rw [hst]; simp) (.cons rfl rfl (.nil _))
      · have hst := bitsTo_no h1
        repeat' (first
          | ((with_reducible refine atBr ?_); refine BrM.yes (by omega) ?_; conv => whnf)
          | ((with_reducible refine atBr ?_); refine BrM.not (by omega) ?_; conv => whnf)
          | ((with_reducible refine atAr ?_); refine Ar.to (k := .i64) (((j+1:Nat):Int)) (by omega) ⟨by omega, by omega⟩ ?_; conv => whnf)
          | ((with_reducible refine atBr ?_); (first | refine BrM.t rfl ?_ | refine BrM.f rfl ?_ | refine BrM.dec (fun _ => ?_) (fun _ => ?_) | refine BrM.mk (fun _ => ?_) (fun _ => ?_)) <;> conv => whnf)
          | ((with_reducible refine atAr ?_); refine Ar.i64 (by omega) (by omega) ?_; conv => whnf)
          | (refine Nx.shrI rfl rfl rfl rfl (by omega) hs8 ?_)
          | (refine Nx.and1 (n := a / 2 ^ j) rfl rfl rfl rfl rfl (by omega) rfl ?_)
          | ((with_reducible refine atOps ?_); refine go 200 ?_; conv => whnf)
          | ((with_reducible refine atPlan ?_); refine Nx.runP (n := 200) rfl (by repeat (first | exact subB.nil _ | refine subB.cons rfl ?_)) ?_; conv => whnf)
          | ((with_reducible refine atAftL ?_); refine Nx.late ?_)
          | ((fail_if_success (with_reducible refine atRet ?_)); (fail_if_success (with_reducible refine atLoop ?_)); (fail_if_success (with_reducible refine atIn ?_)); (fail_if_success (with_reducible refine atDrawn ?_)); (fail_if_success (with_reducible refine atEnd ?_)); (with_reducible refine atRun ?_); refine go 200 ?_; conv => whnf))
        refine (ih ⟨j + 1, A, cc⟩ hlt (by show 8 - (j + 1) < 8 - j; omega)).weak ?_ ?_ ?_ ?_
        · exact .cons rfl rfl (.cons rfl rfl (.cons rfl rfl (.cons rfl rfl (.nil _))))
        · exact .cons rfl (by rw [hst]) rfl (.cons rfl rfl rfl (.nil _))
        · repeat (first | exact subB.nil _ | refine subB.cons rfl ?_)
        · exact .cons rfl (by rw [hst]) (.cons rfl rfl (.nil _))
    · have e8 : j = 8 := by omega
      subst e8
      clear ih
      repeat' (first
        | ((with_reducible refine atBr ?_); refine BrM.not (by omega) ?_; conv => whnf)
        | ((with_reducible refine atBr ?_); (first | refine BrM.t rfl ?_ | refine BrM.f rfl ?_ | refine BrM.dec (fun _ => ?_) (fun _ => ?_) | refine BrM.mk (fun _ => ?_) (fun _ => ?_)) <;> conv => whnf)
        | ((with_reducible refine atAr ?_); refine Ar.i64 (by omega) (by omega) ?_; conv => whnf)
        | ((with_reducible refine atOps ?_); refine go 200 ?_; conv => whnf)
        | ((with_reducible refine atPlan ?_); refine Nx.runP (n := 200) rfl (by repeat (first | exact subB.nil _ | refine subB.cons rfl ?_)) ?_; conv => whnf)
        | ((with_reducible refine atAftL ?_); refine Nx.late ?_)
        | ((fail_if_success (with_reducible refine atRet ?_)); (fail_if_success (with_reducible refine atLoop ?_)); (fail_if_success (with_reducible refine atIn ?_)); (fail_if_success (with_reducible refine atDrawn ?_)); (fail_if_success (with_reducible refine atEnd ?_)); (with_reducible refine atRun ?_); refine go 200 ?_; conv => whnf))
      refine Nx.ret [3,4] Tryz.func52 rfl rfl ?_
      exact fin A none cc 0
theorem four_6 (c a b d : Nat) (hc : c < 256) (ha : a < 256) (hb : b < 256) (hd : d < 256) (hk : c % 32 = 6) (hK : fourK c = 6) : FnOk Tryz.prog 52 [.int .i64 c, .int .i64 a, .int .i64 b, .int .i64 d] [] (FoPost (fourA c a b d)) := by
    have b7 : a % 7 < 7 := Nat.mod_lt _ (by decide)
    have hf : fourA c a b d = ⟨6, ((a % 64 : Nat) : Int), 0, 0, 0, ⟨0, 0, 0⟩, [], evsTo d (1 + b % 4)⟩ := by unfold fourA; rw [hK]; rfl
    rw [hf]
    have fin := fun A B c' d' => @FoPost.mk ⟨6, ((a % 64 : Nat) : Int), 0, 0, 0, ⟨0, 0, 0⟩, [], evsTo d (1 + b % 4)⟩ A B c' d'
    simp only at fin
    refine FnOk.start Tryz.func52 rfl rfl rfl rfl fun F os tape output => ?_
    refine Nx.give 3 (ownS 3 none 0 0 1 []) (own_nil _ _ _ _) ?_
    refine Nx.give 4 (ownS 72 none 0 0 2 []) (own_nil _ _ _ _) ?_
    refine go 200 ?_
    conv => whnf
    repeat' (first
      | ((with_reducible refine atBr ?_); refine BrM.not (by omega) ?_; conv => whnf)
      | ((with_reducible refine atBr ?_); refine BrM.yes (by omega) ?_; conv => whnf)
      | ((with_reducible refine atBr ?_); (first | refine BrM.t rfl ?_ | refine BrM.f rfl ?_ | refine BrM.dec (fun _ => ?_) (fun _ => ?_) | refine BrM.mk (fun _ => ?_) (fun _ => ?_)) <;> conv => whnf)
      | ((with_reducible refine atAr ?_); refine Ar.i64 (by omega) (by omega) ?_; conv => whnf)
      | ((with_reducible refine atRem ?_); refine Nx.divI rfl (.inl ⟨rfl, (tm c 32)⟩) rfl rfl (by decide) rfl ?_)
      | ((with_reducible refine atRem ?_); refine Nx.divI rfl (.inl ⟨rfl, (tm a 7)⟩) rfl rfl (by decide) rfl ?_)
      | ((with_reducible refine atRem ?_); refine Nx.divI rfl (.inl ⟨rfl, (tm a 8)⟩) rfl rfl (by decide) rfl ?_)
      | ((with_reducible refine atRem ?_); refine Nx.divI rfl (.inl ⟨rfl, (tm a 64)⟩) rfl rfl (by decide) rfl ?_)
      | ((with_reducible refine atRem ?_); refine Nx.divI rfl (.inl ⟨rfl, (tm b 2)⟩) rfl rfl (by decide) rfl ?_)
      | ((with_reducible refine atRem ?_); refine Nx.divI rfl (.inl ⟨rfl, (tm b 4)⟩) rfl rfl (by decide) rfl ?_)
      | ((with_reducible refine atRem ?_); refine Nx.divI rfl (.inl ⟨rfl, (tm d 8)⟩) rfl rfl (by decide) rfl ?_)
      | ((with_reducible refine atRem ?_); refine Nx.divI rfl (.inl ⟨rfl, (tm d 64)⟩) rfl rfl (by decide) rfl ?_)
      | ((with_reducible refine atOps ?_); refine go 200 ?_; conv => whnf)
      | ((with_reducible refine atPlan ?_); refine Nx.runP (n := 200) rfl (by repeat (first | exact subB.nil _ | refine subB.cons rfl ?_)) ?_; conv => whnf)
      | ((with_reducible refine atAftL ?_); refine Nx.late ?_)
      | ((fail_if_success (with_reducible refine atRet ?_)); (fail_if_success (with_reducible refine atLoop ?_)); (fail_if_success (with_reducible refine atIn ?_)); (fail_if_success (with_reducible refine atDrawn ?_)); (fail_if_success (with_reducible refine atEnd ?_)); (with_reducible refine atRun ?_); refine go 200 ?_; conv => whnf))
    refine Nx.loop (X := BtX) (fun x => x.j ≤ 1 + b % 4) (fun x => 1 + b % 4 - x.j)
      (fun x => [(3, iv d), (8, .c (.loc 8 0)), (9, .c (.loc 9 0)), (93, iv (1 + ((b % 4 : Nat) : Int))), (94, iv x.j)]) (fun x => [(9, 37, (lnE 6 ((a % 64 : Nat) : Int) 0 0 0 ⟨0, 0, 0⟩ 0 none 0 (evsTo d x.j).length x.A x.c).map .v), (8, 37, (lnC Ln.zero none 0 none 0).map .v)]) [] (fun x => [(3, ownS 3 none 0 0 1 []), (4, ownS 72 x.A (evsTo d x.j).length x.c 2 (evsV (evsTo d x.j)))]) ⟨0, none, 0⟩ (Nat.zero_le _) ?_ ?_ ?_ ?_ ?_
    · exact .cons rfl rfl (.cons rfl rfl (.cons rfl rfl (.cons rfl rfl (.cons rfl rfl (.nil _)))))
    · exact .cons rfl (by rw [hk]; rfl) rfl (.cons rfl rfl rfl (.nil _))
    · repeat (first | exact subB.nil _ | refine subB.cons rfl ?_)
    · repeat (first | exact subR.nil _ | refine subR.cons rfl rfl ?_)
    intro x hj ih
    obtain ⟨j, A, cc⟩ := x
    simp only at hj ih ⊢
    have hbl : b % 4 < 4 := Nat.mod_lt _ (by decide)
    by_cases hlt : j < 1 + b % 4
    · have hst := evsTo_succ d j
      have hel := evsTo_len d j
      repeat' (first
        | ((with_reducible refine atBr ?_); refine BrM.yes (by omega) ?_; conv => whnf)
        | ((with_reducible refine atAr ?_); refine Ar.to (k := .i64) (((j+1:Nat):Int)) (by omega) ⟨by omega, by omega⟩ ?_; conv => whnf)
        | ((with_reducible refine atBr ?_); (first | refine BrM.t rfl ?_ | refine BrM.f rfl ?_ | refine BrM.dec (fun _ => ?_) (fun _ => ?_) | refine BrM.mk (fun _ => ?_) (fun _ => ?_)) <;> conv => whnf)
        | ((with_reducible refine atAr ?_); refine Ar.i64 (by omega) (by omega) ?_; conv => whnf)
        | ((with_reducible refine atApp ?_); refine Nx.append 4 (sz := 2) (by_ := 16) (news := [.int .i64 d, .int .i64 j]) rfl rfl rfl rfl rfl Tryz.underlying26 rfl rfl rfl rfl rfl (by unfold maxLen; omega) (by omega) fun A' c'' => ?_)
        | ((with_reducible refine atOps ?_); refine go 200 ?_; conv => whnf)
        | ((with_reducible refine atPlan ?_); refine Nx.runP (n := 200) rfl (by repeat (first | exact subB.nil _ | refine subB.cons rfl ?_)) ?_; conv => whnf)
        | ((with_reducible refine atAftL ?_); refine Nx.late ?_)
        | ((fail_if_success (with_reducible refine atRet ?_)); (fail_if_success (with_reducible refine atLoop ?_)); (fail_if_success (with_reducible refine atIn ?_)); (fail_if_success (with_reducible refine atDrawn ?_)); (fail_if_success (with_reducible refine atEnd ?_)); (with_reducible refine atRun ?_); refine go 200 ?_; conv => whnf))
      refine (ih ⟨j + 1, A', c''⟩ hlt (by show 1 + b % 4 - (j + 1) < 1 + b % 4 - j; omega)).weak ?_ ?_ ?_ ?_
      · exact .cons rfl rfl (.cons rfl rfl (.cons rfl rfl (.cons rfl rfl (.cons rfl rfl (.nil _)))))
      · exact .cons rfl (by rw [hst]; simp) rfl (.cons rfl rfl rfl (.nil _))
      · repeat (first | exact subB.nil _ | refine subB.cons rfl ?_)
      · exact .cons rfl rfl (.cons rfl (by rw [hst]; simp [evC]) (.nil _))
    · have e8 : j = 1 + b % 4 := by omega
      subst e8
      clear ih
      repeat' (first
        | ((with_reducible refine atBr ?_); refine BrM.not (by omega) ?_; conv => whnf)
        | ((with_reducible refine atBr ?_); (first | refine BrM.t rfl ?_ | refine BrM.f rfl ?_ | refine BrM.dec (fun _ => ?_) (fun _ => ?_) | refine BrM.mk (fun _ => ?_) (fun _ => ?_)) <;> conv => whnf)
        | ((with_reducible refine atAr ?_); refine Ar.i64 (by omega) (by omega) ?_; conv => whnf)
        | ((with_reducible refine atOps ?_); refine go 200 ?_; conv => whnf)
        | ((with_reducible refine atPlan ?_); refine Nx.runP (n := 200) rfl (by repeat (first | exact subB.nil _ | refine subB.cons rfl ?_)) ?_; conv => whnf)
        | ((with_reducible refine atAftL ?_); refine Nx.late ?_)
        | ((fail_if_success (with_reducible refine atRet ?_)); (fail_if_success (with_reducible refine atLoop ?_)); (fail_if_success (with_reducible refine atIn ?_)); (fail_if_success (with_reducible refine atDrawn ?_)); (fail_if_success (with_reducible refine atEnd ?_)); (with_reducible refine atRun ?_); refine go 200 ?_; conv => whnf))
      refine Nx.ret [3,4] Tryz.func52 rfl rfl ?_
      exact fin none A 0 cc
theorem four_7 (c a b d : Nat) (hc : c < 256) (ha : a < 256) (hb : b < 256) (hd : d < 256) (hk : c % 32 = 7) (hK : fourK c = 7) : FnOk Tryz.prog 52 [.int .i64 c, .int .i64 a, .int .i64 b, .int .i64 d] [] (FoPost (fourA c a b d)) := by
    have b7 : a % 7 < 7 := Nat.mod_lt _ (by decide)
    have hf : fourA c a b d = ⟨7, ((a % 64 : Nat) : Int), 0, 0, 0, ⟨0, 0, 0⟩, [], evsTo d (1 + b % 4)⟩ := by unfold fourA; rw [hK]; rfl
    rw [hf]
    have fin := fun A B c' d' => @FoPost.mk ⟨7, ((a % 64 : Nat) : Int), 0, 0, 0, ⟨0, 0, 0⟩, [], evsTo d (1 + b % 4)⟩ A B c' d'
    simp only at fin
    refine FnOk.start Tryz.func52 rfl rfl rfl rfl fun F os tape output => ?_
    refine Nx.give 3 (ownS 3 none 0 0 1 []) (own_nil _ _ _ _) ?_
    refine Nx.give 4 (ownS 72 none 0 0 2 []) (own_nil _ _ _ _) ?_
    refine go 200 ?_
    conv => whnf
    repeat' (first
      | ((with_reducible refine atBr ?_); refine BrM.not (by omega) ?_; conv => whnf)
      | ((with_reducible refine atBr ?_); refine BrM.yes (by omega) ?_; conv => whnf)
      | ((with_reducible refine atBr ?_); (first | refine BrM.t rfl ?_ | refine BrM.f rfl ?_ | refine BrM.dec (fun _ => ?_) (fun _ => ?_) | refine BrM.mk (fun _ => ?_) (fun _ => ?_)) <;> conv => whnf)
      | ((with_reducible refine atAr ?_); refine Ar.i64 (by omega) (by omega) ?_; conv => whnf)
      | ((with_reducible refine atRem ?_); refine Nx.divI rfl (.inl ⟨rfl, (tm c 32)⟩) rfl rfl (by decide) rfl ?_)
      | ((with_reducible refine atRem ?_); refine Nx.divI rfl (.inl ⟨rfl, (tm a 7)⟩) rfl rfl (by decide) rfl ?_)
      | ((with_reducible refine atRem ?_); refine Nx.divI rfl (.inl ⟨rfl, (tm a 8)⟩) rfl rfl (by decide) rfl ?_)
      | ((with_reducible refine atRem ?_); refine Nx.divI rfl (.inl ⟨rfl, (tm a 64)⟩) rfl rfl (by decide) rfl ?_)
      | ((with_reducible refine atRem ?_); refine Nx.divI rfl (.inl ⟨rfl, (tm b 2)⟩) rfl rfl (by decide) rfl ?_)
      | ((with_reducible refine atRem ?_); refine Nx.divI rfl (.inl ⟨rfl, (tm b 4)⟩) rfl rfl (by decide) rfl ?_)
      | ((with_reducible refine atRem ?_); refine Nx.divI rfl (.inl ⟨rfl, (tm d 8)⟩) rfl rfl (by decide) rfl ?_)
      | ((with_reducible refine atRem ?_); refine Nx.divI rfl (.inl ⟨rfl, (tm d 64)⟩) rfl rfl (by decide) rfl ?_)
      | ((with_reducible refine atOps ?_); refine go 200 ?_; conv => whnf)
      | ((with_reducible refine atPlan ?_); refine Nx.runP (n := 200) rfl (by repeat (first | exact subB.nil _ | refine subB.cons rfl ?_)) ?_; conv => whnf)
      | ((with_reducible refine atAftL ?_); refine Nx.late ?_)
      | ((fail_if_success (with_reducible refine atRet ?_)); (fail_if_success (with_reducible refine atLoop ?_)); (fail_if_success (with_reducible refine atIn ?_)); (fail_if_success (with_reducible refine atDrawn ?_)); (fail_if_success (with_reducible refine atEnd ?_)); (with_reducible refine atRun ?_); refine go 200 ?_; conv => whnf))
    refine Nx.loop (X := BtX) (fun x => x.j ≤ 1 + b % 4) (fun x => 1 + b % 4 - x.j)
      (fun x => [(3, iv d), (8, .c (.loc 8 0)), (9, .c (.loc 9 0)), (93, iv (1 + ((b % 4 : Nat) : Int))), (94, iv x.j)]) (fun x => [(9, 37, (lnE 7 ((a % 64 : Nat) : Int) 0 0 0 ⟨0, 0, 0⟩ 0 none 0 (evsTo d x.j).length x.A x.c).map .v), (8, 37, (lnC Ln.zero none 0 none 0).map .v)]) [] (fun x => [(3, ownS 3 none 0 0 1 []), (4, ownS 72 x.A (evsTo d x.j).length x.c 2 (evsV (evsTo d x.j)))]) ⟨0, none, 0⟩ (Nat.zero_le _) ?_ ?_ ?_ ?_ ?_
    · exact .cons rfl rfl (.cons rfl rfl (.cons rfl rfl (.cons rfl rfl (.cons rfl rfl (.nil _)))))
    · exact .cons rfl (by rw [hk]; rfl) rfl (.cons rfl rfl rfl (.nil _))
    · repeat (first | exact subB.nil _ | refine subB.cons rfl ?_)
    · repeat (first | exact subR.nil _ | refine subR.cons rfl rfl ?_)
    intro x hj ih
    obtain ⟨j, A, cc⟩ := x
    simp only at hj ih ⊢
    have hbl : b % 4 < 4 := Nat.mod_lt _ (by decide)
    by_cases hlt : j < 1 + b % 4
    · have hst := evsTo_succ d j
      have hel := evsTo_len d j
      repeat' (first
        | ((with_reducible refine atBr ?_); refine BrM.yes (by omega) ?_; conv => whnf)
        | ((with_reducible refine atAr ?_); refine Ar.to (k := .i64) (((j+1:Nat):Int)) (by omega) ⟨by omega, by omega⟩ ?_; conv => whnf)
        | ((with_reducible refine atBr ?_); (first | refine BrM.t rfl ?_ | refine BrM.f rfl ?_ | refine BrM.dec (fun _ => ?_) (fun _ => ?_) | refine BrM.mk (fun _ => ?_) (fun _ => ?_)) <;> conv => whnf)
        | ((with_reducible refine atAr ?_); refine Ar.i64 (by omega) (by omega) ?_; conv => whnf)
        | ((with_reducible refine atApp ?_); refine Nx.append 4 (sz := 2) (by_ := 16) (news := [.int .i64 d, .int .i64 j]) rfl rfl rfl rfl rfl Tryz.underlying26 rfl rfl rfl rfl rfl (by unfold maxLen; omega) (by omega) fun A' c'' => ?_)
        | ((with_reducible refine atOps ?_); refine go 200 ?_; conv => whnf)
        | ((with_reducible refine atPlan ?_); refine Nx.runP (n := 200) rfl (by repeat (first | exact subB.nil _ | refine subB.cons rfl ?_)) ?_; conv => whnf)
        | ((with_reducible refine atAftL ?_); refine Nx.late ?_)
        | ((fail_if_success (with_reducible refine atRet ?_)); (fail_if_success (with_reducible refine atLoop ?_)); (fail_if_success (with_reducible refine atIn ?_)); (fail_if_success (with_reducible refine atDrawn ?_)); (fail_if_success (with_reducible refine atEnd ?_)); (with_reducible refine atRun ?_); refine go 200 ?_; conv => whnf))
      refine (ih ⟨j + 1, A', c''⟩ hlt (by show 1 + b % 4 - (j + 1) < 1 + b % 4 - j; omega)).weak ?_ ?_ ?_ ?_
      · exact .cons rfl rfl (.cons rfl rfl (.cons rfl rfl (.cons rfl rfl (.cons rfl rfl (.nil _)))))
      · exact .cons rfl (by rw [hst]; simp) rfl (.cons rfl rfl rfl (.nil _))
      · repeat (first | exact subB.nil _ | refine subB.cons rfl ?_)
      · exact .cons rfl rfl (.cons rfl (by rw [hst]; simp [evC]) (.nil _))
    · have e8 : j = 1 + b % 4 := by omega
      subst e8
      clear ih
      repeat' (first
        | ((with_reducible refine atBr ?_); refine BrM.not (by omega) ?_; conv => whnf)
        | ((with_reducible refine atBr ?_); (first | refine BrM.t rfl ?_ | refine BrM.f rfl ?_ | refine BrM.dec (fun _ => ?_) (fun _ => ?_) | refine BrM.mk (fun _ => ?_) (fun _ => ?_)) <;> conv => whnf)
        | ((with_reducible refine atAr ?_); refine Ar.i64 (by omega) (by omega) ?_; conv => whnf)
        | ((with_reducible refine atOps ?_); refine go 200 ?_; conv => whnf)
        | ((with_reducible refine atPlan ?_); refine Nx.runP (n := 200) rfl (by repeat (first | exact subB.nil _ | refine subB.cons rfl ?_)) ?_; conv => whnf)
        | ((with_reducible refine atAftL ?_); refine Nx.late ?_)
        | ((fail_if_success (with_reducible refine atRet ?_)); (fail_if_success (with_reducible refine atLoop ?_)); (fail_if_success (with_reducible refine atIn ?_)); (fail_if_success (with_reducible refine atDrawn ?_)); (fail_if_success (with_reducible refine atEnd ?_)); (with_reducible refine atRun ?_); refine go 200 ?_; conv => whnf))
      refine Nx.ret [3,4] Tryz.func52 rfl rfl ?_
      exact fin none A 0 cc
theorem four_8 (c a b d : Nat) (hc : c < 256) (ha : a < 256) (hb : b < 256) (hd : d < 256) (hk : c % 32 = 8) (hK : fourK c = 8) : FnOk Tryz.prog 52 [.int .i64 c, .int .i64 a, .int .i64 b, .int .i64 d] [] (FoPost (fourA c a b d)) := by
    have b7 : a % 7 < 7 := Nat.mod_lt _ (by decide)
    have hf : fourA c a b d = ⟨8, ((a % 64 : Nat) : Int), 0, (b : Int), 0, ⟨0, 0, 0⟩, [], []⟩ := by unfold fourA; rw [hK]; rfl
    rw [hf]
    have fin := fun A B c' d' => @FoPost.mk ⟨8, ((a % 64 : Nat) : Int), 0, (b : Int), 0, ⟨0, 0, 0⟩, [], []⟩ A B c' d'
    simp only at fin
    refine FnOk.start Tryz.func52 rfl rfl rfl rfl fun F os tape output => ?_
    refine Nx.give 3 (ownS 3 none 0 0 1 []) (own_nil _ _ _ _) ?_
    refine Nx.give 4 (ownS 72 none 0 0 2 []) (own_nil _ _ _ _) ?_
    refine go 200 ?_
    conv => whnf
    repeat' (first
      | ((with_reducible refine atBr ?_); refine BrM.not (by omega) ?_; conv => whnf)
      | ((with_reducible refine atBr ?_); refine BrM.yes (by omega) ?_; conv => whnf)
      | ((with_reducible refine atBr ?_); (first | refine BrM.t rfl ?_ | refine BrM.f rfl ?_ | refine BrM.dec (fun _ => ?_) (fun _ => ?_) | refine BrM.mk (fun _ => ?_) (fun _ => ?_)) <;> conv => whnf)
      | ((with_reducible refine atAr ?_); refine Ar.i64 (by omega) (by omega) ?_; conv => whnf)
      | ((with_reducible refine atRem ?_); refine Nx.divI rfl (.inl ⟨rfl, (tm c 32)⟩) rfl rfl (by decide) rfl ?_)
      | ((with_reducible refine atRem ?_); refine Nx.divI rfl (.inl ⟨rfl, (tm a 7)⟩) rfl rfl (by decide) rfl ?_)
      | ((with_reducible refine atRem ?_); refine Nx.divI rfl (.inl ⟨rfl, (tm a 8)⟩) rfl rfl (by decide) rfl ?_)
      | ((with_reducible refine atRem ?_); refine Nx.divI rfl (.inl ⟨rfl, (tm a 64)⟩) rfl rfl (by decide) rfl ?_)
      | ((with_reducible refine atRem ?_); refine Nx.divI rfl (.inl ⟨rfl, (tm b 2)⟩) rfl rfl (by decide) rfl ?_)
      | ((with_reducible refine atRem ?_); refine Nx.divI rfl (.inl ⟨rfl, (tm b 4)⟩) rfl rfl (by decide) rfl ?_)
      | ((with_reducible refine atRem ?_); refine Nx.divI rfl (.inl ⟨rfl, (tm d 8)⟩) rfl rfl (by decide) rfl ?_)
      | ((with_reducible refine atRem ?_); refine Nx.divI rfl (.inl ⟨rfl, (tm d 64)⟩) rfl rfl (by decide) rfl ?_)
      | ((with_reducible refine atOps ?_); refine go 200 ?_; conv => whnf)
      | ((with_reducible refine atPlan ?_); refine Nx.runP (n := 200) rfl (by repeat (first | exact subB.nil _ | refine subB.cons rfl ?_)) ?_; conv => whnf)
      | ((with_reducible refine atAftL ?_); refine Nx.late ?_)
      | ((fail_if_success (with_reducible refine atRet ?_)); (fail_if_success (with_reducible refine atLoop ?_)); (fail_if_success (with_reducible refine atIn ?_)); (fail_if_success (with_reducible refine atDrawn ?_)); (fail_if_success (with_reducible refine atEnd ?_)); (with_reducible refine atRun ?_); refine go 200 ?_; conv => whnf))
    refine Nx.ret [3,4] Tryz.func52 rfl rfl ?_
    rw [hk]
    exact fin none none 0 0
theorem four_9 (c a b d : Nat) (hc : c < 256) (ha : a < 256) (hb : b < 256) (hd : d < 256) (hk : c % 32 = 9) (hK : fourK c = 9) : FnOk Tryz.prog 52 [.int .i64 c, .int .i64 a, .int .i64 b, .int .i64 d] [] (FoPost (fourA c a b d)) := by
    have b7 : a % 7 < 7 := Nat.mod_lt _ (by decide)
    have hf : fourA c a b d = ⟨9, ((a % 64 : Nat) : Int), 0, 0, 0, ⟨0, 0, 0⟩, [], []⟩ := by unfold fourA; rw [hK]; rfl
    rw [hf]
    have fin := fun A B c' d' => @FoPost.mk ⟨9, ((a % 64 : Nat) : Int), 0, 0, 0, ⟨0, 0, 0⟩, [], []⟩ A B c' d'
    simp only at fin
    refine FnOk.start Tryz.func52 rfl rfl rfl rfl fun F os tape output => ?_
    refine Nx.give 3 (ownS 3 none 0 0 1 []) (own_nil _ _ _ _) ?_
    refine Nx.give 4 (ownS 72 none 0 0 2 []) (own_nil _ _ _ _) ?_
    refine go 200 ?_
    conv => whnf
    repeat' (first
      | ((with_reducible refine atBr ?_); refine BrM.not (by omega) ?_; conv => whnf)
      | ((with_reducible refine atBr ?_); refine BrM.yes (by omega) ?_; conv => whnf)
      | ((with_reducible refine atBr ?_); (first | refine BrM.t rfl ?_ | refine BrM.f rfl ?_ | refine BrM.dec (fun _ => ?_) (fun _ => ?_) | refine BrM.mk (fun _ => ?_) (fun _ => ?_)) <;> conv => whnf)
      | ((with_reducible refine atAr ?_); refine Ar.i64 (by omega) (by omega) ?_; conv => whnf)
      | ((with_reducible refine atRem ?_); refine Nx.divI rfl (.inl ⟨rfl, (tm c 32)⟩) rfl rfl (by decide) rfl ?_)
      | ((with_reducible refine atRem ?_); refine Nx.divI rfl (.inl ⟨rfl, (tm a 7)⟩) rfl rfl (by decide) rfl ?_)
      | ((with_reducible refine atRem ?_); refine Nx.divI rfl (.inl ⟨rfl, (tm a 8)⟩) rfl rfl (by decide) rfl ?_)
      | ((with_reducible refine atRem ?_); refine Nx.divI rfl (.inl ⟨rfl, (tm a 64)⟩) rfl rfl (by decide) rfl ?_)
      | ((with_reducible refine atRem ?_); refine Nx.divI rfl (.inl ⟨rfl, (tm b 2)⟩) rfl rfl (by decide) rfl ?_)
      | ((with_reducible refine atRem ?_); refine Nx.divI rfl (.inl ⟨rfl, (tm b 4)⟩) rfl rfl (by decide) rfl ?_)
      | ((with_reducible refine atRem ?_); refine Nx.divI rfl (.inl ⟨rfl, (tm d 8)⟩) rfl rfl (by decide) rfl ?_)
      | ((with_reducible refine atRem ?_); refine Nx.divI rfl (.inl ⟨rfl, (tm d 64)⟩) rfl rfl (by decide) rfl ?_)
      | ((with_reducible refine atOps ?_); refine go 200 ?_; conv => whnf)
      | ((with_reducible refine atPlan ?_); refine Nx.runP (n := 200) rfl (by repeat (first | exact subB.nil _ | refine subB.cons rfl ?_)) ?_; conv => whnf)
      | ((with_reducible refine atAftL ?_); refine Nx.late ?_)
      | ((fail_if_success (with_reducible refine atRet ?_)); (fail_if_success (with_reducible refine atLoop ?_)); (fail_if_success (with_reducible refine atIn ?_)); (fail_if_success (with_reducible refine atDrawn ?_)); (fail_if_success (with_reducible refine atEnd ?_)); (with_reducible refine atRun ?_); refine go 200 ?_; conv => whnf))
    refine Nx.ret [3,4] Tryz.func52 rfl rfl ?_
    rw [hk]
    exact fin none none 0 0
theorem four_10 (c a b d : Nat) (hc : c < 256) (ha : a < 256) (hb : b < 256) (hd : d < 256) (hk : c % 32 = 10) (hK : fourK c = 10) : FnOk Tryz.prog 52 [.int .i64 c, .int .i64 a, .int .i64 b, .int .i64 d] [] (FoPost (fourA c a b d)) := by
    have b7 : a % 7 < 7 := Nat.mod_lt _ (by decide)
    have hf : fourA c a b d = ⟨10, ((a % 64 : Nat) : Int), 0, (b : Int), 0, ⟨0, 0, 0⟩, [], []⟩ := by unfold fourA; rw [hK]; rfl
    rw [hf]
    have fin := fun A B c' d' => @FoPost.mk ⟨10, ((a % 64 : Nat) : Int), 0, (b : Int), 0, ⟨0, 0, 0⟩, [], []⟩ A B c' d'
    simp only at fin
    refine FnOk.start Tryz.func52 rfl rfl rfl rfl fun F os tape output => ?_
    refine Nx.give 3 (ownS 3 none 0 0 1 []) (own_nil _ _ _ _) ?_
    refine Nx.give 4 (ownS 72 none 0 0 2 []) (own_nil _ _ _ _) ?_
    refine go 200 ?_
    conv => whnf
    repeat' (first
      | ((with_reducible refine atBr ?_); refine BrM.not (by omega) ?_; conv => whnf)
      | ((with_reducible refine atBr ?_); refine BrM.yes (by omega) ?_; conv => whnf)
      | ((with_reducible refine atBr ?_); (first | refine BrM.t rfl ?_ | refine BrM.f rfl ?_ | refine BrM.dec (fun _ => ?_) (fun _ => ?_) | refine BrM.mk (fun _ => ?_) (fun _ => ?_)) <;> conv => whnf)
      | ((with_reducible refine atAr ?_); refine Ar.i64 (by omega) (by omega) ?_; conv => whnf)
      | ((with_reducible refine atRem ?_); refine Nx.divI rfl (.inl ⟨rfl, (tm c 32)⟩) rfl rfl (by decide) rfl ?_)
      | ((with_reducible refine atRem ?_); refine Nx.divI rfl (.inl ⟨rfl, (tm a 7)⟩) rfl rfl (by decide) rfl ?_)
      | ((with_reducible refine atRem ?_); refine Nx.divI rfl (.inl ⟨rfl, (tm a 8)⟩) rfl rfl (by decide) rfl ?_)
      | ((with_reducible refine atRem ?_); refine Nx.divI rfl (.inl ⟨rfl, (tm a 64)⟩) rfl rfl (by decide) rfl ?_)
      | ((with_reducible refine atRem ?_); refine Nx.divI rfl (.inl ⟨rfl, (tm b 2)⟩) rfl rfl (by decide) rfl ?_)
      | ((with_reducible refine atRem ?_); refine Nx.divI rfl (.inl ⟨rfl, (tm b 4)⟩) rfl rfl (by decide) rfl ?_)
      | ((with_reducible refine atRem ?_); refine Nx.divI rfl (.inl ⟨rfl, (tm d 8)⟩) rfl rfl (by decide) rfl ?_)
      | ((with_reducible refine atRem ?_); refine Nx.divI rfl (.inl ⟨rfl, (tm d 64)⟩) rfl rfl (by decide) rfl ?_)
      | ((with_reducible refine atOps ?_); refine go 200 ?_; conv => whnf)
      | ((with_reducible refine atPlan ?_); refine Nx.runP (n := 200) rfl (by repeat (first | exact subB.nil _ | refine subB.cons rfl ?_)) ?_; conv => whnf)
      | ((with_reducible refine atAftL ?_); refine Nx.late ?_)
      | ((fail_if_success (with_reducible refine atRet ?_)); (fail_if_success (with_reducible refine atLoop ?_)); (fail_if_success (with_reducible refine atIn ?_)); (fail_if_success (with_reducible refine atDrawn ?_)); (fail_if_success (with_reducible refine atEnd ?_)); (with_reducible refine atRun ?_); refine go 200 ?_; conv => whnf))
    refine Nx.ret [3,4] Tryz.func52 rfl rfl ?_
    rw [hk]
    exact fin none none 0 0
theorem four_11 (c a b d : Nat) (hc : c < 256) (ha : a < 256) (hb : b < 256) (hd : d < 256) (hk : c % 32 = 11) (hK : fourK c = 11) : FnOk Tryz.prog 52 [.int .i64 c, .int .i64 a, .int .i64 b, .int .i64 d] [] (FoPost (fourA c a b d)) := by
    have b7 : a % 7 < 7 := Nat.mod_lt _ (by decide)
    have hf : fourA c a b d = ⟨11, ((a % 64 : Nat) : Int), 0, 0, 0, ⟨0, 0, 0⟩, [], []⟩ := by unfold fourA; rw [hK]; rfl
    rw [hf]
    have fin := fun A B c' d' => @FoPost.mk ⟨11, ((a % 64 : Nat) : Int), 0, 0, 0, ⟨0, 0, 0⟩, [], []⟩ A B c' d'
    simp only at fin
    refine FnOk.start Tryz.func52 rfl rfl rfl rfl fun F os tape output => ?_
    refine Nx.give 3 (ownS 3 none 0 0 1 []) (own_nil _ _ _ _) ?_
    refine Nx.give 4 (ownS 72 none 0 0 2 []) (own_nil _ _ _ _) ?_
    refine go 200 ?_
    conv => whnf
    repeat' (first
      | ((with_reducible refine atBr ?_); refine BrM.not (by omega) ?_; conv => whnf)
      | ((with_reducible refine atBr ?_); refine BrM.yes (by omega) ?_; conv => whnf)
      | ((with_reducible refine atBr ?_); (first | refine BrM.t rfl ?_ | refine BrM.f rfl ?_ | refine BrM.dec (fun _ => ?_) (fun _ => ?_) | refine BrM.mk (fun _ => ?_) (fun _ => ?_)) <;> conv => whnf)
      | ((with_reducible refine atAr ?_); refine Ar.i64 (by omega) (by omega) ?_; conv => whnf)
      | ((with_reducible refine atRem ?_); refine Nx.divI rfl (.inl ⟨rfl, (tm c 32)⟩) rfl rfl (by decide) rfl ?_)
      | ((with_reducible refine atRem ?_); refine Nx.divI rfl (.inl ⟨rfl, (tm a 7)⟩) rfl rfl (by decide) rfl ?_)
      | ((with_reducible refine atRem ?_); refine Nx.divI rfl (.inl ⟨rfl, (tm a 8)⟩) rfl rfl (by decide) rfl ?_)
      | ((with_reducible refine atRem ?_); refine Nx.divI rfl (.inl ⟨rfl, (tm a 64)⟩) rfl rfl (by decide) rfl ?_)
      | ((with_reducible refine atRem ?_); refine Nx.divI rfl (.inl ⟨rfl, (tm b 2)⟩) rfl rfl (by decide) rfl ?_)
      | ((with_reducible refine atRem ?_); refine Nx.divI rfl (.inl ⟨rfl, (tm b 4)⟩) rfl rfl (by decide) rfl ?_)
      | ((with_reducible refine atRem ?_); refine Nx.divI rfl (.inl ⟨rfl, (tm d 8)⟩) rfl rfl (by decide) rfl ?_)
      | ((with_reducible refine atRem ?_); refine Nx.divI rfl (.inl ⟨rfl, (tm d 64)⟩) rfl rfl (by decide) rfl ?_)
      | ((with_reducible refine atOps ?_); refine go 200 ?_; conv => whnf)
      | ((with_reducible refine atPlan ?_); refine Nx.runP (n := 200) rfl (by repeat (first | exact subB.nil _ | refine subB.cons rfl ?_)) ?_; conv => whnf)
      | ((with_reducible refine atAftL ?_); refine Nx.late ?_)
      | ((fail_if_success (with_reducible refine atRet ?_)); (fail_if_success (with_reducible refine atLoop ?_)); (fail_if_success (with_reducible refine atIn ?_)); (fail_if_success (with_reducible refine atDrawn ?_)); (fail_if_success (with_reducible refine atEnd ?_)); (with_reducible refine atRun ?_); refine go 200 ?_; conv => whnf))
    refine Nx.ret [3,4] Tryz.func52 rfl rfl ?_
    rw [hk]
    exact fin none none 0 0
theorem four_12 (c a b d : Nat) (hc : c < 256) (ha : a < 256) (hb : b < 256) (hd : d < 256) (hk : c % 32 = 12) (hK : fourK c = 12) : FnOk Tryz.prog 52 [.int .i64 c, .int .i64 a, .int .i64 b, .int .i64 d] [] (FoPost (fourA c a b d)) := by
    have b7 : a % 7 < 7 := Nat.mod_lt _ (by decide)
    have hf : fourA c a b d = ⟨12, ((a % 64 : Nat) : Int), 0, 0, 0, ⟨0, 0, 0⟩, [], []⟩ := by unfold fourA; rw [hK]; rfl
    rw [hf]
    have fin := fun A B c' d' => @FoPost.mk ⟨12, ((a % 64 : Nat) : Int), 0, 0, 0, ⟨0, 0, 0⟩, [], []⟩ A B c' d'
    simp only at fin
    refine FnOk.start Tryz.func52 rfl rfl rfl rfl fun F os tape output => ?_
    refine Nx.give 3 (ownS 3 none 0 0 1 []) (own_nil _ _ _ _) ?_
    refine Nx.give 4 (ownS 72 none 0 0 2 []) (own_nil _ _ _ _) ?_
    refine go 200 ?_
    conv => whnf
    repeat' (first
      | ((with_reducible refine atBr ?_); refine BrM.not (by omega) ?_; conv => whnf)
      | ((with_reducible refine atBr ?_); refine BrM.yes (by omega) ?_; conv => whnf)
      | ((with_reducible refine atBr ?_); (first | refine BrM.t rfl ?_ | refine BrM.f rfl ?_ | refine BrM.dec (fun _ => ?_) (fun _ => ?_) | refine BrM.mk (fun _ => ?_) (fun _ => ?_)) <;> conv => whnf)
      | ((with_reducible refine atAr ?_); refine Ar.i64 (by omega) (by omega) ?_; conv => whnf)
      | ((with_reducible refine atRem ?_); refine Nx.divI rfl (.inl ⟨rfl, (tm c 32)⟩) rfl rfl (by decide) rfl ?_)
      | ((with_reducible refine atRem ?_); refine Nx.divI rfl (.inl ⟨rfl, (tm a 7)⟩) rfl rfl (by decide) rfl ?_)
      | ((with_reducible refine atRem ?_); refine Nx.divI rfl (.inl ⟨rfl, (tm a 8)⟩) rfl rfl (by decide) rfl ?_)
      | ((with_reducible refine atRem ?_); refine Nx.divI rfl (.inl ⟨rfl, (tm a 64)⟩) rfl rfl (by decide) rfl ?_)
      | ((with_reducible refine atRem ?_); refine Nx.divI rfl (.inl ⟨rfl, (tm b 2)⟩) rfl rfl (by decide) rfl ?_)
      | ((with_reducible refine atRem ?_); refine Nx.divI rfl (.inl ⟨rfl, (tm b 4)⟩) rfl rfl (by decide) rfl ?_)
      | ((with_reducible refine atRem ?_); refine Nx.divI rfl (.inl ⟨rfl, (tm d 8)⟩) rfl rfl (by decide) rfl ?_)
      | ((with_reducible refine atRem ?_); refine Nx.divI rfl (.inl ⟨rfl, (tm d 64)⟩) rfl rfl (by decide) rfl ?_)
      | ((with_reducible refine atOps ?_); refine go 200 ?_; conv => whnf)
      | ((with_reducible refine atPlan ?_); refine Nx.runP (n := 200) rfl (by repeat (first | exact subB.nil _ | refine subB.cons rfl ?_)) ?_; conv => whnf)
      | ((with_reducible refine atAftL ?_); refine Nx.late ?_)
      | ((fail_if_success (with_reducible refine atRet ?_)); (fail_if_success (with_reducible refine atLoop ?_)); (fail_if_success (with_reducible refine atIn ?_)); (fail_if_success (with_reducible refine atDrawn ?_)); (fail_if_success (with_reducible refine atEnd ?_)); (with_reducible refine atRun ?_); refine go 200 ?_; conv => whnf))
    refine Nx.ret [3,4] Tryz.func52 rfl rfl ?_
    rw [hk]
    exact fin none none 0 0
theorem four_13 (c a b d : Nat) (hc : c < 256) (ha : a < 256) (hb : b < 256) (hd : d < 256) (hk : c % 32 = 13) (hK : fourK c = 13) : FnOk Tryz.prog 52 [.int .i64 c, .int .i64 a, .int .i64 b, .int .i64 d] [] (FoPost (fourA c a b d)) := by
    have b7 : a % 7 < 7 := Nat.mod_lt _ (by decide)
    have hf : fourA c a b d = ⟨13, ((a % 64 : Nat) : Int), 0, 0, 0, ⟨0, 0, 0⟩, [], []⟩ := by unfold fourA; rw [hK]; rfl
    rw [hf]
    have fin := fun A B c' d' => @FoPost.mk ⟨13, ((a % 64 : Nat) : Int), 0, 0, 0, ⟨0, 0, 0⟩, [], []⟩ A B c' d'
    simp only at fin
    refine FnOk.start Tryz.func52 rfl rfl rfl rfl fun F os tape output => ?_
    refine Nx.give 3 (ownS 3 none 0 0 1 []) (own_nil _ _ _ _) ?_
    refine Nx.give 4 (ownS 72 none 0 0 2 []) (own_nil _ _ _ _) ?_
    refine go 200 ?_
    conv => whnf
    repeat' (first
      | ((with_reducible refine atBr ?_); refine BrM.not (by omega) ?_; conv => whnf)
      | ((with_reducible refine atBr ?_); refine BrM.yes (by omega) ?_; conv => whnf)
      | ((with_reducible refine atBr ?_); (first | refine BrM.t rfl ?_ | refine BrM.f rfl ?_ | refine BrM.dec (fun _ => ?_) (fun _ => ?_) | refine BrM.mk (fun _ => ?_) (fun _ => ?_)) <;> conv => whnf)
      | ((with_reducible refine atAr ?_); refine Ar.i64 (by omega) (by omega) ?_; conv => whnf)
      | ((with_reducible refine atRem ?_); refine Nx.divI rfl (.inl ⟨rfl, (tm c 32)⟩) rfl rfl (by decide) rfl ?_)
      | ((with_reducible refine atRem ?_); refine Nx.divI rfl (.inl ⟨rfl, (tm a 7)⟩) rfl rfl (by decide) rfl ?_)
      | ((with_reducible refine atRem ?_); refine Nx.divI rfl (.inl ⟨rfl, (tm a 8)⟩) rfl rfl (by decide) rfl ?_)
      | ((with_reducible refine atRem ?_); refine Nx.divI rfl (.inl ⟨rfl, (tm a 64)⟩) rfl rfl (by decide) rfl ?_)
      | ((with_reducible refine atRem ?_); refine Nx.divI rfl (.inl ⟨rfl, (tm b 2)⟩) rfl rfl (by decide) rfl ?_)
      | ((with_reducible refine atRem ?_); refine Nx.divI rfl (.inl ⟨rfl, (tm b 4)⟩) rfl rfl (by decide) rfl ?_)
      | ((with_reducible refine atRem ?_); refine Nx.divI rfl (.inl ⟨rfl, (tm d 8)⟩) rfl rfl (by decide) rfl ?_)
      | ((with_reducible refine atRem ?_); refine Nx.divI rfl (.inl ⟨rfl, (tm d 64)⟩) rfl rfl (by decide) rfl ?_)
      | ((with_reducible refine atOps ?_); refine go 200 ?_; conv => whnf)
      | ((with_reducible refine atPlan ?_); refine Nx.runP (n := 200) rfl (by repeat (first | exact subB.nil _ | refine subB.cons rfl ?_)) ?_; conv => whnf)
      | ((with_reducible refine atAftL ?_); refine Nx.late ?_)
      | ((fail_if_success (with_reducible refine atRet ?_)); (fail_if_success (with_reducible refine atLoop ?_)); (fail_if_success (with_reducible refine atIn ?_)); (fail_if_success (with_reducible refine atDrawn ?_)); (fail_if_success (with_reducible refine atEnd ?_)); (with_reducible refine atRun ?_); refine go 200 ?_; conv => whnf))
    refine Nx.ret [3,4] Tryz.func52 rfl rfl ?_
    rw [hk]
    exact fin none none 0 0
theorem four_14 (c a b d : Nat) (hc : c < 256) (ha : a < 256) (hb : b < 256) (hd : d < 256) (hk : c % 32 = 14) (hK : fourK c = 14) : FnOk Tryz.prog 52 [.int .i64 c, .int .i64 a, .int .i64 b, .int .i64 d] [] (FoPost (fourA c a b d)) := by
    have b7 : a % 7 < 7 := Nat.mod_lt _ (by decide)
    have hf : fourA c a b d = ⟨14, ((a % 64 : Nat) : Int), 0, 0, 0, ⟨0, 0, 0⟩, [], []⟩ := by unfold fourA; rw [hK]; rfl
    rw [hf]
    have fin := fun A B c' d' => @FoPost.mk ⟨14, ((a % 64 : Nat) : Int), 0, 0, 0, ⟨0, 0, 0⟩, [], []⟩ A B c' d'
    simp only at fin
    refine FnOk.start Tryz.func52 rfl rfl rfl rfl fun F os tape output => ?_
    refine Nx.give 3 (ownS 3 none 0 0 1 []) (own_nil _ _ _ _) ?_
    refine Nx.give 4 (ownS 72 none 0 0 2 []) (own_nil _ _ _ _) ?_
    refine go 200 ?_
    conv => whnf
    repeat' (first
      | ((with_reducible refine atBr ?_); refine BrM.not (by omega) ?_; conv => whnf)
      | ((with_reducible refine atBr ?_); refine BrM.yes (by omega) ?_; conv => whnf)
      | ((with_reducible refine atBr ?_); (first | refine BrM.t rfl ?_ | refine BrM.f rfl ?_ | refine BrM.dec (fun _ => ?_) (fun _ => ?_) | refine BrM.mk (fun _ => ?_) (fun _ => ?_)) <;> conv => whnf)
      | ((with_reducible refine atAr ?_); refine Ar.i64 (by omega) (by omega) ?_; conv => whnf)
      | ((with_reducible refine atRem ?_); refine Nx.divI rfl (.inl ⟨rfl, (tm c 32)⟩) rfl rfl (by decide) rfl ?_)
      | ((with_reducible refine atRem ?_); refine Nx.divI rfl (.inl ⟨rfl, (tm a 7)⟩) rfl rfl (by decide) rfl ?_)
      | ((with_reducible refine atRem ?_); refine Nx.divI rfl (.inl ⟨rfl, (tm a 8)⟩) rfl rfl (by decide) rfl ?_)
      | ((with_reducible refine atRem ?_); refine Nx.divI rfl (.inl ⟨rfl, (tm a 64)⟩) rfl rfl (by decide) rfl ?_)
      | ((with_reducible refine atRem ?_); refine Nx.divI rfl (.inl ⟨rfl, (tm b 2)⟩) rfl rfl (by decide) rfl ?_)
      | ((with_reducible refine atRem ?_); refine Nx.divI rfl (.inl ⟨rfl, (tm b 4)⟩) rfl rfl (by decide) rfl ?_)
      | ((with_reducible refine atRem ?_); refine Nx.divI rfl (.inl ⟨rfl, (tm d 8)⟩) rfl rfl (by decide) rfl ?_)
      | ((with_reducible refine atRem ?_); refine Nx.divI rfl (.inl ⟨rfl, (tm d 64)⟩) rfl rfl (by decide) rfl ?_)
      | ((with_reducible refine atOps ?_); refine go 200 ?_; conv => whnf)
      | ((with_reducible refine atPlan ?_); refine Nx.runP (n := 200) rfl (by repeat (first | exact subB.nil _ | refine subB.cons rfl ?_)) ?_; conv => whnf)
      | ((with_reducible refine atAftL ?_); refine Nx.late ?_)
      | ((fail_if_success (with_reducible refine atRet ?_)); (fail_if_success (with_reducible refine atLoop ?_)); (fail_if_success (with_reducible refine atIn ?_)); (fail_if_success (with_reducible refine atDrawn ?_)); (fail_if_success (with_reducible refine atEnd ?_)); (with_reducible refine atRun ?_); refine go 200 ?_; conv => whnf))
    refine Nx.ret [3,4] Tryz.func52 rfl rfl ?_
    rw [hk]
    exact fin none none 0 0
theorem four_15 (c a b d : Nat) (hc : c < 256) (ha : a < 256) (hb : b < 256) (hd : d < 256) (hk : c % 32 = 15) (hK : fourK c = 15) : FnOk Tryz.prog 52 [.int .i64 c, .int .i64 a, .int .i64 b, .int .i64 d] [] (FoPost (fourA c a b d)) := by
    have b7 : a % 7 < 7 := Nat.mod_lt _ (by decide)
    have hf : fourA c a b d = ⟨15, 0, 0, 0, (b : Int), ⟨0, 0, 0⟩, [], []⟩ := by unfold fourA; rw [hK]; rfl
    rw [hf]
    have fin := fun A B c' d' => @FoPost.mk ⟨15, 0, 0, 0, (b : Int), ⟨0, 0, 0⟩, [], []⟩ A B c' d'
    simp only at fin
    refine FnOk.start Tryz.func52 rfl rfl rfl rfl fun F os tape output => ?_
    refine Nx.give 3 (ownS 3 none 0 0 1 []) (own_nil _ _ _ _) ?_
    refine Nx.give 4 (ownS 72 none 0 0 2 []) (own_nil _ _ _ _) ?_
    refine go 200 ?_
    conv => whnf
    repeat' (first
      | ((with_reducible refine atBr ?_); refine BrM.not (by omega) ?_; conv => whnf)
      | ((with_reducible refine atBr ?_); refine BrM.yes (by omega) ?_; conv => whnf)
      | ((with_reducible refine atBr ?_); (first | refine BrM.t rfl ?_ | refine BrM.f rfl ?_ | refine BrM.dec (fun _ => ?_) (fun _ => ?_) | refine BrM.mk (fun _ => ?_) (fun _ => ?_)) <;> conv => whnf)
      | ((with_reducible refine atAr ?_); refine Ar.i64 (by omega) (by omega) ?_; conv => whnf)
      | ((with_reducible refine atRem ?_); refine Nx.divI rfl (.inl ⟨rfl, (tm c 32)⟩) rfl rfl (by decide) rfl ?_)
      | ((with_reducible refine atRem ?_); refine Nx.divI rfl (.inl ⟨rfl, (tm a 7)⟩) rfl rfl (by decide) rfl ?_)
      | ((with_reducible refine atRem ?_); refine Nx.divI rfl (.inl ⟨rfl, (tm a 8)⟩) rfl rfl (by decide) rfl ?_)
      | ((with_reducible refine atRem ?_); refine Nx.divI rfl (.inl ⟨rfl, (tm a 64)⟩) rfl rfl (by decide) rfl ?_)
      | ((with_reducible refine atRem ?_); refine Nx.divI rfl (.inl ⟨rfl, (tm b 2)⟩) rfl rfl (by decide) rfl ?_)
      | ((with_reducible refine atRem ?_); refine Nx.divI rfl (.inl ⟨rfl, (tm b 4)⟩) rfl rfl (by decide) rfl ?_)
      | ((with_reducible refine atRem ?_); refine Nx.divI rfl (.inl ⟨rfl, (tm d 8)⟩) rfl rfl (by decide) rfl ?_)
      | ((with_reducible refine atRem ?_); refine Nx.divI rfl (.inl ⟨rfl, (tm d 64)⟩) rfl rfl (by decide) rfl ?_)
      | ((with_reducible refine atOps ?_); refine go 200 ?_; conv => whnf)
      | ((with_reducible refine atPlan ?_); refine Nx.runP (n := 200) rfl (by repeat (first | exact subB.nil _ | refine subB.cons rfl ?_)) ?_; conv => whnf)
      | ((with_reducible refine atAftL ?_); refine Nx.late ?_)
      | ((fail_if_success (with_reducible refine atRet ?_)); (fail_if_success (with_reducible refine atLoop ?_)); (fail_if_success (with_reducible refine atIn ?_)); (fail_if_success (with_reducible refine atDrawn ?_)); (fail_if_success (with_reducible refine atEnd ?_)); (with_reducible refine atRun ?_); refine go 200 ?_; conv => whnf))
    refine Nx.ret [3,4] Tryz.func52 rfl rfl ?_
    rw [hk]
    exact fin none none 0 0
theorem four_16 (c a b d : Nat) (hc : c < 256) (ha : a < 256) (hb : b < 256) (hd : d < 256) (hk : 16 ≤ c % 32) (hK : fourK c = 16) : FnOk Tryz.prog 52 [.int .i64 c, .int .i64 a, .int .i64 b, .int .i64 d] [] (FoPost (fourA c a b d)) := by
    have b7 : a % 7 < 7 := Nat.mod_lt _ (by decide)
    have hf : fourA c a b d = ⟨16, 0, 0, (a : Int) + 256 * (b : Int), 0, ⟨0, 0, 0⟩, [], []⟩ := by unfold fourA; rw [hK]; rfl
    rw [hf]
    have fin := fun A B c' d' => @FoPost.mk ⟨16, 0, 0, (a : Int) + 256 * (b : Int), 0, ⟨0, 0, 0⟩, [], []⟩ A B c' d'
    simp only at fin
    refine FnOk.start Tryz.func52 rfl rfl rfl rfl fun F os tape output => ?_
    refine Nx.give 3 (ownS 3 none 0 0 1 []) (own_nil _ _ _ _) ?_
    refine Nx.give 4 (ownS 72 none 0 0 2 []) (own_nil _ _ _ _) ?_
    refine go 200 ?_
    conv => whnf
    repeat' (first
      | ((with_reducible refine atBr ?_); refine BrM.not (by omega) ?_; conv => whnf)
      | ((with_reducible refine atBr ?_); refine BrM.yes (by omega) ?_; conv => whnf)
      | ((with_reducible refine atBr ?_); (first | refine BrM.t rfl ?_ | refine BrM.f rfl ?_ | refine BrM.dec (fun _ => ?_) (fun _ => ?_) | refine BrM.mk (fun _ => ?_) (fun _ => ?_)) <;> conv => whnf)
      | ((with_reducible refine atAr ?_); refine Ar.i64 (by omega) (by omega) ?_; conv => whnf)
      | ((with_reducible refine atRem ?_); refine Nx.divI rfl (.inl ⟨rfl, (tm c 32)⟩) rfl rfl (by decide) rfl ?_)
      | ((with_reducible refine atRem ?_); refine Nx.divI rfl (.inl ⟨rfl, (tm a 7)⟩) rfl rfl (by decide) rfl ?_)
      | ((with_reducible refine atRem ?_); refine Nx.divI rfl (.inl ⟨rfl, (tm a 8)⟩) rfl rfl (by decide) rfl ?_)
      | ((with_reducible refine atRem ?_); refine Nx.divI rfl (.inl ⟨rfl, (tm a 64)⟩) rfl rfl (by decide) rfl ?_)
      | ((with_reducible refine atRem ?_); refine Nx.divI rfl (.inl ⟨rfl, (tm b 2)⟩) rfl rfl (by decide) rfl ?_)
      | ((with_reducible refine atRem ?_); refine Nx.divI rfl (.inl ⟨rfl, (tm b 4)⟩) rfl rfl (by decide) rfl ?_)
      | ((with_reducible refine atRem ?_); refine Nx.divI rfl (.inl ⟨rfl, (tm d 8)⟩) rfl rfl (by decide) rfl ?_)
      | ((with_reducible refine atRem ?_); refine Nx.divI rfl (.inl ⟨rfl, (tm d 64)⟩) rfl rfl (by decide) rfl ?_)
      | ((with_reducible refine atOps ?_); refine go 200 ?_; conv => whnf)
      | ((with_reducible refine atPlan ?_); refine Nx.runP (n := 200) rfl (by repeat (first | exact subB.nil _ | refine subB.cons rfl ?_)) ?_; conv => whnf)
      | ((with_reducible refine atAftL ?_); refine Nx.late ?_)
      | ((fail_if_success (with_reducible refine atRet ?_)); (fail_if_success (with_reducible refine atLoop ?_)); (fail_if_success (with_reducible refine atIn ?_)); (fail_if_success (with_reducible refine atDrawn ?_)); (fail_if_success (with_reducible refine atEnd ?_)); (with_reducible refine atRun ?_); refine go 200 ?_; conv => whnf))
    refine Nx.ret [3,4] Tryz.func52 rfl rfl ?_
    exact fin none none 0 0
theorem four_ok (c a b d : Nat) (hc : c < 256) (ha : a < 256) (hb : b < 256) (hd : d < 256) : FnOk Tryz.prog 52 [.int .i64 c, .int .i64 a, .int .i64 b, .int .i64 d] [] (FoPost (fourA c a b d)) := by
  by_cases h16 : c % 32 < 16
  · have hK : fourK c = c % 32 := by unfold fourK; rw [if_pos h16]
    obtain ⟨k, hk⟩ : ∃ k, k = c % 32 := ⟨_, rfl⟩
    rw [← hk] at h16 hK
    match k, h16, hk, hK with
    | 0, _, hk, hK => exact four_0 c a b d hc ha hb hd hk.symm hK
    | 1, _, hk, hK => exact four_1 c a b d hc ha hb hd hk.symm hK
    | 2, _, hk, hK => exact four_2 c a b d hc ha hb hd hk.symm hK
    | 3, _, hk, hK => exact four_3 c a b d hc ha hb hd hk.symm hK
    | 4, _, hk, hK => exact four_4 c a b d hc ha hb hd hk.symm hK
    | 5, _, hk, hK => exact four_5 c a b d hc ha hb hd hk.symm hK
    | 6, _, hk, hK => exact four_6 c a b d hc ha hb hd hk.symm hK
    | 7, _, hk, hK => exact four_7 c a b d hc ha hb hd hk.symm hK
    | 8, _, hk, hK => exact four_8 c a b d hc ha hb hd hk.symm hK
    | 9, _, hk, hK => exact four_9 c a b d hc ha hb hd hk.symm hK
    | 10, _, hk, hK => exact four_10 c a b d hc ha hb hd hk.symm hK
    | 11, _, hk, hK => exact four_11 c a b d hc ha hb hd hk.symm hK
    | 12, _, hk, hK => exact four_12 c a b d hc ha hb hd hk.symm hK
    | 13, _, hk, hK => exact four_13 c a b d hc ha hb hd hk.symm hK
    | 14, _, hk, hK => exact four_14 c a b d hc ha hb hd hk.symm hK
    | 15, _, hk, hK => exact four_15 c a b d hc ha hb hd hk.symm hK
    | k + 16, h, _, _ => exact absurd h (by omega)
  · exact four_16 c a b d hc ha hb hd (by omega) (by unfold fourK; rw [if_neg h16])
end Go.Proofs.YtkfnbpbhcnekiaaGreatDoor

/- ScriptBytes, walked. -/
namespace Go.Proofs.YtkfnbpbhcnekiaaGreatDoor
open Go.RowKit Go.Lib
set_option maxRecDepth 20000
set_option maxHeartbeats 4000000
section
variable {g : Cx} {env : Env} {mem : Mem} {bnd : Bnd} {L : Res} {N : Act → World → Prop} {Q : Exit → Act → World → Prop} {T : World → Prop}
theorem Nx.hoConvI {o : Oper} {src dst : TypeId} {x : Operand} {k k' kd : IntKind} {i r : Int} (ho : o.op = .convert src dst x) (hx : ev env x = some (.c (.v (.int k i)))) (hs : g.P.underlying src = some (.int k')) (hdt : g.P.underlying dst = some (.int kd)) (hd : dstOk g.n o.dst = true)
    (hr : kd.wrap i = r) (hk : Nx g (putE o.dst (.c (.v (.int kd r))) env) mem bnd L N) : Nx g env mem bnd L (HoC g T o N) := by
  subst hr
  refine Nx.hoVal (x := .c (.v (.int kd (kd.wrap i)))) hd (fun β a w hr w' => ?_) hk
  have e1 : a.eval x = .int k i := hr.ev hx
  simp [execOp, ho, e1, convert, run_underlying hs, run_underlying hdt, Conv.intToInt, SV.den, Ce.den]
end
attribute [local irreducible] Nx Ar BrM
theorem conv8 (x : UInt8) : IntKind.i64.wrap (x.toNat : Int) = (x.toNat : Int) := by
  have := x.toNat_lt
  exact inR_wrap (k := .i64) ⟨by omega, by omega⟩
def fromA : List UInt8 → List Ln
  | c :: a :: b :: d :: r => fourA c.toNat a.toNat b.toNat d.toNat :: fromA r
  | _ => []
theorem u8_len (b : UInt8) : ([Value.int .u8 b.toNat] : List Value).length = 1 := rfl
theorem u8_flat (l : List UInt8) : (l.flatMap fun b : UInt8 => [Value.int .u8 b.toNat]) = u8s l := by
  induction l with
  | nil => rfl
  | cons x l ih => simp [ih]
structure FrX where
  L : List LnS
  A : Option Addr
  c : Nat
  l : List UInt8
  W : Option Addr
  wc : Nat
structure FrI (l0 : List UInt8) (x : FrX) : Prop where
  e : fromA l0 = x.L.map (·.o) ++ fromA x.l
  n : x.L.length ≤ l0.length
  m : x.L.length + x.l.length ≤ l0.length
  c : x.l.length ≤ x.wc
theorem rd_cut4 {W : Option Addr} {wc : Nat} {c a b d : UInt8} {r : List UInt8} (hc : (c :: a :: b :: d :: r).length ≤ wc) : ∀ r' h, rdS W (c :: a :: b :: d :: r).length 1 (u8s (c :: a :: b :: d :: r)) r' h → rdS (resl W 4 wc 1) r.length 1 (u8s r) r' h := by
  intro r' h hs
  have h1 := Sees.part (S := rdS W (c :: a :: b :: d :: r).length 1 (u8s (c :: a :: b :: d :: r))) (l := 4) (h := (c :: a :: b :: d :: r).length) (m := wc) (rdS_sees _ _ _ _) (by simp) (Nat.le_refl _) hc r' PH.em (PH.dj_em _) hs
  have e : (r'.un PH.em) = r' := by funext n; unfold PH.un; cases r' n <;> rfl
  rw [e] at h1
  have e2 : ((u8s (c :: a :: b :: d :: r)).drop (4 * 1)).take (((c :: a :: b :: d :: r).length - 4) * 1) = u8s r := by
    show (u8s r).take _ = _
    exact List.take_of_length_le (by simp)
  rw [e2] at h1
  exact h1
theorem From_ok {m : PH} (A : Option Addr) (c : Nat) (l : List UInt8) (hR : Rd m A l.length 1 (u8s l)) (hc : l.length ≤ c) (hl : l.length ≤ 100000) : FnOk Tryz.prog 25 [.slice A l.length c] [roAll m]
    (fun v Q => ∃ (L : List LnS) (B : Option Addr) (d : Nat), L.map (·.o) = fromA l ∧ v = .slice B L.length d ∧ Q = [roAll m, ownS 37 B L.length d 10 (L.flatMap LnS.enc), rdAll L]) := by
  refine FnOk.start Tryz.func25 rfl rfl rfl rfl fun F os tape output => ?_
  refine Nx.also 0 1 (rdS A l.length 1 (u8s l)) rfl (fun r h hs => hR.mono hs) ?_
  refine Nx.give 5 (ownS 37 none 0 0 10 []) (own_nil _ _ _ _) ?_
  refine Nx.give 6 (rdAll []) (rdAll_nil _ _) ?_
  refine go 200 ?_
  conv => whnf
  refine Nx.loop (X := FrX) (FrI l) (fun x => x.l.length)
    (fun x => [(0, sl x.W x.l.length x.wc), (3, sl x.A x.L.length x.c)]) (fun _ => []) [] (fun x => [(0, roAll m), (1, rdS x.W x.l.length 1 (u8s x.l)), (5, ownS 37 x.A x.L.length x.c 10 (x.L.flatMap LnS.enc)), (6, rdAll x.L)]) ⟨[], none, 0, l, A, c⟩ ⟨rfl, Nat.zero_le _, by simp, hc⟩ ?_ ?_ ?_ ?_ ?_
  · repeat (first | exact subE.nil _ | refine subE.cons rfl rfl ?_ | refine subE.cons' rfl (fun _ => rfl) ?_)
  · repeat (first | exact subM.nil _ | refine subM.cons rfl rfl rfl ?_)
  · repeat (first | exact subB.nil _ | refine subB.cons rfl ?_)
  · repeat (first | exact subR.nil _ | refine subR.cons rfl rfl ?_)
  intro x hx ih
  obtain ⟨L, B, e, l1, W, wc⟩ := x
  obtain ⟨he, hn, hm, hwc⟩ := hx
  simp only at he hn hm hwc ih ⊢
  have fin : l1.length < 4 → fromA l = L.map (·.o) := fun h => by
    have : fromA l1 = [] := by
      match l1, h with
      | [], _ => rfl
      | [_], _ => rfl
      | [_, _], _ => rfl
      | [_, _, _], _ => rfl
      | _ :: _ :: _ :: _ :: _, h => simp at h; omega
    rw [he, this, List.append_nil]
  by_cases h4 : l1.length < 4
  · have hf := fin h4
    repeat' (first
      | ((with_reducible refine atBr ?_); refine BrM.not (by omega) ?_; conv => whnf)
      | ((with_reducible refine atBr ?_); (first | refine BrM.t rfl ?_ | refine BrM.f rfl ?_ | refine BrM.dec (fun _ => ?_) (fun _ => ?_) | refine BrM.mk (fun _ => ?_) (fun _ => ?_)) <;> conv => whnf)
      | ((with_reducible refine atAr ?_); refine Ar.i64 (by omega) (by omega) ?_; conv => whnf)
      | ((with_reducible refine atRet ?_); refine Nx.ret [0,5,6] Tryz.func25 rfl rfl ?_; (exact ⟨L, B, e, hf.symm, rfl, rfl⟩))
      | ((with_reducible refine atOps ?_); refine go 200 ?_; conv => whnf)
      | ((with_reducible refine atPlan ?_); refine Nx.runP (n := 200) rfl (by repeat (first | exact subB.nil _ | refine subB.cons rfl ?_)) ?_; conv => whnf)
      | ((with_reducible refine atAftL ?_); refine Nx.late ?_)
      | ((fail_if_success (with_reducible refine atRet ?_)); (fail_if_success (with_reducible refine atLoop ?_)); (fail_if_success (with_reducible refine atIn ?_)); (fail_if_success (with_reducible refine atDrawn ?_)); (fail_if_success (with_reducible refine atEnd ?_)); (with_reducible refine atRun ?_); refine go 200 ?_; conv => whnf))
  · match l1, h4, he, hm, hwc, ih with
    | c :: a :: b :: d :: r, _, he, hm, hwc, ih =>
      have hlen : (c :: a :: b :: d :: r).length = r.length + 4 := rfl
      have hsee : Sees (rdS W (c :: a :: b :: d :: r).length 1 (u8s (c :: a :: b :: d :: r))) W (c :: a :: b :: d :: r).length 1 ((c :: a :: b :: d :: r).flatMap fun b : UInt8 => [Value.int .u8 b.toNat]) := by rw [u8_flat]; exact rdS_sees _ _ _ _
      have q0 : ((c :: a :: b :: d :: r)[0]).toNat < 256 := c.toNat_lt
      have q1 : ((c :: a :: b :: d :: r)[1]).toNat < 256 := a.toNat_lt
      have q2 : ((c :: a :: b :: d :: r)[2]).toNat < 256 := b.toNat_lt
      have q3 : ((c :: a :: b :: d :: r)[3]).toNat < 256 := d.toNat_lt
      have hF : FnOk Tryz.prog 52 [.int .i64 ((c :: a :: b :: d :: r)[0]).toNat, .int .i64 ((c :: a :: b :: d :: r)[1]).toNat, .int .i64 ((c :: a :: b :: d :: r)[2]).toNat, .int .i64 ((c :: a :: b :: d :: r)[3]).toNat] [] (FoPost (fourA c.toNat a.toNat b.toNat d.toNat)) := four_ok c.toNat a.toNat b.toNat d.toNat c.toNat_lt a.toNat_lt b.toNat_lt d.toNat_lt
      repeat' (first
        | ((with_reducible refine atBr ?_); refine BrM.yes (by omega) ?_; conv => whnf)
        | ((with_reducible refine atBr ?_); (first | refine BrM.t rfl ?_ | refine BrM.f rfl ?_ | refine BrM.dec (fun _ => ?_) (fun _ => ?_) | refine BrM.mk (fun _ => ?_) (fun _ => ?_)) <;> conv => whnf)
        | ((with_reducible refine atAr ?_); refine Ar.i64 (by omega) (by omega) ?_; conv => whnf)
        | ((with_reducible refine atDrawn ?_); refine Nx.drawn0 [1] [.pure 0, .pure 1, .pure 2, .held 3, .pure 4, .pure 5, .pure 6, .held 7, .pure 8, .pure 9, .pure 10, .held 11, .pure 12, .pure 13, .pure 14, .held 15, .pure 16, .ex 17 true, .ex 18 true, .ex 19 true, .pure 20] rfl (by kernel_rfl) rfl (by kernel_rfl) rfl (by repeat (first | exact subB.nil _ | refine subB.cons rfl ?_)) rfl ?_)
        | ((with_reducible refine atHoIdx ?_); refine Nx.hoIdx 1 (j := 0) rfl rfl rfl Tryz.underlying66 rfl rfl rfl u8_len hsee rfl (by omega) (by omega) fun _ _ _ => ?_)
        | ((with_reducible refine atHoIdx ?_); refine Nx.hoIdx 1 (j := 1) rfl rfl rfl Tryz.underlying66 rfl rfl rfl u8_len hsee rfl (by omega) (by omega) fun _ _ _ => ?_)
        | ((with_reducible refine atHoIdx ?_); refine Nx.hoIdx 1 (j := 2) rfl rfl rfl Tryz.underlying66 rfl rfl rfl u8_len hsee rfl (by omega) (by omega) fun _ _ _ => ?_)
        | ((with_reducible refine atHoIdx ?_); refine Nx.hoIdx 1 (j := 3) rfl rfl rfl Tryz.underlying66 rfl rfl rfl u8_len hsee rfl (by omega) (by omega) fun _ _ _ => ?_)
        | ((with_reducible refine atHoLoad ?_); first | (refine Nx.hoLoad1 rfl rfl rfl rfl List.mem_cons_self (SeesAt.sub (by assumption) _ rfl) rfl ?_) | (refine Nx.hoLoad1 rfl rfl rfl rfl List.mem_cons_self (by assumption) rfl ?_) | (refine Nx.hoLoad rfl rfl rfl rfl List.mem_cons_self (by assumption) rfl rfl ?_) | (refine Nx.hoLoad1 rfl rfl rfl rfl (List.mem_cons_of_mem _ List.mem_cons_self) (SeesAt.sub (by assumption) _ rfl) rfl ?_) | (refine Nx.hoLoad1 rfl rfl rfl rfl (List.mem_cons_of_mem _ List.mem_cons_self) (by assumption) rfl ?_) | (refine Nx.hoLoad rfl rfl rfl rfl (List.mem_cons_of_mem _ List.mem_cons_self) (by assumption) rfl rfl ?_) | (refine Nx.hoLoad1 rfl rfl rfl rfl (List.mem_cons_of_mem _ (List.mem_cons_of_mem _ List.mem_cons_self)) (SeesAt.sub (by assumption) _ rfl) rfl ?_) | (refine Nx.hoLoad1 rfl rfl rfl rfl (List.mem_cons_of_mem _ (List.mem_cons_of_mem _ List.mem_cons_self)) (by assumption) rfl ?_) | (refine Nx.hoLoad rfl rfl rfl rfl (List.mem_cons_of_mem _ (List.mem_cons_of_mem _ List.mem_cons_self)) (by assumption) rfl rfl ?_) | (refine Nx.hoLoad1 rfl rfl rfl rfl (List.mem_cons_of_mem _ (List.mem_cons_of_mem _ (List.mem_cons_of_mem _ List.mem_cons_self))) (SeesAt.sub (by assumption) _ rfl) rfl ?_) | (refine Nx.hoLoad1 rfl rfl rfl rfl (List.mem_cons_of_mem _ (List.mem_cons_of_mem _ (List.mem_cons_of_mem _ List.mem_cons_self))) (by assumption) rfl ?_) | (refine Nx.hoLoad rfl rfl rfl rfl (List.mem_cons_of_mem _ (List.mem_cons_of_mem _ (List.mem_cons_of_mem _ List.mem_cons_self))) (by assumption) rfl rfl ?_))
        | ((with_reducible refine atOps ?_); refine go 200 ?_; conv => whnf)
        | ((with_reducible refine atPlan ?_); refine Nx.runP (n := 200) rfl (by repeat (first | exact subB.nil _ | refine subB.cons rfl ?_)) ?_; conv => whnf)
        | ((with_reducible refine atAftL ?_); refine Nx.late ?_)
        | ((fail_if_success (with_reducible refine atRet ?_)); (fail_if_success (with_reducible refine atLoop ?_)); (fail_if_success (with_reducible refine atIn ?_)); (fail_if_success (with_reducible refine atDrawn ?_)); (fail_if_success (with_reducible refine atEnd ?_)); (with_reducible refine atRun ?_); refine go 200 ?_; conv => whnf))
      refine Nx.call [] [13,14] rfl rfl rfl rfl rfl (hF) rfl fun v Q hQ => ?_
      obtain ⟨A2, c2, B2, d2, rfl, rfl⟩ := hQ
      obtain ⟨y, hy⟩ : ∃ y, y = fourA c.toNat a.toNat b.toNat d.toNat := ⟨_, rfl⟩
      have hfr : fromA (c :: a :: b :: d :: r) = y :: fromA r := by rw [hy]; rfl
      rw [← hy]
      refine Nx.share 13 (rdS A2 y.after.length 1 (intsV y.after)) rfl own_share ?_
      refine Nx.share 14 (rdS B2 y.evs.length 2 (evsV y.evs)) rfl own_share ?_
      refine Nx.turn [6,13,14] [6] [rdAll (L ++ [⟨y, A2, c2, B2, d2⟩])] rfl (rdAll_more (L := L) (x := ⟨y, A2, c2, B2, d2⟩)) ?_
      repeat' (first
        | ((with_reducible refine atBr ?_); (first | refine BrM.t rfl ?_ | refine BrM.f rfl ?_ | refine BrM.dec (fun _ => ?_) (fun _ => ?_) | refine BrM.mk (fun _ => ?_) (fun _ => ?_)) <;> conv => whnf)
        | ((with_reducible refine atAr ?_); refine Ar.i64 (by omega) (by omega) ?_; conv => whnf)
        | ((with_reducible refine atAftK ?_); refine Nx.keepN [1] rfl (by repeat (first | exact subB.nil _ | refine subB.cons rfl ?_)) (by repeat (first | exact subM.nil _ | refine subM.cons rfl rfl rfl ?_)) rfl ?_)
        | ((with_reducible refine atApp ?_); refine Nx.append 5 (sz := 10) (by_ := 112) (news := (lnC y A2 c2 B2 d2)) rfl rfl rfl rfl rfl Tryz.underlying60 rfl rfl rfl rfl rfl (by unfold maxLen; omega) (by omega) fun A' c'' => ?_)
        | ((with_reducible refine atSlice ?_); refine Nx.reslice (l := 4) (h := (r.length + 4)) (m := wc) rfl rfl Tryz.underlying66 rfl rfl (rfl) (rfl) (rfl) (by simp) (by omega) (by omega) (by omega) ?_)
        | ((with_reducible refine atOps ?_); refine go 200 ?_; conv => whnf)
        | ((with_reducible refine atPlan ?_); refine Nx.runP (n := 200) rfl (by repeat (first | exact subB.nil _ | refine subB.cons rfl ?_)) ?_; conv => whnf)
        | ((with_reducible refine atAftL ?_); refine Nx.late ?_)
        | ((fail_if_success (with_reducible refine atRet ?_)); (fail_if_success (with_reducible refine atLoop ?_)); (fail_if_success (with_reducible refine atIn ?_)); (fail_if_success (with_reducible refine atDrawn ?_)); (fail_if_success (with_reducible refine atEnd ?_)); (with_reducible refine atRun ?_); refine go 200 ?_; conv => whnf))
      refine Nx.turn [1] [1] [rdS (resl W 4 wc 1) r.length 1 (u8s r)] rfl (fun r' h hs => ?_) ?_
      · obtain ⟨r1, h1, h2, a1, a2, a3, a4, a5, a6⟩ := hs
        exact ⟨r1, h1, h2, a1, a2, a3, a4, rd_cut4 hwc _ _ a5, a6⟩
      refine (ih ⟨L ++ [⟨y, A2, c2, B2, d2⟩], A', c'', r, resl W 4 wc 1, wc - 4⟩ ⟨by rw [he, hfr]; simp, by simp only [List.length_append, List.length_singleton]; omega, by simp only [List.length_append, List.length_singleton]; omega, by show r.length ≤ wc - 4; omega⟩ (by show r.length < (c :: a :: b :: d :: r).length; omega)).weak ?_ ?_ ?_ ?_
      · exact .cons rfl rfl (.cons rfl (by simp) (.nil _))
      · repeat (first | exact subM.nil _ | refine subM.cons rfl rfl rfl ?_)
      · repeat (first | exact subB.nil _ | refine subB.cons rfl ?_)
      · exact .cons rfl rfl (.cons rfl rfl (.cons rfl (by simp) (.cons rfl rfl (.nil _))))
    | [], h, _, _, _, _ => exact absurd (by simp) h
    | [_], h, _, _, _, _ => exact absurd (by simp) h
    | [_, _], h, _, _, _, _ => exact absurd (by simp) h
    | [_, _, _], h, _, _, _, _ => exact absurd (by simp) h
theorem fromA_len : ∀ l : List UInt8, (fromA l).length = l.length / 4
  | [] => rfl
  | [_] => by simp [fromA]
  | [_, _] => by simp [fromA]
  | [_, _, _] => by simp [fromA]
  | c :: a :: b :: d :: r => by
    have := fromA_len r
    rw [fromA]; simp only [List.length_cons, this]; omega
theorem oneN_len (n : Nat) : (oneN n).length ≤ 1 := by unfold oneN; split <;> simp
theorem fourA_len (c a b d : Nat) : (fourA c a b d).after.length ≤ 64 ∧ (fourA c a b d).evs.length ≤ 64 := by
  have h1 := oneN_len d
  have h2 := bitsTo_len a 8
  have h3 := evsTo_len d (1 + b % 4)
  constructor
  · show (if 2 ≤ fourK c ∧ fourK c ≤ 4 then oneN d else if fourK c = 5 then bitsTo a 8 else []).length ≤ 64
    split
    · omega
    · split
      · omega
      · simp
  · show (if fourK c = 6 ∨ fourK c = 7 then evsTo d (1 + b % 4) else []).length ≤ 64
    split
    · omega
    · simp
end Go.Proofs.YtkfnbpbhcnekiaaGreatDoor

/- ScriptWhole: the plain law. -/
namespace Go.Proofs.YtkfnbpbhcnekiaaGreatDoor
open Go.RowKit Go.Lib
set_option maxRecDepth 20000
set_option maxHeartbeats 4000000

theorem fourK_lt (c : Nat) : fourK c < 17 := by unfold fourK; split <;> omega
theorem fourA_deed (c a b d : Nat) : (fourA c a b d).deed = (fourK c : Int) := rfl
theorem wayN_kind (b : Nat) : 0 ≤ (wayN b).kind ∧ (wayN b).kind ≤ 3 := by unfold wayN; simp only; omega
theorem fourA_right (c a b d : Nat) : wrongA (fourA c a b d) = 0 := by
  have hk := fourK_lt c
  have hd := fourA_deed c a b d
  have hw := wayN_kind b
  have ha : (fourA c a b d).after.length ≤ 64 := (fourA_len c a b d).1
  have he : (fourA c a b d).evs.length ≤ 64 := (fourA_len c a b d).2
  unfold wrongA
  rw [if_neg (by unfold wA; omega), if_neg, if_neg, if_neg (by unfold wD; omega)]
  · rintro ⟨h1, h2⟩
    have e : (fourA c a b d).way = wayN b := by
      show (if 1 ≤ fourK c ∧ fourK c ≤ 4 then wayN b else ⟨0, 0, 0⟩) = _
      rw [if_pos (by omega)]
    rw [e] at h2; omega
  · rintro ⟨h1, h2⟩
    have e : (fourA c a b d).ring = ((b % 2 : Nat) : Int) := by
      show (if fourK c = 0 then _ else _ : Int) = _
      rw [if_pos (by omega)]
    rw [e] at h2; omega
theorem joinC_no {x : UInt8} (hx : x ≠ 32) : ∀ {l : List Str}, (∀ w ∈ l, x ∉ w) → x ∉ joinC 32 l
  | [], _ => by simp [joinC]
  | [w], h => h w (by simp)
  | w :: v :: r, h => by
    rw [joinC_cons 32 w (by simp)]
    intro hm
    rcases List.mem_append.1 hm with hm | hm
    · exact h w (by simp) hm
    · rcases List.mem_cons.1 hm with hm | hm
      · exact hx hm
      · exact joinC_no hx (fun u hu => h u (List.mem_cons_of_mem _ hu)) hm
theorem word_head : ∀ k < 17, (word k).head? ≠ none ∧ (word k).head? ≠ some 35 := by decide
theorem line_skip {o : Ln} (hd : o.deed.toNat < 17) : ¬ skipA (joinC 32 (lineW o)) := by
  have hw := word_head _ hd
  have e : ∃ t, joinC 32 (lineW o) = word o.deed.toNat ++ t := by
    unfold lineW
    cases hr : (shape o.deed.toNat).flatMap (fieldW o) with
    | nil => exact ⟨[], by simp [joinC]⟩
    | cons v r => exact ⟨32 :: joinC 32 (v :: r), joinC_cons 32 _ (by simp)⟩
  obtain ⟨t, e⟩ := e
  rw [e]
  cases hq : word o.deed.toNat with
  | nil => rw [hq] at hw; exact absurd rfl hw.1
  | cons x r =>
    rw [hq] at hw
    rintro (h | h)
    · cases h
    · exact hw.2 (by simpa using h)
/-- A line in the whole: a remark, an empty line, the line. -/
def blockW (rem : Str) (o : Ln) : Str := (35 :: rem) ++ 10 :: ([] ++ 10 :: (joinC 32 (lineW o) ++ [10]))
def docW (rem : Str) (l : List Ln) : Str := l.flatMap (blockW rem)
theorem read_doc {rem : Str} (hr : (10 : UInt8) ∉ rem) : ∀ (l : List Ln) (i : Nat), (∀ o ∈ l, o.wf ∧ wrongA o = 0) → readA (splitC 10 (docW rem l)) i = .ok (l.map plainA)
  | [], i, _ => by
    show readA [[]] i = _
    rw [readA, if_pos (.inl rfl)]; rfl
  | o :: l, i, h => by
    obtain ⟨hw, h0⟩ := h o (by simp)
    obtain ⟨k, hf⟩ := print_fine h0
    have hk : o.deed.toNat < 17 := by have := hf.lt; have := hf.e; omega
    have n10 : (10 : UInt8) ∉ joinC 32 (lineW o) := joinC_no (by decide) (lineW_no10 hk)
    have e : docW rem (o :: l) = (35 :: rem) ++ 10 :: ([] ++ 10 :: (joinC 32 (lineW o) ++ 10 :: docW rem l)) := by
      show blockW rem o ++ docW rem l = _
      simp [blockW]
    have ih := read_doc hr l (i + 3) fun x hx => h x (List.mem_cons_of_mem _ hx)
    rw [e, splitC_append _ (by simp [hr]), splitC_append _ (by simp), splitC_append _ n10]
    rw [readA, if_pos (.inr rfl), readA, if_pos (.inl rfl), readA, if_neg (line_skip hk), print_parse hf hw]
    simp only
    rw [ih]
    rfl
end Go.Proofs.YtkfnbpbhcnekiaaGreatDoor

/- ScriptWhole: the plain law, lengths and the line printed again. -/
namespace Go.Proofs.YtkfnbpbhcnekiaaGreatDoor
open Go.RowKit Go.Lib
set_option maxRecDepth 20000
set_option maxHeartbeats 4000000

theorem fourA_wf {c a b d : Nat} (ha : a < 256) (hb : b < 256) (hd : d < 256) : (fourA c a b d).wf := by
  have hk := fourK_lt c
  have hp := pow7 (q := a % 7) (by omega)
  have h1 : ∀ x ∈ (fourA c a b d).after, I64n x := by
    intro x hx
    have hx : x ∈ (if 2 ≤ fourK c ∧ fourK c ≤ 4 then oneN d else if fourK c = 5 then bitsTo a 8 else []) := hx
    split at hx
    · unfold oneN at hx
      split at hx
      · cases hx
      · rw [List.mem_singleton] at hx; subst hx; unfold I64n; omega
    · split at hx
      · unfold bitsTo at hx
        obtain ⟨i, hi, rfl⟩ := List.mem_map.1 hx
        have := List.mem_range.1 (List.mem_filter.1 hi).1
        unfold I64n; omega
      · cases hx
  have h2 : ∀ x ∈ (fourA c a b d).evs, I64n x.key ∧ I64n x.val := by
    intro x hx
    have hx : x ∈ (if fourK c = 6 ∨ fourK c = 7 then evsTo d (1 + b % 4) else []) := hx
    split at hx
    · unfold evsTo at hx
      obtain ⟨i, hi, rfl⟩ := List.mem_map.1 hx
      have := List.mem_range.1 hi
      unfold I64n; simp only; omega
    · cases hx
  have q0 : I64n 0 := by unfold I64n; omega
  have hw : I64n (wayN b).kind ∧ I64n (wayN b).tries ∧ I64n (wayN b).time := by
    unfold wayN I64n; simp only
    refine ⟨by omega, ?_, ?_⟩ <;> split <;> omega
  have hway : I64n (fourA c a b d).way.kind ∧ I64n (fourA c a b d).way.tries ∧ I64n (fourA c a b d).way.time := by
    show I64n (if 1 ≤ fourK c ∧ fourK c ≤ 4 then wayN b else ⟨0, 0, 0⟩ : Way).kind ∧ I64n (if 1 ≤ fourK c ∧ fourK c ≤ 4 then wayN b else ⟨0, 0, 0⟩ : Way).tries ∧ I64n (if 1 ≤ fourK c ∧ fourK c ≤ 4 then wayN b else ⟨0, 0, 0⟩ : Way).time
    split
    · exact hw
    · exact ⟨q0, q0, q0⟩
  refine ⟨?_, ?_, ?_, ?_, ?_, hway.1, hway.2.1, hway.2.2, h1, h2⟩
  · show I64n (fourK c : Int); unfold I64n; omega
  · show I64n (if 6 ≤ fourK c ∧ fourK c ≤ 14 then ((a % 64 : Nat) : Int) else 0); split <;> unfold I64n <;> omega
  · show I64n (if fourK c = 0 then ((b % 2 : Nat) : Int) else if 1 ≤ fourK c ∧ fourK c ≤ 4 then ((a % 8 : Nat) : Int) else 0)
    split
    · unfold I64n; omega
    · split <;> unfold I64n <;> omega
  · show I64n (if fourK c = 0 then ((2 ^ (a % 7) : Nat) : Int) else if fourK c = 2 ∨ fourK c = 3 then 1 + ((d % 8 : Nat) : Int) else if fourK c = 8 ∨ fourK c = 10 then (b : Int) else if fourK c = 16 then (a : Int) + 256 * (b : Int) else 0)
    generalize 2 ^ (a % 7) = z at hp
    split
    · unfold I64n; omega
    · split
      · unfold I64n; omega
      · split
        · unfold I64n; omega
        · split <;> unfold I64n <;> omega
  · show I64n (if fourK c = 15 then (b : Int) else 0); split <;> unfold I64n <;> omega
theorem lineW_four (c a b d : Nat) : (lineW (fourA c a b d)).length ≤ 20 := by
  rw [lineW_head (fourA c a b d) (fourK_lt c) rfl]
  have h0 := headW_len (fourA c a b d) (fourK_lt c)
  have h1 := oneN_len d
  have h2 := bitsTo_len a 8
  have h3 := evsTo_len d (1 + b % 4)
  have l1 : (fourA c a b d).after.length ≤ 8 := by
    show (if 2 ≤ fourK c ∧ fourK c ≤ 4 then oneN d else if fourK c = 5 then bitsTo a 8 else []).length ≤ 8
    split
    · omega
    · split
      · omega
      · simp
  have l2 : (fourA c a b d).evs.length ≤ 4 := by
    show (if fourK c = 6 ∨ fourK c = 7 then evsTo d (1 + b % 4) else []).length ≤ 4
    split
    · omega
    · simp
  have e1 : (if 2 ≤ fourK c ∧ fourK c ≤ 5 then (fourA c a b d).after.map itoa else []).length ≤ 8 := by
    split
    · rw [List.length_map]; exact l1
    · simp
  have e2 : (if fourK c = 6 ∨ fourK c = 7 then (fourA c a b d).evs.map evW else []).length ≤ 4 := by
    split
    · rw [List.length_map]; exact l2
    · simp
  rw [List.length_append, List.length_append]
  omega
/-- A line that bytes tell. -/
structure Good (o : Ln) : Prop where
  w : o.wf
  r : wrongA o = 0
  n : (joinC 32 (lineW o)).length ≤ 840
  a : o.after.length ≤ 64
  e : o.evs.length ≤ 64
theorem fourA_good {c a b d : Nat} (ha : a < 256) (hb : b < 256) (hd : d < 256) : Good (fourA c a b d) := by
  have hw := fourA_wf (c := c) ha hb hd
  have hk : (fourA c a b d).deed.toNat < 17 := by
    show ((fourK c : Int)).toNat < 17
    have := fourK_lt c
    omega
  have h1 := joinC_len (c := 32) (lineW_len hw hk)
  have h2 := lineW_four c a b d
  refine ⟨hw, fourA_right c a b d, ?_, (fourA_len c a b d).1, (fourA_len c a b d).2⟩
  have h3 : (lineW (fourA c a b d)).length * (41 + 1) ≤ 20 * (41 + 1) := Nat.mul_le_mul_right _ h2
  omega
theorem fromA_good : ∀ (l : List UInt8), ∀ o ∈ fromA l, Good o
  | [], o, h => by cases h
  | [_], o, h => by cases h
  | [_, _], o, h => by cases h
  | [_, _, _], o, h => by cases h
  | c :: a :: b :: d :: r, o, h => by
    rcases List.mem_cons.1 h with rfl | h
    · exact fourA_good a.toNat_lt b.toNat_lt d.toNat_lt
    · exact fromA_good r o h
/-- What is read back is a line whose text is the same. -/
theorem Good.back {o : Ln} (h : Good o) : (plainA o).wf ∧ printA (plainA o) = .ok (joinC 32 (lineW o)) ∧ (plainA o).after.length ≤ 64 ∧ (plainA o).evs.length ≤ 64 := by
  obtain ⟨k, hf⟩ := print_fine h.r
  have hp := print_parse hf h.w
  obtain ⟨h1, h2, _⟩ := parse_fine hp
  exact ⟨h1, h2, (parse_len hp).1, (parse_len hp).2⟩
theorem Good.print {o : Ln} (h : Good o) : printA o = .ok (joinC 32 (lineW o)) := by
  obtain ⟨k, hf⟩ := print_fine h.r
  exact hf.p
theorem docW_len {rem : Str} (hr : rem.length ≤ 100) : ∀ (l : List Ln), (∀ o ∈ l, Good o) → (docW rem l).length ≤ l.length * 944
  | [], _ => by simp [docW]
  | o :: l, h => by
    have h1 := (h o (by simp)).n
    have h2 := docW_len hr l fun x hx => h x (List.mem_cons_of_mem _ hx)
    have e : (docW rem (o :: l)).length = (blockW rem o).length + (docW rem l).length := by simp [docW]
    have e2 : (blockW rem o).length = rem.length + (joinC 32 (lineW o)).length + 4 := by simp [blockW]; omega
    rw [e, e2, List.length_cons, Nat.add_mul]
    omega
theorem docW_snoc (rem : Str) (l : List Ln) (o : Ln) : docW rem (l ++ [o]) = docW rem l ++ blockW rem o := by simp [docW]
end Go.Proofs.YtkfnbpbhcnekiaaGreatDoor

/- ScriptWhole: the law. -/
namespace Go.Proofs.YtkfnbpbhcnekiaaGreatDoor
open Go.RowKit Go.Lib
attribute [local irreducible] Nx Ar BrM
set_option maxRecDepth 20000
set_option maxHeartbeats 4000000

theorem Whole_ok {m : PH} (hG : Glo m) (A : Option Addr) (c : Nat) (l : List UInt8) (hR : Rd m A l.length 1 (u8s l)) (hc : l.length ≤ c) (rem : Str) : FnOk Tryz.prog 8 [.slice A l.length c, str rem] [roAll m] (fun v Q => v = .bool true ∧ Q = [roAll m]) := by
  have hsz : (⟨rem.toArray⟩ : ByteArray).size = rem.length := by simp [ByteArray.size]
  refine FnOk.start Tryz.func8 rfl rfl rfl rfl fun F os tape output => ?_
  refine go 200 ?_
  conv => whnf
  by_cases h5 : 1000 < l.length
  · repeat' (first
      | ((with_reducible refine atBr ?_); refine BrM.yes (by omega) ?_; conv => whnf)
      | ((with_reducible refine atBr ?_); (first | refine BrM.t rfl ?_ | refine BrM.f rfl ?_ | refine BrM.dec (fun _ => ?_) (fun _ => ?_) | refine BrM.mk (fun _ => ?_) (fun _ => ?_)) <;> conv => whnf)
      | ((with_reducible refine atAr ?_); refine Ar.i64 (by omega) (by omega) ?_; conv => whnf)
      | ((with_reducible refine (atCall 10) ?_); refine Nx.call [0] [0] rfl rfl rfl rfl rfl ((awake_ok hG)) rfl fun v Q hQ => ?_; obtain ⟨rfl, rfl⟩ := hQ)
      | ((with_reducible refine atRet ?_); refine Nx.ret [0] Tryz.func8 rfl rfl ?_; (exact ⟨rfl, rfl⟩))
      | ((with_reducible refine atOps ?_); refine go 200 ?_; conv => whnf)
      | ((with_reducible refine atPlan ?_); refine Nx.runP (n := 200) rfl (by repeat (first | exact subB.nil _ | refine subB.cons rfl ?_)) ?_; conv => whnf)
      | ((with_reducible refine atAftL ?_); refine Nx.late ?_)
      | ((fail_if_success (with_reducible refine atRet ?_)); (fail_if_success (with_reducible refine atLoop ?_)); (fail_if_success (with_reducible refine atIn ?_)); (fail_if_success (with_reducible refine atDrawn ?_)); (fail_if_success (with_reducible refine atEnd ?_)); (with_reducible refine atRun ?_); refine go 200 ?_; conv => whnf))
  by_cases h6 : 100 < rem.length
  · repeat' (first
      | ((with_reducible refine atBr ?_); refine BrM.not (by omega) ?_; conv => whnf)
      | ((with_reducible refine atBr ?_); refine BrM.yes (by omega) ?_; conv => whnf)
      | ((with_reducible refine atBr ?_); (first | refine BrM.t rfl ?_ | refine BrM.f rfl ?_ | refine BrM.dec (fun _ => ?_) (fun _ => ?_) | refine BrM.mk (fun _ => ?_) (fun _ => ?_)) <;> conv => whnf)
      | ((with_reducible refine atAr ?_); refine Ar.i64 (by omega) (by omega) ?_; conv => whnf)
      | ((with_reducible refine (atCall 10) ?_); refine Nx.call [0] [0] rfl rfl rfl rfl rfl ((awake_ok hG)) rfl fun v Q hQ => ?_; obtain ⟨rfl, rfl⟩ := hQ)
      | ((with_reducible refine atRet ?_); refine Nx.ret [0] Tryz.func8 rfl rfl ?_; (exact ⟨rfl, rfl⟩))
      | ((with_reducible refine atOps ?_); refine go 200 ?_; conv => whnf)
      | ((with_reducible refine atPlan ?_); refine Nx.runP (n := 200) rfl (by repeat (first | exact subB.nil _ | refine subB.cons rfl ?_)) ?_; conv => whnf)
      | ((with_reducible refine atAftL ?_); refine Nx.late ?_)
      | ((fail_if_success (with_reducible refine atRet ?_)); (fail_if_success (with_reducible refine atLoop ?_)); (fail_if_success (with_reducible refine atIn ?_)); (fail_if_success (with_reducible refine atDrawn ?_)); (fail_if_success (with_reducible refine atEnd ?_)); (with_reducible refine atRun ?_); refine go 200 ?_; conv => whnf))
  have hF := From_ok A c l hR hc (by omega)
  repeat' (first
    | ((with_reducible refine atBr ?_); refine BrM.not (by omega) ?_; conv => whnf)
    | ((with_reducible refine atBr ?_); (first | refine BrM.t rfl ?_ | refine BrM.f rfl ?_ | refine BrM.dec (fun _ => ?_) (fun _ => ?_) | refine BrM.mk (fun _ => ?_) (fun _ => ?_)) <;> conv => whnf)
    | ((with_reducible refine atAr ?_); refine Ar.i64 (by omega) (by omega) ?_; conv => whnf)
    | ((with_reducible refine atOps ?_); refine go 200 ?_; conv => whnf)
    | ((with_reducible refine atPlan ?_); refine Nx.runP (n := 200) rfl (by repeat (first | exact subB.nil _ | refine subB.cons rfl ?_)) ?_; conv => whnf)
    | ((with_reducible refine atAftL ?_); refine Nx.late ?_)
    | ((fail_if_success (with_reducible refine atRet ?_)); (fail_if_success (with_reducible refine atLoop ?_)); (fail_if_success (with_reducible refine atIn ?_)); (fail_if_success (with_reducible refine atDrawn ?_)); (fail_if_success (with_reducible refine atEnd ?_)); (with_reducible refine atRun ?_); refine go 200 ?_; conv => whnf))
  refine Nx.loop (X := Nat) (fun k => k ≤ rem.length ∧ (10 : UInt8) ∉ rem.take k) (fun k => rem.length - k) (fun k => [(0, sl A l.length c), (1, sv rem), (30, iv rem.length), (31, iv k)]) (fun _ => []) [] (fun _ => [(0, roAll m)]) 0 ⟨Nat.zero_le _, by simp⟩ ?_ ?_ ?_ ?_ ?_
  · repeat (first | exact subE.nil _ | refine subE.cons rfl rfl ?_ | refine subE.cons' rfl (fun _ => rfl) ?_)
  · repeat (first | exact subM.nil _ | refine subM.cons rfl rfl rfl ?_)
  · repeat (first | exact subB.nil _ | refine subB.cons rfl ?_)
  · repeat (first | exact subR.nil _ | refine subR.cons rfl rfl ?_)
  intro k hk ih
  obtain ⟨hk, hno⟩ := hk
  by_cases hlt : k < rem.length
  · have hb := byteAt_nat hlt
    by_cases he : rem[k] = 10
    · have hb2 : byteAt rem k = 10 := by rw [hb, he]; rfl
      clear ih
      repeat' (first
        | ((with_reducible refine atBr ?_); refine BrM.yes (by omega) ?_; conv => whnf)
        | ((with_reducible refine atBr ?_); (first | refine BrM.t rfl ?_ | refine BrM.f rfl ?_ | refine BrM.dec (fun _ => ?_) (fun _ => ?_) | refine BrM.mk (fun _ => ?_) (fun _ => ?_)) <;> conv => whnf)
        | ((with_reducible refine atAr ?_); refine Ar.i64 (by omega) (by omega) ?_; conv => whnf)
        | ((with_reducible refine atIndex ?_); refine Nx.sidx rfl rfl rfl Tryz.underlying9 rfl (by omega) (by omega) ?_)
        | ((with_reducible refine (atCall 10) ?_); refine Nx.call [0] [0] rfl rfl rfl rfl rfl ((awake_ok hG)) rfl fun v Q hQ => ?_; obtain ⟨rfl, rfl⟩ := hQ)
        | ((with_reducible refine atRet ?_); refine Nx.ret [0] Tryz.func8 rfl rfl ?_; (exact ⟨rfl, rfl⟩))
        | ((with_reducible refine atOps ?_); refine go 200 ?_; conv => whnf)
        | ((with_reducible refine atPlan ?_); refine Nx.runP (n := 200) rfl (by repeat (first | exact subB.nil _ | refine subB.cons rfl ?_)) ?_; conv => whnf)
        | ((with_reducible refine atAftL ?_); refine Nx.late ?_)
        | ((fail_if_success (with_reducible refine atRet ?_)); (fail_if_success (with_reducible refine atLoop ?_)); (fail_if_success (with_reducible refine atIn ?_)); (fail_if_success (with_reducible refine atDrawn ?_)); (fail_if_success (with_reducible refine atEnd ?_)); (with_reducible refine atRun ?_); refine go 200 ?_; conv => whnf))
    · have hb2 : byteAt rem k ≠ 10 := fun h => he ((byte_eq (n := 10) (by omega)).1 (by rw [← hb]; exact h))
      have nx : (10 : UInt8) ∉ rem.take (k + 1) := by
        rw [List.take_succ_eq_append_getElem hlt]
        intro h
        rcases List.mem_append.1 h with h | h
        · exact hno h
        · exact he (List.mem_singleton.1 h).symm
      repeat' (first
        | ((with_reducible refine atBr ?_); refine BrM.yes (by omega) ?_; conv => whnf)
        | ((with_reducible refine atBr ?_); refine BrM.not (by omega) ?_; conv => whnf)
        | ((with_reducible refine atAr ?_); refine Ar.to (k := .i64) (((k+1:Nat):Int)) (by omega) ⟨by omega, by omega⟩ ?_; conv => whnf)
        | ((with_reducible refine atBr ?_); (first | refine BrM.t rfl ?_ | refine BrM.f rfl ?_ | refine BrM.dec (fun _ => ?_) (fun _ => ?_) | refine BrM.mk (fun _ => ?_) (fun _ => ?_)) <;> conv => whnf)
        | ((with_reducible refine atAr ?_); refine Ar.i64 (by omega) (by omega) ?_; conv => whnf)
        | ((with_reducible refine atIndex ?_); refine Nx.sidx rfl rfl rfl Tryz.underlying9 rfl (by omega) (by omega) ?_)
        | ((with_reducible refine atIn ?_); refine Nx.weak ((ih (k + 1) ⟨hlt, nx⟩ (by omega))) ?_ ?_ ?_ ?_ <;> (first | exact subM.nil _ | exact subB.nil _ | exact subR.nil _ | ((repeat (first | exact subE.nil _ | refine subE.cons rfl rfl ?_ | refine subE.cons' rfl (fun _ => rfl) ?_ | (refine subE.cons rfl ?_ ?_; · (simp; done)))); done) | ((repeat (first | exact subM.nil _ | refine subM.cons rfl rfl rfl ?_)); done) | ((repeat (first | exact subB.nil _ | refine subB.cons rfl ?_)); done) | ((repeat (first | exact subR.nil _ | refine subR.cons rfl rfl ?_)); done) | omega | (dsimp only; omega) | (skip) | skip))
        | ((with_reducible refine atOps ?_); refine go 200 ?_; conv => whnf)
        | ((with_reducible refine atPlan ?_); refine Nx.runP (n := 200) rfl (by repeat (first | exact subB.nil _ | refine subB.cons rfl ?_)) ?_; conv => whnf)
        | ((with_reducible refine atAftL ?_); refine Nx.late ?_)
        | ((fail_if_success (with_reducible refine atRet ?_)); (fail_if_success (with_reducible refine atLoop ?_)); (fail_if_success (with_reducible refine atIn ?_)); (fail_if_success (with_reducible refine atDrawn ?_)); (fail_if_success (with_reducible refine atEnd ?_)); (with_reducible refine atRun ?_); refine go 200 ?_; conv => whnf))
  clear ih
  have hno' : (10 : UInt8) ∉ rem := by rwa [List.take_of_length_le (by omega)] at hno
  repeat' (first
    | ((with_reducible refine atBr ?_); refine BrM.not (by omega) ?_; conv => whnf)
    | ((with_reducible refine atBr ?_); (first | refine BrM.t rfl ?_ | refine BrM.f rfl ?_ | refine BrM.dec (fun _ => ?_) (fun _ => ?_) | refine BrM.mk (fun _ => ?_) (fun _ => ?_)) <;> conv => whnf)
    | ((with_reducible refine atAr ?_); refine Ar.i64 (by omega) (by omega) ?_; conv => whnf)
    | ((with_reducible refine atOps ?_); refine go 200 ?_; conv => whnf)
    | ((with_reducible refine atPlan ?_); refine Nx.runP (n := 200) rfl (by repeat (first | exact subB.nil _ | refine subB.cons rfl ?_)) ?_; conv => whnf)
    | ((with_reducible refine atAftL ?_); refine Nx.late ?_)
    | ((fail_if_success (with_reducible refine atRet ?_)); (fail_if_success (with_reducible refine atLoop ?_)); (fail_if_success (with_reducible refine atIn ?_)); (fail_if_success (with_reducible refine atDrawn ?_)); (fail_if_success (with_reducible refine atEnd ?_)); (with_reducible refine atRun ?_); refine go 200 ?_; conv => whnf))
  refine Nx.call [0] [0,3,4] rfl rfl rfl rfl rfl (hF) rfl fun v Q hQ => ?_
  obtain ⟨L, B, d, hL, rfl, rfl⟩ := hQ
  have hlen : L.length = l.length / 4 := by rw [← fromA_len l, ← hL, List.length_map]
  have hg : ∀ o ∈ L.map (·.o), Good o := by rw [hL]; exact fromA_good l
  have hgx : ∀ (k : Nat) (h : k < L.length), Good L[k].o := fun k h => hg _ (List.mem_map.2 ⟨L[k], List.getElem_mem h, rfl⟩)
  have hdl : ∀ k, (docW rem ((L.map (·.o)).take k)).length ≤ 250 * 944 := fun k => by
    have h1 := docW_len (by omega : rem.length ≤ 100) ((L.map (·.o)).take k) fun o h => hg o (List.mem_of_mem_take h)
    have h2 : ((L.map (·.o)).take k).length ≤ 250 := by rw [List.length_take, List.length_map]; omega
    exact Nat.le_trans h1 (Nat.mul_le_mul_right _ h2)
  repeat' (first
    | ((with_reducible refine atBr ?_); (first | refine BrM.t rfl ?_ | refine BrM.f rfl ?_ | refine BrM.dec (fun _ => ?_) (fun _ => ?_) | refine BrM.mk (fun _ => ?_) (fun _ => ?_)) <;> conv => whnf)
    | ((with_reducible refine atAr ?_); refine Ar.i64 (by omega) (by omega) ?_; conv => whnf)
    | (fail)
    | ((with_reducible refine atOps ?_); refine go 200 ?_; conv => whnf)
    | ((with_reducible refine atPlan ?_); refine Nx.runP (n := 200) rfl (by repeat (first | exact subB.nil _ | refine subB.cons rfl ?_)) ?_; conv => whnf)
    | ((with_reducible refine atAftL ?_); refine Nx.late ?_)
    | ((fail_if_success (with_reducible refine atRet ?_)); (fail_if_success (with_reducible refine atLoop ?_)); (fail_if_success (with_reducible refine atIn ?_)); (fail_if_success (with_reducible refine atDrawn ?_)); (fail_if_success (with_reducible refine atEnd ?_)); (with_reducible refine atRun ?_); refine go 200 ?_; conv => whnf))
  refine Nx.loop (X := Nat) (fun k => k ≤ L.length) (fun k => L.length - k) (fun k => [(1, sv rem), (6, sl B L.length d), (7, sv (docW rem ((L.map (·.o)).take k))), (42, sl B L.length d), (43, iv L.length), (44, iv k)]) (fun _ => []) []
    (fun _ => [(0, roAll m), (3, ownS 37 B L.length d 10 (L.flatMap LnS.enc)), (4, rdAll L)]) 0 (Nat.zero_le _) ?_ ?_ ?_ ?_ ?_
  · repeat (first | exact subE.nil _ | refine subE.cons rfl rfl ?_ | refine subE.cons' rfl (fun _ => rfl) ?_)
  · repeat (first | exact subM.nil _ | refine subM.cons rfl rfl rfl ?_)
  · repeat (first | exact subB.nil _ | refine subB.cons rfl ?_)
  · repeat (first | exact subR.nil _ | refine subR.cons rfl rfl ?_)
  intro k hk ih
  by_cases hlt : k < L.length
  · have s1 := rdAll_sees1 (List.getElem_mem hlt)
    have s2 := rdAll_sees2 (List.getElem_mem hlt)
    have hgk := hgx k hlt
    have hln := hgk.n
    have hPr := Print_ok hG (rdAll L) (rdAll L) L[k].o hgk.w L[k].A L[k].B L[k].c L[k].d s1 s2 (Nat.le_trans hgk.a (by decide)) (Nat.le_trans hgk.e (by decide))
    rw [hgk.print] at hPr
    have hdk := hdl k
    have hnext : docW rem ((L.map (·.o)).take (k + 1)) = docW rem ((L.map (·.o)).take k) ++ ((([35] ++ rem) ++ [10, 10]) ++ joinC 32 (lineW L[k].o) ++ [10]) := by
      have hlt' : k < (L.map (·.o)).length := by simpa using hlt
      rw [List.take_succ_eq_append_getElem hlt', docW_snoc, List.getElem_map]
      simp [blockW]
    generalize docW rem ((L.map (·.o)).take k) = doc at hdk hnext ⊢
    refine Nx.also 4 14 (rdAll L) rfl (fun _ _ h => h) ?_
    repeat' (first
      | ((with_reducible refine atBr ?_); refine BrM.yes (by omega) ?_; conv => whnf)
      | ((with_reducible refine atBr ?_); (first | refine BrM.t rfl ?_ | refine BrM.f rfl ?_ | refine BrM.dec (fun _ => ?_) (fun _ => ?_) | refine BrM.mk (fun _ => ?_) (fun _ => ?_)) <;> conv => whnf)
      | ((with_reducible refine atAr ?_); refine Ar.i64 (by omega) (by omega) ?_; conv => whnf)
      | ((with_reducible refine atIdx ?_); refine Nx.idx 3 rfl rfl rfl Tryz.underlying60 rfl rfl rfl enc_len (ownS_sees 37 B L.length d 10 (L.flatMap LnS.enc)) rfl rfl (by omega) fun _ _ _ => ?_)
      | ((with_reducible refine atLoad ?_); first | (refine Nx.load1 3 rfl rfl rfl rfl (SeesAt.sub (by assumption) _ rfl) rfl ?_) | (refine Nx.load1 3 rfl rfl rfl rfl (by assumption) rfl ?_) | (refine Nx.load 3 rfl rfl rfl rfl (by assumption) rfl rfl ?_))
      | ((with_reducible refine atOps ?_); refine go 200 ?_; conv => whnf)
      | ((with_reducible refine atPlan ?_); refine Nx.runP (n := 200) rfl (by repeat (first | exact subB.nil _ | refine subB.cons rfl ?_)) ?_; conv => whnf)
      | ((with_reducible refine atAftL ?_); refine Nx.late ?_)
      | ((fail_if_success (with_reducible refine atRet ?_)); (fail_if_success (with_reducible refine atLoop ?_)); (fail_if_success (with_reducible refine atIn ?_)); (fail_if_success (with_reducible refine atDrawn ?_)); (fail_if_success (with_reducible refine atEnd ?_)); (with_reducible refine atRun ?_); refine go 200 ?_; conv => whnf))
    refine Nx.call [0,4,14] [0,4,14] rfl rfl rfl rfl rfl (hPr) rfl fun v Q hQ => ?_
    obtain ⟨rfl, rfl⟩ := hQ
    repeat' (first
      | ((with_reducible refine atBr ?_); refine BrM.not (fun h => h rfl) ?_; conv => whnf)
      | ((with_reducible refine atAr ?_); refine Ar.to (k := .i64) (((k+1:Nat):Int)) (by omega) ⟨by omega, by omega⟩ ?_; conv => whnf)
      | ((with_reducible refine atBr ?_); (first | refine BrM.t rfl ?_ | refine BrM.f rfl ?_ | refine BrM.dec (fun _ => ?_) (fun _ => ?_) | refine BrM.mk (fun _ => ?_) (fun _ => ?_)) <;> conv => whnf)
      | ((with_reducible refine atAr ?_); refine Ar.i64 (by omega) (by omega) ?_; conv => whnf)
      | ((with_reducible refine atAdd ?_); refine Nx.cat rfl rfl rfl rfl ((by simp; omega)) ?_)
      | ((with_reducible refine atOps ?_); refine go 200 ?_; conv => whnf)
      | ((with_reducible refine atPlan ?_); refine Nx.runP (n := 200) rfl (by repeat (first | exact subB.nil _ | refine subB.cons rfl ?_)) ?_; conv => whnf)
      | ((with_reducible refine atAftL ?_); refine Nx.late ?_)
      | ((fail_if_success (with_reducible refine atRet ?_)); (fail_if_success (with_reducible refine atLoop ?_)); (fail_if_success (with_reducible refine atIn ?_)); (fail_if_success (with_reducible refine atDrawn ?_)); (fail_if_success (with_reducible refine atEnd ?_)); (with_reducible refine atRun ?_); refine go 200 ?_; conv => whnf))
    refine (ih (k + 1) hlt (by omega)).weak ?_ ?_ ?_ ?_
    · exact .cons rfl rfl (.cons rfl rfl (.cons rfl (by rw [hnext]) (.cons rfl rfl (.cons rfl rfl (.cons rfl rfl (.nil _))))))
    · repeat (first | exact subM.nil _ | refine subM.cons rfl rfl rfl ?_)
    · repeat (first | exact subB.nil _ | refine subB.cons rfl ?_)
    · repeat (first | exact subR.nil _ | refine subR.cons rfl rfl ?_)
  clear ih
  have hk' : k = L.length := by omega
  subst hk'
  have hRd := ReadP_ok hG (docW rem ((L.map (·.o)).take L.length)) (Nat.le_trans (hdl _) (by decide))
  have htk : (L.map (·.o)).take L.length = L.map (·.o) := List.take_of_length_le (by simp)
  rw [htk] at hRd ⊢
  rw [read_doc hno' _ _ fun o ho => ⟨(hg o ho).w, (hg o ho).r⟩] at hRd
  repeat' (first
    | ((with_reducible refine atBr ?_); refine BrM.not (by omega) ?_; conv => whnf)
    | ((with_reducible refine atBr ?_); (first | refine BrM.t rfl ?_ | refine BrM.f rfl ?_ | refine BrM.dec (fun _ => ?_) (fun _ => ?_) | refine BrM.mk (fun _ => ?_) (fun _ => ?_)) <;> conv => whnf)
    | ((with_reducible refine atAr ?_); refine Ar.i64 (by omega) (by omega) ?_; conv => whnf)
    | ((with_reducible refine atOps ?_); refine go 200 ?_; conv => whnf)
    | ((with_reducible refine atPlan ?_); refine Nx.runP (n := 200) rfl (by repeat (first | exact subB.nil _ | refine subB.cons rfl ?_)) ?_; conv => whnf)
    | ((with_reducible refine atAftL ?_); refine Nx.late ?_)
    | ((fail_if_success (with_reducible refine atRet ?_)); (fail_if_success (with_reducible refine atLoop ?_)); (fail_if_success (with_reducible refine atIn ?_)); (fail_if_success (with_reducible refine atDrawn ?_)); (fail_if_success (with_reducible refine atEnd ?_)); (with_reducible refine atRun ?_); refine go 200 ?_; conv => whnf))
  refine Nx.call [0] [0,23,24] rfl rfl rfl rfl rfl (hRd) rfl fun v Q hQ => ?_
  obtain ⟨L2, A2, c2, hL2, rfl, rfl⟩ := hQ
  have hl2 : L2.length = L.length := by rw [← List.length_map (f := fun x : LnS => x.o), hL2]; simp
  repeat' (first
    | ((with_reducible refine atBr ?_); refine BrM.not (by omega) ?_; conv => whnf)
    | ((with_reducible refine atBr ?_); (first | refine BrM.t rfl ?_ | refine BrM.f rfl ?_ | refine BrM.dec (fun _ => ?_) (fun _ => ?_) | refine BrM.mk (fun _ => ?_) (fun _ => ?_)) <;> conv => whnf)
    | ((with_reducible refine atAr ?_); refine Ar.i64 (by omega) (by omega) ?_; conv => whnf)
    | ((with_reducible refine atOps ?_); refine go 200 ?_; conv => whnf)
    | ((with_reducible refine atPlan ?_); refine Nx.runP (n := 200) rfl (by repeat (first | exact subB.nil _ | refine subB.cons rfl ?_)) ?_; conv => whnf)
    | ((with_reducible refine atAftL ?_); refine Nx.late ?_)
    | ((fail_if_success (with_reducible refine atRet ?_)); (fail_if_success (with_reducible refine atLoop ?_)); (fail_if_success (with_reducible refine atIn ?_)); (fail_if_success (with_reducible refine atDrawn ?_)); (fail_if_success (with_reducible refine atEnd ?_)); (with_reducible refine atRun ?_); refine go 200 ?_; conv => whnf))
  refine Nx.loop (X := Nat) (fun k => k ≤ L.length) (fun k => L.length - k) (fun k => [(6, sl B L.length d), (12, sl A2 L2.length c2), (84, iv L.length), (85, iv k)]) (fun _ => []) []
    (fun _ => [(0, roAll m), (3, ownS 37 B L.length d 10 (L.flatMap LnS.enc)), (4, rdAll L), (23, ownS 37 A2 L2.length c2 10 (L2.flatMap LnS.enc)), (24, rdAll L2)]) 0 (Nat.zero_le _) ?_ ?_ ?_ ?_ ?_
  · repeat (first | exact subE.nil _ | refine subE.cons rfl rfl ?_ | refine subE.cons' rfl (fun _ => rfl) ?_)
  · repeat (first | exact subM.nil _ | refine subM.cons rfl rfl rfl ?_)
  · repeat (first | exact subB.nil _ | refine subB.cons rfl ?_)
  · repeat (first | exact subR.nil _ | refine subR.cons rfl rfl ?_)
  intro k hk ih
  by_cases hlt : k < L.length
  · have hlt2 : k < L2.length := by omega
    have s1 := rdAll_sees1 (List.getElem_mem hlt)
    have s2 := rdAll_sees2 (List.getElem_mem hlt)
    have s3 := rdAll_sees1 (List.getElem_mem hlt2)
    have s4 := rdAll_sees2 (List.getElem_mem hlt2)
    have hgk := hgx k hlt
    have hbk := hgk.back
    have he : L2[k].o = plainA L[k].o := by
      have h1 : (L2.map (·.o))[k]? = ((L.map (·.o)).map plainA)[k]? := by rw [hL2]
      simp only [List.getElem?_map, List.getElem?_eq_getElem hlt, List.getElem?_eq_getElem hlt2, Option.map_some] at h1
      exact Option.some.inj h1
    rw [← he] at hbk
    have hPr := Print_ok hG (rdAll L) (rdAll L) L[k].o hgk.w L[k].A L[k].B L[k].c L[k].d s1 s2 (Nat.le_trans hgk.a (by decide)) (Nat.le_trans hgk.e (by decide))
    have hPr2 := Print_ok hG (rdAll L2) (rdAll L2) L2[k].o hbk.1 L2[k].A L2[k].B L2[k].c L2[k].d s3 s4 (Nat.le_trans hbk.2.2.1 (by decide)) (Nat.le_trans hbk.2.2.2 (by decide))
    rw [hgk.print] at hPr
    rw [hbk.2.1] at hPr2
    refine Nx.also 4 14 (rdAll L) rfl (fun _ _ h => h) ?_
    refine Nx.also 24 34 (rdAll L2) rfl (fun _ _ h => h) ?_
    repeat' (first
      | ((with_reducible refine atBr ?_); refine BrM.yes (by omega) ?_; conv => whnf)
      | ((with_reducible refine atBr ?_); (first | refine BrM.t rfl ?_ | refine BrM.f rfl ?_ | refine BrM.dec (fun _ => ?_) (fun _ => ?_) | refine BrM.mk (fun _ => ?_) (fun _ => ?_)) <;> conv => whnf)
      | ((with_reducible refine atAr ?_); refine Ar.i64 (by omega) (by omega) ?_; conv => whnf)
      | ((with_reducible refine atIdx ?_); refine Nx.idx 3 rfl rfl rfl Tryz.underlying60 rfl rfl rfl enc_len (ownS_sees 37 B L.length d 10 (L.flatMap LnS.enc)) rfl rfl (by omega) fun _ _ _ => ?_)
      | ((with_reducible refine atLoad ?_); first | (refine Nx.load1 3 rfl rfl rfl rfl (SeesAt.sub (by assumption) _ rfl) rfl ?_) | (refine Nx.load1 3 rfl rfl rfl rfl (by assumption) rfl ?_) | (refine Nx.load 3 rfl rfl rfl rfl (by assumption) rfl rfl ?_))
      | ((with_reducible refine atOps ?_); refine go 200 ?_; conv => whnf)
      | ((with_reducible refine atPlan ?_); refine Nx.runP (n := 200) rfl (by repeat (first | exact subB.nil _ | refine subB.cons rfl ?_)) ?_; conv => whnf)
      | ((with_reducible refine atAftL ?_); refine Nx.late ?_)
      | ((fail_if_success (with_reducible refine atRet ?_)); (fail_if_success (with_reducible refine atLoop ?_)); (fail_if_success (with_reducible refine atIn ?_)); (fail_if_success (with_reducible refine atDrawn ?_)); (fail_if_success (with_reducible refine atEnd ?_)); (with_reducible refine atRun ?_); refine go 200 ?_; conv => whnf))
    refine Nx.call [0,4,14] [0,4,14] rfl rfl rfl rfl rfl (hPr) rfl fun v Q hQ => ?_
    obtain ⟨rfl, rfl⟩ := hQ
    repeat' (first
      | ((with_reducible refine atBr ?_); (first | refine BrM.t rfl ?_ | refine BrM.f rfl ?_ | refine BrM.dec (fun _ => ?_) (fun _ => ?_) | refine BrM.mk (fun _ => ?_) (fun _ => ?_)) <;> conv => whnf)
      | ((with_reducible refine atAr ?_); refine Ar.i64 (by omega) (by omega) ?_; conv => whnf)
      | ((with_reducible refine atIdx ?_); refine Nx.idx 23 rfl rfl rfl Tryz.underlying60 rfl rfl rfl enc_len (ownS_sees 37 A2 L2.length c2 10 (L2.flatMap LnS.enc)) rfl rfl (by omega) fun _ _ _ => ?_)
      | ((with_reducible refine atLoad ?_); first | (refine Nx.load1 23 rfl rfl rfl rfl (SeesAt.sub (by assumption) _ rfl) rfl ?_) | (refine Nx.load1 23 rfl rfl rfl rfl (by assumption) rfl ?_) | (refine Nx.load 23 rfl rfl rfl rfl (by assumption) rfl rfl ?_))
      | ((with_reducible refine atOps ?_); refine go 200 ?_; conv => whnf)
      | ((with_reducible refine atPlan ?_); refine Nx.runP (n := 200) rfl (by repeat (first | exact subB.nil _ | refine subB.cons rfl ?_)) ?_; conv => whnf)
      | ((with_reducible refine atAftL ?_); refine Nx.late ?_)
      | ((fail_if_success (with_reducible refine atRet ?_)); (fail_if_success (with_reducible refine atLoop ?_)); (fail_if_success (with_reducible refine atIn ?_)); (fail_if_success (with_reducible refine atDrawn ?_)); (fail_if_success (with_reducible refine atEnd ?_)); (with_reducible refine atRun ?_); refine go 200 ?_; conv => whnf))
    refine Nx.call [0,24,34] [0,24,34] rfl rfl rfl rfl rfl (hPr2) rfl fun v Q hQ => ?_
    obtain ⟨rfl, rfl⟩ := hQ
    repeat' (first
      | ((with_reducible refine atBr ?_); refine BrM.not (fun h => h rfl) ?_; conv => whnf)
      | ((with_reducible refine atAr ?_); refine Ar.to (k := .i64) (((k+1:Nat):Int)) (by omega) ⟨by omega, by omega⟩ ?_; conv => whnf)
      | ((with_reducible refine atBr ?_); (first | refine BrM.t rfl ?_ | refine BrM.f rfl ?_ | refine BrM.dec (fun _ => ?_) (fun _ => ?_) | refine BrM.mk (fun _ => ?_) (fun _ => ?_)) <;> conv => whnf)
      | ((with_reducible refine atAr ?_); refine Ar.i64 (by omega) (by omega) ?_; conv => whnf)
      | ((with_reducible refine atIn ?_); refine Nx.weak ((ih (k + 1) hlt (by omega))) ?_ ?_ ?_ ?_ <;> (first | exact subM.nil _ | exact subB.nil _ | exact subR.nil _ | ((repeat (first | exact subE.nil _ | refine subE.cons rfl rfl ?_ | refine subE.cons' rfl (fun _ => rfl) ?_ | (refine subE.cons rfl ?_ ?_; · (simp; done)))); done) | ((repeat (first | exact subM.nil _ | refine subM.cons rfl rfl rfl ?_)); done) | ((repeat (first | exact subB.nil _ | refine subB.cons rfl ?_)); done) | ((repeat (first | exact subR.nil _ | refine subR.cons rfl rfl ?_)); done) | omega | (dsimp only; omega) | (skip) | skip))
      | ((with_reducible refine atOps ?_); refine go 200 ?_; conv => whnf)
      | ((with_reducible refine atPlan ?_); refine Nx.runP (n := 200) rfl (by repeat (first | exact subB.nil _ | refine subB.cons rfl ?_)) ?_; conv => whnf)
      | ((with_reducible refine atAftL ?_); refine Nx.late ?_)
      | ((fail_if_success (with_reducible refine atRet ?_)); (fail_if_success (with_reducible refine atLoop ?_)); (fail_if_success (with_reducible refine atIn ?_)); (fail_if_success (with_reducible refine atDrawn ?_)); (fail_if_success (with_reducible refine atEnd ?_)); (with_reducible refine atRun ?_); refine go 200 ?_; conv => whnf))
  clear ih
  repeat' (first
    | ((with_reducible refine atBr ?_); refine BrM.not (by omega) ?_; conv => whnf)
    | ((with_reducible refine atBr ?_); (first | refine BrM.t rfl ?_ | refine BrM.f rfl ?_ | refine BrM.dec (fun _ => ?_) (fun _ => ?_) | refine BrM.mk (fun _ => ?_) (fun _ => ?_)) <;> conv => whnf)
    | ((with_reducible refine atAr ?_); refine Ar.i64 (by omega) (by omega) ?_; conv => whnf)
    | ((with_reducible refine (atCall 10) ?_); refine Nx.call [0] [0] rfl rfl rfl rfl rfl ((awake_ok hG)) rfl fun v Q hQ => ?_; obtain ⟨rfl, rfl⟩ := hQ)
    | ((with_reducible refine atRet ?_); refine Nx.ret [0] Tryz.func8 rfl rfl ?_; (exact ⟨rfl, rfl⟩))
    | ((with_reducible refine atOps ?_); refine go 200 ?_; conv => whnf)
    | ((with_reducible refine atPlan ?_); refine Nx.runP (n := 200) rfl (by repeat (first | exact subB.nil _ | refine subB.cons rfl ?_)) ?_; conv => whnf)
    | ((with_reducible refine atAftL ?_); refine Nx.late ?_)
    | ((fail_if_success (with_reducible refine atRet ?_)); (fail_if_success (with_reducible refine atLoop ?_)); (fail_if_success (with_reducible refine atIn ?_)); (fail_if_success (with_reducible refine atDrawn ?_)); (fail_if_success (with_reducible refine atEnd ?_)); (with_reducible refine atRun ?_); refine go 200 ?_; conv => whnf))
end Go.Proofs.YtkfnbpbhcnekiaaGreatDoor

/- ScriptWhole: the statement's tied card holds: for all bytes and every remark the law returns true, and the bytes read as they did, where the listed package-level variables hold what the program's text lays. -/
namespace Go.Proofs.YtkfnbpbhcnekiaaGreatDoor
open Go.ChangeShapes Go.WideShapes Go.ChangeAt Go.RowKit

set_option maxRecDepth 100000 in
theorem scriptWhole_lifted (os : Os) (started : os.Started) (H : Type) (enc : TypeId × Value → H) :
    ReturnsInHanded {} Tryz.checked os 8 .any (fun w args => (Rows.scriptWholeSpec.pre enc Tryz.prog Tryz.f8 [] false w args ∧ laidMetH Tryz.prog Rows.scriptWholeRow.laid w) ∧ sizedMet enc Tryz.prog Tryz.f8 (OpenSpec.ofChange Rows.scriptWholeSpec) false w args)
      (Rows.scriptWholeSpec.post enc Tryz.prog Tryz.f8 false true false false) := by
  refine law_laid (C := Tryz.checked) (tb := 4) laid0 rfl rfl Tryz.underlying4 ?_ (by kernel_rfl) own0 started (by kernel_rfl) Tryz.func8
    (ChangeSpec.witness_shaped (enc := enc) (C := Tryz.checked) (os := os) (X := fun w _ => laidMetH Tryz.prog Rows.scriptWholeRow.laid w) false (World.laidAll Tryz.prog os Rows.scriptWholeRow.laid) #[.slice none 0 0, .string ⟨#[]⟩] 8 (World.laidAll_os _ _ _)
      (World.shaped_of_ZipB (by kernel_rfl) (by kernel_rfl)) (by kernel_rfl) (by kernel_rfl) (by kernel_rfl)
      (by rw [MakeChecks.laidMetH_plain _ _ _ (by kernel_rfl)]; exact laidMet_laidAll _ (by kernel_rfl) (by kernel_rfl))) ?_
  · intro ds hl
    match ds, hl with
    | [d1, d2], _ => exact ⟨rfl, rfl, rfl⟩
  intro W base args ds ps hval hA _ hsh hL
  rw [MakeChecks.laidMetH_plain _ _ _ (by kernel_rfl)] at hL
  rw [Tryz.params8] at hval hA
  rw [chk0] at hval hA hsh hL
  have hG : Glo (hw W) := glo_of hsh fun x hx => Lib.laidMet.reads hL (by
    simp only [laidL, List.mem_cons, List.not_mem_nil, or_false] at hx
    rcases hx with rfl | rfl | rfl | rfl | rfl | rfl <;> simp [Rows.scriptWholeRow])
  obtain ⟨v0, r0, d0, e_0, p0, q0, rfl, rfl, rfl, h0, hA⟩ := trodAll_cons hA
  obtain ⟨v1, r1, d1, e_1, p1, q1, rfl, rfl, rfl, h1, hA⟩ := trodAll_cons hA
  obtain ⟨rfl, rfl, rfl⟩ := trodAll_nil hA
  obtain ⟨A0, l0, c0, rfl, hr0, hc0⟩ := open_bytes (hval 0 66 v0 rfl rfl) h0
  obtain ⟨s1, rfl⟩ := open_str (hval 1 9 v1 rfl rfl) h1
  exact (Whole_ok hG A0 c0 l0 hr0 hc0 s1).law fun v Q h => h.1

theorem scriptWhole_holds : Rows.ScriptWholeSaid :=
  OpenClaim.holds_of_wide 8 Tryz.f8 rfl rfl rfl rfl rfl rfl rfl ⟨rfl, rfl, rfl, rfl, rfl⟩ rfl rfl rfl rfl rfl (by kernel_rfl) Tryz.func8 (by kernel_rfl)
    (of_decide_eq_true (by kernel_rfl)) (by unfold Func.isWrapper; first | (rw [if_pos (by decide +kernel)]; kernel_rfl) | (rw [if_neg (by decide +kernel)]; exact ⟨rfl, rfl⟩))
    (fun os started H enc _ => scriptWhole_lifted os started H enc)

theorem scriptWhole_card : Rows.ScriptWholeCardSaid :=
  Claim7.holds_tied_plain_at .later [] [.data, .data, .data, .data, .sentinel, .sentinel, .data, .data, .data, .pinned] true Rows.scriptWholeCard.stood.harness true
    scriptWhole_holds (fun _ h => by cases h) (by kernel_rfl) (fun _ h => by cases h) scriptWhole_row_tie rfl ⟨rfl, rfl⟩ (by kernel_rfl) rfl
    (fun f fn hf hfn => by
      obtain rfl : f = 8 := Option.some.inj ((show Tryz.prog.funcNamed "noria/norialaw25.ScriptWhole" = some 8 by kernel_rfl).symm.trans hf) |>.symm
      obtain rfl : fn = Tryz.f8 := (Option.some.inj (Tryz.func8.symm.trans hfn)).symm
      exact ⟨by kernel_rfl, fun j t ht => by
        rw [Tryz.params8] at ht
        have hm : t ∈ [66, 9] := by simpa using Array.mem_of_getElem? ht
        have hall : ([66, 9].all fun u => !Tryz.prog.wantsStandIn u) = true := by kernel_rfl
        exact (show Tryz.prog.wantsStandIn t = false by simpa using List.all_eq_true.1 hall t hm)⟩)
    (by kernel_rfl)
end Go.Proofs.YtkfnbpbhcnekiaaGreatDoor
