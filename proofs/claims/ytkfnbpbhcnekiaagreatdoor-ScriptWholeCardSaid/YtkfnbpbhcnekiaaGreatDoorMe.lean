/- What the rows give: the variables as they are laid; arguments opened. -/
import Derived.Test.YtkfnbpbhcnekiaaGreatDoorMd
import Derived.Test.YtkfnbpbhcnekiaaGreatDoorRows
import Derived.MakeChecks
import Derived.ChangeMaps5
set_option linter.unusedSimpArgs false
set_option linter.unusedVariables false
/- Are two lines one? -/
namespace Go.Proofs.YtkfnbpbhcnekiaaGreatDoor
open Go.RowKit Go.Lib
attribute [local irreducible] Nx Ar BrM
set_option maxRecDepth 20000
set_option maxHeartbeats 2000000

theorem ints_flat (l : List Int) : (l.flatMap fun n => [Value.int .i64 n]) = intsV l := by
  induction l with
  | nil => rfl
  | cons x l ih => simp [ih]
theorem int_len (n : Int) : ([Value.int .i64 n] : List Value).length = 1 := rfl
structure Ln.head (o p : Ln) : Prop where
  de : o.deed = p.deed
  wh : o.who = p.who
  ri : o.ring = p.ring
  nn : o.n = p.n
  tm : o.at_ = p.at_
  k : o.way.kind = p.way.kind
  t : o.way.tries = p.way.tries
  u : o.way.time = p.way.time
  a : o.after.length = p.after.length
  e : o.evs.length = p.evs.length
theorem Ln.eq_of {o p : Ln} (h : o.head p) (ha : o.after = p.after) (he : o.evs = p.evs) : o = p := by
  obtain ⟨a1, a2, a3, a4, a5, ⟨a6, a7, a8⟩, a9, a10⟩ := o
  obtain ⟨b1, b2, b3, b4, b5, ⟨b6, b7, b8⟩, b9, b10⟩ := p
  obtain ⟨h1, h2, h3, h4, h5, h6, h7, h8, _, _⟩ := h
  simp only at h1 h2 h3 h4 h5 h6 h7 h8 ha he
  subst h1 h2 h3 h4 h5 h6 h7 h8 ha he
  rfl
theorem part1 {t : TypeId} {cs : Array Value} {o : Nat} {v : Value} {w : World} (ht : aggOf Tryz.prog t = .one) (hv : cs[o]? = some v) : (part t cs o).run Tryz.prog w = .ok v w := by
  have h := aggOf_one ht w
  simp [part, h, Array.getD_eq_getD_getElem?, hv]
theorem eqInt (d : Nat) (t : TypeId) (w : World) (a b : Int) (ht : Tryz.prog.underlying t = some (.int .i64)) : (Op.equalIn (d + 1) t (.int .i64 a) (.int .i64 b)).run Tryz.prog w = .ok (a == b) w := run_equalIn_int w d t .i64 .i64 a b ht
theorem eq72d (d : Nat) (x y : Ev) (w : World) : (Op.equalIn (d + 2) 72 (.agg (evC x).toArray) (.agg (evC y).toArray)).run Tryz.prog w = .ok (decide (x = y)) w := by
  rw [run_equalIn_agg w (d + 1) 72 _ _ rfl (by kernel_rfl)]
  have hf : (Tryz.prog.fieldsOf 72).toList = [{ name := "Key", type := 2, offset := 0, embedded := false, tag := "", pkgPath := "", byteOffset := 0 }, { name := "Val", type := 2, offset := 1, embedded := false, tag := "", pkgPath := "", byteOffset := 8 }] := rfl
  rw [hf]
  have p : ∀ (s : Ev) (j : Nat) (v : Value), (evC s)[j]? = some v → (part 2 (evC s).toArray j).run Tryz.prog w = .ok v w := fun s j v hv => part1 rfl (by simpa using hv)
  simp only [Op.eqFields, Sem.run_bind, Sem.run_ite, p x 0 _ rfl, p y 0 _ rfl, p x 1 _ rfl, p y 1 _ rfl, Result.andThen_ok, eqInt d 2 w _ _ Tryz.underlying2, Sem.run_pure]
  obtain ⟨a, b⟩ := x
  obtain ⟨c, e⟩ := y
  by_cases h1 : a = c <;> by_cases h2 : b = e <;> simp [h1, h2]
theorem eq72 (x y : Ev) (w : World) : (Op.equalIn 10000 72 (.agg (evC x).toArray) (.agg (evC y).toArray)).run Tryz.prog w = .ok (decide (x = y)) w := eq72d 9998 x y w
theorem same_ok (S1 S2 S3 S4 : SP) (o p : Ln) (A B A' B' : Option Addr) (c d c' d' : Nat) (h1 : Sees S1 A o.after.length 1 (intsV o.after)) (h2 : Sees S2 B o.evs.length 2 (evsV o.evs)) (h3 : Sees S3 A' p.after.length 1 (intsV p.after)) (h4 : Sees S4 B' p.evs.length 2 (evsV p.evs))
    (l1 : o.after.length ≤ 1000000) (l2 : o.evs.length ≤ 1000000) :
    FnOk Tryz.prog 17 [lnV o A c B d, lnV p A' c' B' d'] [S1, S2, S3, S4] (fun v Q => v = .bool (decide (o = p)) ∧ Q = [S1, S2, S3, S4]) := by
  rw [← ints_flat] at h1 h3
  by_cases hh : o.head p
  · obtain ⟨g1, g2, g3, g4, g5, g6, g7, g8, g9, g10⟩ := hh
    have hh : o.head p := ⟨g1, g2, g3, g4, g5, g6, g7, g8, g9, g10⟩
    refine FnOk.start Tryz.func17 rfl rfl rfl rfl fun F os tape output => ?_
    refine go 200 ?_
    conv => whnf
    repeat' (first
      | ((with_reducible refine atBr ?_); refine BrM.not (by omega) ?_; conv => whnf)
      | ((with_reducible refine atBr ?_); (first | refine BrM.t rfl ?_ | refine BrM.f rfl ?_ | refine BrM.dec (fun _ => ?_) (fun _ => ?_) | refine BrM.mk (fun _ => ?_) (fun _ => ?_)) <;> conv => whnf)
      | ((with_reducible refine atAr ?_); refine Ar.i64 (by omega) (by omega) ?_; conv => whnf)
      | ((with_reducible refine atOps ?_); refine go 200 ?_; conv => whnf)
      | ((with_reducible refine atPlan ?_); refine Nx.runP (n := 200) rfl (by repeat (first | exact subB.nil _ | refine subB.cons rfl ?_)) ?_; conv => whnf)
      | ((with_reducible refine atAftL ?_); refine Nx.late ?_)
      | ((fail_if_success (with_reducible refine atRet ?_)); (fail_if_success (with_reducible refine atLoop ?_)); (fail_if_success (with_reducible refine atIn ?_)); (fail_if_success (with_reducible refine atDrawn ?_)); (fail_if_success (with_reducible refine atEnd ?_)); (with_reducible refine atRun ?_); refine go 200 ?_; conv => whnf))
    refine Nx.loop (X := Nat) (fun k => k ≤ o.after.length ∧ ∀ j (h : j < k) (h1 : j < o.after.length) (h2 : j < p.after.length), o.after[j] = p.after[j]) (fun k => o.after.length - k)
      (fun k => [(2, .c (.loc 2 0)), (3, .c (.loc 3 0)), (86, sl A o.after.length c), (87, iv o.after.length), (88, iv k)]) (fun _ => [(2, 37, (lnC o A c B d).map .v), (3, 44, (lnC p A' c' B' d').map .v)]) [] (fun _ => [(0, S1), (1, S2), (2, S3), (3, S4)]) 0 ⟨Nat.zero_le _, fun j h => absurd h (Nat.not_lt_zero _)⟩ ?_ ?_ ?_ ?_ ?_
    · repeat (first | exact subE.nil _ | refine subE.cons rfl rfl ?_ | refine subE.cons' rfl (fun _ => rfl) ?_)
    · repeat (first | exact subM.nil _ | refine subM.cons rfl rfl rfl ?_)
    · repeat (first | exact subB.nil _ | refine subB.cons rfl ?_)
    · repeat (first | exact subR.nil _ | refine subR.cons rfl rfl ?_)
    intro k ⟨hk, hall⟩ ih
    by_cases hlt : k < o.after.length
    · have hlt' : k < p.after.length := by omega
      by_cases he : o.after[k] = p.after[k]
      · have nx : ∀ j (h : j < k + 1) (h1 : j < o.after.length) (h2 : j < p.after.length), o.after[j] = p.after[j] := fun j h h1 h2 => by
          rcases Nat.lt_succ_iff_lt_or_eq.1 h with h | h
          · exact hall j h h1 h2
          · subst h; exact he
        repeat' (first
          | ((with_reducible refine atBr ?_); refine BrM.yes (by omega) ?_; conv => whnf)
          | ((with_reducible refine atBr ?_); refine BrM.not (by omega) ?_; conv => whnf)
          | ((with_reducible refine atAr ?_); refine Ar.to (k := .i64) (((k+1:Nat):Int)) (by omega) ⟨by omega, by omega⟩ ?_; conv => whnf)
          | ((with_reducible refine atBr ?_); (first | refine BrM.t rfl ?_ | refine BrM.f rfl ?_ | refine BrM.dec (fun _ => ?_) (fun _ => ?_) | refine BrM.mk (fun _ => ?_) (fun _ => ?_)) <;> conv => whnf)
          | ((with_reducible refine atAr ?_); refine Ar.i64 (by omega) (by omega) ?_; conv => whnf)
          | ((with_reducible refine atDrawn ?_); refine Nx.bind (l := 2) (fun _ => ?_) rfl; refine Nx.bind (l := 3) (fun _ => ?_) rfl; refine Nx.drawn0 [0,2] [.pure 0, .held 1, .pure 2, .pure 3, .held 4, .pure 5, .held 6, .pure 7, .pure 8, .held 9, .pure 10] rfl (by kernel_rfl) rfl (by kernel_rfl) rfl (by repeat (first | exact subB.nil _ | refine subB.cons rfl ?_)) rfl ?_)
          | ((with_reducible refine atHoIdx ?_); refine Nx.hoIdx 0 rfl rfl rfl Tryz.underlying25 rfl rfl rfl int_len h1 rfl rfl (by omega) fun _ _ _ => ?_)
          | ((with_reducible refine atHoIdx ?_); refine Nx.hoIdx 2 rfl rfl rfl Tryz.underlying25 rfl rfl rfl int_len h3 rfl rfl (by omega) fun _ _ _ => ?_)
          | ((with_reducible refine atHoLoad ?_); first | (refine Nx.hoLoad1 rfl rfl rfl rfl List.mem_cons_self (SeesAt.sub (by assumption) _ rfl) rfl ?_) | (refine Nx.hoLoad1 rfl rfl rfl rfl List.mem_cons_self (by assumption) rfl ?_) | (refine Nx.hoLoad rfl rfl rfl rfl List.mem_cons_self (by assumption) rfl rfl ?_) | (refine Nx.hoLoad1 rfl rfl rfl rfl (List.mem_cons_of_mem _ List.mem_cons_self) (SeesAt.sub (by assumption) _ rfl) rfl ?_) | (refine Nx.hoLoad1 rfl rfl rfl rfl (List.mem_cons_of_mem _ List.mem_cons_self) (by assumption) rfl ?_) | (refine Nx.hoLoad rfl rfl rfl rfl (List.mem_cons_of_mem _ List.mem_cons_self) (by assumption) rfl rfl ?_) | (refine Nx.hoLoad1 rfl rfl rfl rfl (List.mem_cons_of_mem _ (List.mem_cons_of_mem _ List.mem_cons_self)) (SeesAt.sub (by assumption) _ rfl) rfl ?_) | (refine Nx.hoLoad1 rfl rfl rfl rfl (List.mem_cons_of_mem _ (List.mem_cons_of_mem _ List.mem_cons_self)) (by assumption) rfl ?_) | (refine Nx.hoLoad rfl rfl rfl rfl (List.mem_cons_of_mem _ (List.mem_cons_of_mem _ List.mem_cons_self)) (by assumption) rfl rfl ?_) | (refine Nx.hoLoad1 rfl rfl rfl rfl (List.mem_cons_of_mem _ (List.mem_cons_of_mem _ (List.mem_cons_of_mem _ List.mem_cons_self))) (SeesAt.sub (by assumption) _ rfl) rfl ?_) | (refine Nx.hoLoad1 rfl rfl rfl rfl (List.mem_cons_of_mem _ (List.mem_cons_of_mem _ (List.mem_cons_of_mem _ List.mem_cons_self))) (by assumption) rfl ?_) | (refine Nx.hoLoad rfl rfl rfl rfl (List.mem_cons_of_mem _ (List.mem_cons_of_mem _ (List.mem_cons_of_mem _ List.mem_cons_self))) (by assumption) rfl rfl ?_))
          | ((with_reducible refine atIn ?_); refine Nx.weak ((ih (k + 1) ⟨hlt, nx⟩ (by omega))) ?_ ?_ ?_ ?_ <;> (first | exact subM.nil _ | exact subB.nil _ | exact subR.nil _ | ((repeat (first | exact subE.nil _ | refine subE.cons rfl rfl ?_ | refine subE.cons' rfl (fun _ => rfl) ?_ | (refine subE.cons rfl ?_ ?_; · (simp; done)))); done) | ((repeat (first | exact subM.nil _ | refine subM.cons rfl rfl rfl ?_)); done) | ((repeat (first | exact subB.nil _ | refine subB.cons rfl ?_)); done) | ((repeat (first | exact subR.nil _ | refine subR.cons rfl rfl ?_)); done) | omega | (dsimp only; omega) | (skip) | skip))
          | ((with_reducible refine atOps ?_); refine go 200 ?_; conv => whnf)
          | ((with_reducible refine atPlan ?_); refine Nx.runP (n := 200) rfl (by repeat (first | exact subB.nil _ | refine subB.cons rfl ?_)) ?_; conv => whnf)
          | ((with_reducible refine atAftL ?_); refine Nx.late ?_)
          | ((fail_if_success (with_reducible refine atRet ?_)); (fail_if_success (with_reducible refine atLoop ?_)); (fail_if_success (with_reducible refine atIn ?_)); (fail_if_success (with_reducible refine atDrawn ?_)); (fail_if_success (with_reducible refine atEnd ?_)); (with_reducible refine atRun ?_); refine go 200 ?_; conv => whnf))
      · have hne : o ≠ p := fun e => by
          apply he
          simp only [e]
        repeat' (first
          | ((with_reducible refine atBr ?_); refine BrM.yes (by omega) ?_; conv => whnf)
          | ((with_reducible refine atBr ?_); refine BrM.yes (he) ?_; conv => whnf)
          | ((with_reducible refine atBr ?_); (first | refine BrM.t rfl ?_ | refine BrM.f rfl ?_ | refine BrM.dec (fun _ => ?_) (fun _ => ?_) | refine BrM.mk (fun _ => ?_) (fun _ => ?_)) <;> conv => whnf)
          | ((with_reducible refine atAr ?_); refine Ar.i64 (by omega) (by omega) ?_; conv => whnf)
          | ((with_reducible refine atDrawn ?_); refine Nx.bind (l := 2) (fun _ => ?_) rfl; refine Nx.bind (l := 3) (fun _ => ?_) rfl; refine Nx.drawn0 [0,2] [.pure 0, .held 1, .pure 2, .pure 3, .held 4, .pure 5, .held 6, .pure 7, .pure 8, .held 9, .pure 10] rfl (by kernel_rfl) rfl (by kernel_rfl) rfl (by repeat (first | exact subB.nil _ | refine subB.cons rfl ?_)) rfl ?_)
          | ((with_reducible refine atHoIdx ?_); refine Nx.hoIdx 0 rfl rfl rfl Tryz.underlying25 rfl rfl rfl int_len h1 rfl rfl (by omega) fun _ _ _ => ?_)
          | ((with_reducible refine atHoIdx ?_); refine Nx.hoIdx 2 rfl rfl rfl Tryz.underlying25 rfl rfl rfl int_len h3 rfl rfl (by omega) fun _ _ _ => ?_)
          | ((with_reducible refine atHoLoad ?_); first | (refine Nx.hoLoad1 rfl rfl rfl rfl List.mem_cons_self (SeesAt.sub (by assumption) _ rfl) rfl ?_) | (refine Nx.hoLoad1 rfl rfl rfl rfl List.mem_cons_self (by assumption) rfl ?_) | (refine Nx.hoLoad rfl rfl rfl rfl List.mem_cons_self (by assumption) rfl rfl ?_) | (refine Nx.hoLoad1 rfl rfl rfl rfl (List.mem_cons_of_mem _ List.mem_cons_self) (SeesAt.sub (by assumption) _ rfl) rfl ?_) | (refine Nx.hoLoad1 rfl rfl rfl rfl (List.mem_cons_of_mem _ List.mem_cons_self) (by assumption) rfl ?_) | (refine Nx.hoLoad rfl rfl rfl rfl (List.mem_cons_of_mem _ List.mem_cons_self) (by assumption) rfl rfl ?_) | (refine Nx.hoLoad1 rfl rfl rfl rfl (List.mem_cons_of_mem _ (List.mem_cons_of_mem _ List.mem_cons_self)) (SeesAt.sub (by assumption) _ rfl) rfl ?_) | (refine Nx.hoLoad1 rfl rfl rfl rfl (List.mem_cons_of_mem _ (List.mem_cons_of_mem _ List.mem_cons_self)) (by assumption) rfl ?_) | (refine Nx.hoLoad rfl rfl rfl rfl (List.mem_cons_of_mem _ (List.mem_cons_of_mem _ List.mem_cons_self)) (by assumption) rfl rfl ?_) | (refine Nx.hoLoad1 rfl rfl rfl rfl (List.mem_cons_of_mem _ (List.mem_cons_of_mem _ (List.mem_cons_of_mem _ List.mem_cons_self))) (SeesAt.sub (by assumption) _ rfl) rfl ?_) | (refine Nx.hoLoad1 rfl rfl rfl rfl (List.mem_cons_of_mem _ (List.mem_cons_of_mem _ (List.mem_cons_of_mem _ List.mem_cons_self))) (by assumption) rfl ?_) | (refine Nx.hoLoad rfl rfl rfl rfl (List.mem_cons_of_mem _ (List.mem_cons_of_mem _ (List.mem_cons_of_mem _ List.mem_cons_self))) (by assumption) rfl rfl ?_))
          | ((with_reducible refine atRet ?_); refine Nx.ret [0,1,2,3] Tryz.func17 rfl rfl ?_; (exact ⟨by rw [decide_eq_false hne]; rfl, rfl⟩))
          | ((with_reducible refine atOps ?_); refine go 200 ?_; conv => whnf)
          | ((with_reducible refine atPlan ?_); refine Nx.runP (n := 200) rfl (by repeat (first | exact subB.nil _ | refine subB.cons rfl ?_)) ?_; conv => whnf)
          | ((with_reducible refine atAftL ?_); refine Nx.late ?_)
          | ((fail_if_success (with_reducible refine atRet ?_)); (fail_if_success (with_reducible refine atLoop ?_)); (fail_if_success (with_reducible refine atIn ?_)); (fail_if_success (with_reducible refine atDrawn ?_)); (fail_if_success (with_reducible refine atEnd ?_)); (with_reducible refine atRun ?_); refine go 200 ?_; conv => whnf))
    · have hafter : o.after = p.after := List.ext_getElem g9 fun j h1 h2 => hall j (by omega) h1 h2
      clear ih
      repeat' (first
        | ((with_reducible refine atBr ?_); refine BrM.not (by omega) ?_; conv => whnf)
        | ((with_reducible refine atBr ?_); (first | refine BrM.t rfl ?_ | refine BrM.f rfl ?_ | refine BrM.dec (fun _ => ?_) (fun _ => ?_) | refine BrM.mk (fun _ => ?_) (fun _ => ?_)) <;> conv => whnf)
        | ((with_reducible refine atAr ?_); refine Ar.i64 (by omega) (by omega) ?_; conv => whnf)
        | ((with_reducible refine atOps ?_); refine go 200 ?_; conv => whnf)
        | ((with_reducible refine atPlan ?_); refine Nx.runP (n := 200) rfl (by repeat (first | exact subB.nil _ | refine subB.cons rfl ?_)) ?_; conv => whnf)
        | ((with_reducible refine atAftL ?_); refine Nx.late ?_)
        | ((fail_if_success (with_reducible refine atRet ?_)); (fail_if_success (with_reducible refine atLoop ?_)); (fail_if_success (with_reducible refine atIn ?_)); (fail_if_success (with_reducible refine atDrawn ?_)); (fail_if_success (with_reducible refine atEnd ?_)); (with_reducible refine atRun ?_); refine go 200 ?_; conv => whnf))
      refine Nx.loop (X := Nat) (fun k => k ≤ o.evs.length ∧ ∀ j (h : j < k) (h1 : j < o.evs.length) (h2 : j < p.evs.length), o.evs[j] = p.evs[j]) (fun k => o.evs.length - k)
        (fun k => [(2, .c (.loc 2 0)), (3, .c (.loc 3 0)), (104, sl B o.evs.length d), (105, iv o.evs.length), (106, iv k)]) (fun _ => [(2, 37, (lnC o A c B d).map .v), (3, 44, (lnC p A' c' B' d').map .v)]) [] (fun _ => [(0, S1), (1, S2), (2, S3), (3, S4)]) 0 ⟨Nat.zero_le _, fun j h => absurd h (Nat.not_lt_zero _)⟩ ?_ ?_ ?_ ?_ ?_
      · repeat (first | exact subE.nil _ | refine subE.cons rfl rfl ?_ | refine subE.cons' rfl (fun _ => rfl) ?_)
      · repeat (first | exact subM.nil _ | refine subM.cons rfl rfl rfl ?_)
      · repeat (first | exact subB.nil _ | refine subB.cons rfl ?_)
      · repeat (first | exact subR.nil _ | refine subR.cons rfl rfl ?_)
      clear hlt hall hk k
      intro k ⟨hk, hall⟩ ih
      by_cases hlt : k < o.evs.length
      · have hlt' : k < p.evs.length := by omega
        repeat' (first
          | ((with_reducible refine atBr ?_); refine BrM.yes (by omega) ?_; conv => whnf)
          | ((with_reducible refine atBr ?_); (first | refine BrM.t rfl ?_ | refine BrM.f rfl ?_ | refine BrM.dec (fun _ => ?_) (fun _ => ?_) | refine BrM.mk (fun _ => ?_) (fun _ => ?_)) <;> conv => whnf)
          | ((with_reducible refine atAr ?_); refine Ar.i64 (by omega) (by omega) ?_; conv => whnf)
          | ((with_reducible refine atDrawn ?_); refine Nx.bind (l := 2) (fun _ => ?_) rfl; refine Nx.bind (l := 3) (fun _ => ?_) rfl; refine Nx.drawn0 [1,3] [.pure 0, .held 1, .pure 2, .pure 3, .held 4, .pure 5, .held 6, .pure 7, .pure 8, .held 9, .pure 10] rfl (by kernel_rfl) rfl (by kernel_rfl) rfl (by repeat (first | exact subB.nil _ | refine subB.cons rfl ?_)) rfl ?_)
          | ((with_reducible refine atHoIdx ?_); refine Nx.hoIdx 1 rfl rfl rfl Tryz.underlying26 rfl rfl rfl evC_len h2 rfl rfl (by omega) fun _ _ _ => ?_)
          | ((with_reducible refine atHoIdx ?_); refine Nx.hoIdx 3 rfl rfl rfl Tryz.underlying26 rfl rfl rfl evC_len h4 rfl rfl (by omega) fun _ _ _ => ?_)
          | ((with_reducible refine atHoLoad ?_); first | (refine Nx.hoLoad1 rfl rfl rfl rfl List.mem_cons_self (SeesAt.sub (by assumption) _ rfl) rfl ?_) | (refine Nx.hoLoad1 rfl rfl rfl rfl List.mem_cons_self (by assumption) rfl ?_) | (refine Nx.hoLoad rfl rfl rfl rfl List.mem_cons_self (by assumption) rfl rfl ?_) | (refine Nx.hoLoad1 rfl rfl rfl rfl (List.mem_cons_of_mem _ List.mem_cons_self) (SeesAt.sub (by assumption) _ rfl) rfl ?_) | (refine Nx.hoLoad1 rfl rfl rfl rfl (List.mem_cons_of_mem _ List.mem_cons_self) (by assumption) rfl ?_) | (refine Nx.hoLoad rfl rfl rfl rfl (List.mem_cons_of_mem _ List.mem_cons_self) (by assumption) rfl rfl ?_) | (refine Nx.hoLoad1 rfl rfl rfl rfl (List.mem_cons_of_mem _ (List.mem_cons_of_mem _ List.mem_cons_self)) (SeesAt.sub (by assumption) _ rfl) rfl ?_) | (refine Nx.hoLoad1 rfl rfl rfl rfl (List.mem_cons_of_mem _ (List.mem_cons_of_mem _ List.mem_cons_self)) (by assumption) rfl ?_) | (refine Nx.hoLoad rfl rfl rfl rfl (List.mem_cons_of_mem _ (List.mem_cons_of_mem _ List.mem_cons_self)) (by assumption) rfl rfl ?_) | (refine Nx.hoLoad1 rfl rfl rfl rfl (List.mem_cons_of_mem _ (List.mem_cons_of_mem _ (List.mem_cons_of_mem _ List.mem_cons_self))) (SeesAt.sub (by assumption) _ rfl) rfl ?_) | (refine Nx.hoLoad1 rfl rfl rfl rfl (List.mem_cons_of_mem _ (List.mem_cons_of_mem _ (List.mem_cons_of_mem _ List.mem_cons_self))) (by assumption) rfl ?_) | (refine Nx.hoLoad rfl rfl rfl rfl (List.mem_cons_of_mem _ (List.mem_cons_of_mem _ (List.mem_cons_of_mem _ List.mem_cons_self))) (by assumption) rfl rfl ?_))
          | ((with_reducible refine atOps ?_); refine go 200 ?_; conv => whnf)
          | ((with_reducible refine atPlan ?_); refine Nx.runP (n := 200) rfl (by repeat (first | exact subB.nil _ | refine subB.cons rfl ?_)) ?_; conv => whnf)
          | ((with_reducible refine atAftL ?_); refine Nx.late ?_)
          | ((fail_if_success (with_reducible refine atRet ?_)); (fail_if_success (with_reducible refine atLoop ?_)); (fail_if_success (with_reducible refine atIn ?_)); (fail_if_success (with_reducible refine atDrawn ?_)); (fail_if_success (with_reducible refine atEnd ?_)); (with_reducible refine atRun ?_); refine go 200 ?_; conv => whnf))
        refine Nx.hoEqS rfl (.inr rfl) rfl rfl rfl rfl (by kernel_rfl) (eq72 o.evs[k] p.evs[k]) rfl ?_
        by_cases he : o.evs[k] = p.evs[k]
        · have nx : ∀ j (h : j < k + 1) (h1 : j < o.evs.length) (h2 : j < p.evs.length), o.evs[j] = p.evs[j] := fun j h h1 h2 => by
            rcases Nat.lt_succ_iff_lt_or_eq.1 h with h | h
            · exact hall j h h1 h2
            · subst h; exact he
          rw [decide_eq_true he]
          repeat' (first
            | ((with_reducible refine atAr ?_); refine Ar.to (k := .i64) (((k+1:Nat):Int)) (by omega) ⟨by omega, by omega⟩ ?_; conv => whnf)
            | ((with_reducible refine atBr ?_); (first | refine BrM.t rfl ?_ | refine BrM.f rfl ?_ | refine BrM.dec (fun _ => ?_) (fun _ => ?_) | refine BrM.mk (fun _ => ?_) (fun _ => ?_)) <;> conv => whnf)
            | ((with_reducible refine atAr ?_); refine Ar.i64 (by omega) (by omega) ?_; conv => whnf)
            | ((with_reducible refine atIn ?_); refine Nx.weak ((ih (k + 1) ⟨hlt, nx⟩ (by omega))) ?_ ?_ ?_ ?_ <;> (first | exact subM.nil _ | exact subB.nil _ | exact subR.nil _ | ((repeat (first | exact subE.nil _ | refine subE.cons rfl rfl ?_ | refine subE.cons' rfl (fun _ => rfl) ?_ | (refine subE.cons rfl ?_ ?_; · (simp; done)))); done) | ((repeat (first | exact subM.nil _ | refine subM.cons rfl rfl rfl ?_)); done) | ((repeat (first | exact subB.nil _ | refine subB.cons rfl ?_)); done) | ((repeat (first | exact subR.nil _ | refine subR.cons rfl rfl ?_)); done) | omega | (dsimp only; omega) | (skip) | skip))
            | ((with_reducible refine atOps ?_); refine go 200 ?_; conv => whnf)
            | ((with_reducible refine atPlan ?_); refine Nx.runP (n := 200) rfl (by repeat (first | exact subB.nil _ | refine subB.cons rfl ?_)) ?_; conv => whnf)
            | ((with_reducible refine atAftL ?_); refine Nx.late ?_)
            | ((fail_if_success (with_reducible refine atRet ?_)); (fail_if_success (with_reducible refine atLoop ?_)); (fail_if_success (with_reducible refine atIn ?_)); (fail_if_success (with_reducible refine atDrawn ?_)); (fail_if_success (with_reducible refine atEnd ?_)); (with_reducible refine atRun ?_); refine go 200 ?_; conv => whnf))
        · have hne : o ≠ p := fun e => by
            apply he
            simp only [e]
          rw [decide_eq_false he]
          repeat' (first
            | ((with_reducible refine atBr ?_); (first | refine BrM.t rfl ?_ | refine BrM.f rfl ?_ | refine BrM.dec (fun _ => ?_) (fun _ => ?_) | refine BrM.mk (fun _ => ?_) (fun _ => ?_)) <;> conv => whnf)
            | ((with_reducible refine atAr ?_); refine Ar.i64 (by omega) (by omega) ?_; conv => whnf)
            | ((with_reducible refine atRet ?_); refine Nx.ret [0,1,2,3] Tryz.func17 rfl rfl ?_; (exact ⟨by rw [decide_eq_false hne]; rfl, rfl⟩))
            | ((with_reducible refine atOps ?_); refine go 200 ?_; conv => whnf)
            | ((with_reducible refine atPlan ?_); refine Nx.runP (n := 200) rfl (by repeat (first | exact subB.nil _ | refine subB.cons rfl ?_)) ?_; conv => whnf)
            | ((with_reducible refine atAftL ?_); refine Nx.late ?_)
            | ((fail_if_success (with_reducible refine atRet ?_)); (fail_if_success (with_reducible refine atLoop ?_)); (fail_if_success (with_reducible refine atIn ?_)); (fail_if_success (with_reducible refine atDrawn ?_)); (fail_if_success (with_reducible refine atEnd ?_)); (with_reducible refine atRun ?_); refine go 200 ?_; conv => whnf))
      · have hev : o.evs = p.evs := List.ext_getElem g10 fun j h1 h2 => hall j (by omega) h1 h2
        have heq := Ln.eq_of hh hafter hev
        repeat' (first
          | ((with_reducible refine atBr ?_); refine BrM.not (by omega) ?_; conv => whnf)
          | ((with_reducible refine atBr ?_); (first | refine BrM.t rfl ?_ | refine BrM.f rfl ?_ | refine BrM.dec (fun _ => ?_) (fun _ => ?_) | refine BrM.mk (fun _ => ?_) (fun _ => ?_)) <;> conv => whnf)
          | ((with_reducible refine atAr ?_); refine Ar.i64 (by omega) (by omega) ?_; conv => whnf)
          | ((with_reducible refine atRet ?_); refine Nx.ret [0,1,2,3] Tryz.func17 rfl rfl ?_; (exact ⟨by rw [decide_eq_true heq]; rfl, rfl⟩))
          | ((with_reducible refine atOps ?_); refine go 200 ?_; conv => whnf)
          | ((with_reducible refine atPlan ?_); refine Nx.runP (n := 200) rfl (by repeat (first | exact subB.nil _ | refine subB.cons rfl ?_)) ?_; conv => whnf)
          | ((with_reducible refine atAftL ?_); refine Nx.late ?_)
          | ((fail_if_success (with_reducible refine atRet ?_)); (fail_if_success (with_reducible refine atLoop ?_)); (fail_if_success (with_reducible refine atIn ?_)); (fail_if_success (with_reducible refine atDrawn ?_)); (fail_if_success (with_reducible refine atEnd ?_)); (with_reducible refine atRun ?_); refine go 200 ?_; conv => whnf))
  · have hne : o ≠ p := fun e => hh (by subst e; exact ⟨rfl, rfl, rfl, rfl, rfl, rfl, rfl, rfl, rfl, rfl⟩)
    refine FnOk.start Tryz.func17 rfl rfl rfl rfl fun F os tape output => ?_
    refine go 200 ?_
    conv => whnf
    repeat' (first
      | ((with_reducible refine atBr ?_); (first | refine BrM.t rfl ?_ | refine BrM.f rfl ?_ | refine BrM.dec (fun _ => ?_) (fun _ => ?_) | refine BrM.mk (fun _ => ?_) (fun _ => ?_)) <;> conv => whnf)
      | ((with_reducible refine atAr ?_); refine Ar.i64 (by omega) (by omega) ?_; conv => whnf)
      | ((with_reducible refine atRet ?_); refine Nx.ret [0,1,2,3] Tryz.func17 rfl rfl ?_; (exact ⟨by rw [decide_eq_false hne]; rfl, rfl⟩))
      | ((with_reducible refine atOps ?_); refine go 200 ?_; conv => whnf)
      | ((with_reducible refine atPlan ?_); refine Nx.runP (n := 200) rfl (by repeat (first | exact subB.nil _ | refine subB.cons rfl ?_)) ?_; conv => whnf)
      | ((with_reducible refine atAftL ?_); refine Nx.late ?_)
      | ((fail_if_success (with_reducible refine atRet ?_)); (fail_if_success (with_reducible refine atLoop ?_)); (fail_if_success (with_reducible refine atIn ?_)); (fail_if_success (with_reducible refine atDrawn ?_)); (fail_if_success (with_reducible refine atEnd ?_)); (with_reducible refine atRun ?_); refine go 200 ?_; conv => whnf))
    all_goals exact absurd ⟨by omega, by omega, by omega, by omega, by omega, by omega, by omega, by omega, by omega, by omega⟩ hh
end Go.Proofs.YtkfnbpbhcnekiaaGreatDoor

/- Print of script. -/
namespace Go.Proofs.YtkfnbpbhcnekiaaGreatDoor
open Go.RowKit Go.Lib
set_option maxRecDepth 20000
set_option maxHeartbeats 4000000

/-- The words of a line but for those of lists. -/
def headW (k : Nat) (o : Ln) : List Str := word k :: ((shape k).filter (fun c => c != 97 && c != 101)).flatMap (fieldW o)
theorem lineW_head (o : Ln) {k : Nat} (hk : k < 17) (he : o.deed = k) : lineW o = headW k o ++ (if 2 ≤ k ∧ k ≤ 5 then o.after.map itoa else []) ++ (if k = 6 ∨ k = 7 then o.evs.map evW else []) := by
  have e : o.deed.toNat = k := by omega
  unfold lineW headW
  rw [e]
  clear e he
  match k, hk with
  | 0, _ => simp [shape, shapeL, fieldW]
  | 1, _ => simp [shape, shapeL, fieldW]
  | 2, _ => simp [shape, shapeL, fieldW]
  | 3, _ => simp [shape, shapeL, fieldW]
  | 4, _ => simp [shape, shapeL, fieldW]
  | 5, _ => simp [shape, shapeL, fieldW]
  | 6, _ => simp [shape, shapeL, fieldW]
  | 7, _ => simp [shape, shapeL, fieldW]
  | 8, _ => simp [shape, shapeL, fieldW]
  | 9, _ => simp [shape, shapeL, fieldW]
  | 10, _ => simp [shape, shapeL, fieldW]
  | 11, _ => simp [shape, shapeL, fieldW]
  | 12, _ => simp [shape, shapeL, fieldW]
  | 13, _ => simp [shape, shapeL, fieldW]
  | 14, _ => simp [shape, shapeL, fieldW]
  | 15, _ => simp [shape, shapeL, fieldW]
  | 16, _ => simp [shape, shapeL, fieldW]
  | k + 17, hk => exact absurd hk (by omega)
theorem shape_k : ∀ k < 17, (107 ∈ shape k ↔ k = 0) ∧ (119 ∈ shape k ↔ 1 ≤ k ∧ k ≤ 4) ∧ (97 ∈ shape k ↔ 2 ≤ k ∧ k ≤ 5) ∧ (101 ∈ shape k ↔ k = 6 ∨ k = 7) := by decide
/-- What is wrong with a line, and how it is printed. -/
theorem print_wrong {o : Ln} (h : wrongA o ≠ 0) : printA o = .error (wrongA o) := by
  unfold wrongA at h ⊢
  unfold printA
  by_cases h1 : wA o
  · rw [if_pos h1]
    unfold wA at h1
    rw [if_pos h1]
  · rw [if_neg h1] at h ⊢
    unfold wA at h1
    rw [if_neg h1]
    obtain ⟨k, hk, he⟩ := deed_nat h1
    obtain ⟨s1, s2, s3, s4⟩ := shape_k k hk
    have e : o.deed.toNat = k := by omega
    rw [e]
    simp only [s1, s2, s3, s4]
    by_cases h2 : wB o
    · rw [if_pos h2]
      unfold wB at h2
      rw [if_pos (by omega)]
    · rw [if_neg h2] at h ⊢
      unfold wB at h2
      by_cases h3 : wC o
      · rw [if_pos h3]
        unfold wC at h3
        rw [if_pos (by omega)]
      · rw [if_neg h3] at h ⊢
        unfold wC at h3
        rw [if_neg (by omega)]
        by_cases h4 : wD o
        · rw [if_pos h4]
          unfold wD at h4
          rw [if_pos (by omega)]
        · rw [if_neg h4] at h
          exact absurd rfl h
structure Fine (o : Ln) (k : Nat) : Prop where
  lt : k < 17
  e : o.deed = k
  r : k = 0 → o.ring = 0 ∨ o.ring = 1
  w : 1 ≤ k ∧ k ≤ 4 → 0 ≤ o.way.kind ∧ o.way.kind ≤ 3
  a : 2 ≤ k ∧ k ≤ 5 → o.after.length ≤ 64
  v : k = 6 ∨ k = 7 → o.evs.length ≤ 64
  p : printA o = .ok (joinC 32 (lineW o))
theorem print_fine {o : Ln} (h : wrongA o = 0) : ∃ k, Fine o k := by
  unfold wrongA at h
  by_cases h1 : wA o
  · rw [if_pos h1] at h; exact absurd h (by decide)
  rw [if_neg h1] at h
  by_cases h2 : wB o
  · rw [if_pos h2] at h; exact absurd h (by decide)
  rw [if_neg h2] at h
  by_cases h3 : wC o
  · rw [if_pos h3] at h; exact absurd h (by decide)
  rw [if_neg h3] at h
  by_cases h4 : wD o
  · rw [if_pos h4] at h; exact absurd h (by decide)
  unfold wA at h1
  unfold wB at h2
  unfold wC at h3
  unfold wD at h4
  obtain ⟨k, hk, he⟩ := deed_nat h1
  obtain ⟨s1, s2, s3, s4⟩ := shape_k k hk
  have e : o.deed.toNat = k := by omega
  refine ⟨k, hk, he, fun h => by omega, fun h => by omega, fun h => by omega, fun h => by omega, ?_⟩
  unfold printA
  rw [if_neg h1, e]
  simp only [s1, s2, s3, s4]
  rw [if_neg (by omega), if_neg (by omega)]
theorem joinC_len {M : Nat} {c : UInt8} : ∀ {l : List Str}, (∀ w ∈ l, w.length ≤ M) → (joinC c l).length ≤ l.length * (M + 1)
  | [], _ => by simp [joinC]
  | [w], h => by have := h w (by simp); simp [joinC]; omega
  | w :: v :: r, h => by
    have h1 := h w (by simp)
    have h2 := joinC_len (c := c) (l := v :: r) (fun u hu => h u (List.mem_cons_of_mem _ hu))
    rw [joinC_cons _ _ (by simp), List.length_append, List.length_cons]
    rw [show (w :: v :: r).length = (v :: r).length + 1 from rfl, Nat.add_mul]
    omega
theorem wayW_len {w : Way} (h1 : I64n w.tries) (h2 : I64n w.time) : (wayW w).length ≤ 26 := by
  have l1 := itoa_len h1
  have l2 := itoa_len h2
  unfold wayW
  split
  · simp [yieldW]; omega
  · split
    · simp [timedW]; omega
    · unfold kindName
      split
      · rename_i h
        have : w.kind.toNat = 0 ∨ w.kind.toNat = 1 ∨ w.kind.toNat = 2 ∨ w.kind.toNat = 3 := by omega
        rcases this with e | e | e | e <;> rw [e] <;> simp [kindL]
      · simp
theorem evW_len {x : Ev} (h : I64n x.key ∧ I64n x.val) : (evW x).length ≤ 41 := by
  have l1 := itoa_len h.1
  have l2 := itoa_len h.2
  unfold evW
  simp; omega
theorem fieldW_len {o : Ln} (hw : o.wf) (c : UInt8) : ∀ w ∈ fieldW o c, w.length ≤ 41 := by
  intro w h
  unfold fieldW at h
  split at h
  · rw [List.mem_singleton] at h; subst h; have := itoa_len hw.n; omega
  split at h
  · rw [List.mem_singleton] at h; subst h; unfold ringName; split <;> simp [ringL]
  split at h
  · rw [List.mem_singleton] at h; subst h; have := itoa_len hw.ring; omega
  split at h
  · rw [List.mem_singleton] at h; subst h; have := wayW_len hw.tries hw.time; omega
  split at h
  · rw [List.mem_singleton] at h; subst h; have := itoa_len hw.who; omega
  split at h
  · rw [List.mem_singleton] at h; subst h; have := itoa_len hw.at_; omega
  split at h
  · obtain ⟨x, hx, rfl⟩ := List.mem_map.1 h; have := itoa_len (hw.after x hx); omega
  split at h
  · obtain ⟨x, hx, rfl⟩ := List.mem_map.1 h; exact evW_len (hw.evs x hx)
  · cases h
theorem lineW_len {o : Ln} (hw : o.wf) (hk : o.deed.toNat < 17) : ∀ w ∈ lineW o, w.length ≤ 41 := by
  intro w h
  rcases List.mem_cons.1 h with rfl | h
  · have := (word_no _ hk).2.2.2.2; omega
  · obtain ⟨c, _, hc⟩ := List.mem_flatMap.1 h
    exact fieldW_len hw c w hc
theorem headW_len (o : Ln) {k : Nat} (hk : k < 17) : (headW k o).length ≤ 4 := by
  unfold headW
  match k, hk with
  | 0, _ => simp [shape, shapeL, fieldW]
  | 1, _ => simp [shape, shapeL, fieldW]
  | 2, _ => simp [shape, shapeL, fieldW]
  | 3, _ => simp [shape, shapeL, fieldW]
  | 4, _ => simp [shape, shapeL, fieldW]
  | 5, _ => simp [shape, shapeL, fieldW]
  | 6, _ => simp [shape, shapeL, fieldW]
  | 7, _ => simp [shape, shapeL, fieldW]
  | 8, _ => simp [shape, shapeL, fieldW]
  | 9, _ => simp [shape, shapeL, fieldW]
  | 10, _ => simp [shape, shapeL, fieldW]
  | 11, _ => simp [shape, shapeL, fieldW]
  | 12, _ => simp [shape, shapeL, fieldW]
  | 13, _ => simp [shape, shapeL, fieldW]
  | 14, _ => simp [shape, shapeL, fieldW]
  | 15, _ => simp [shape, shapeL, fieldW]
  | 16, _ => simp [shape, shapeL, fieldW]
  | k + 17, hk => exact absurd hk (by omega)
theorem Fine.len {o : Ln} {k : Nat} (h : Fine o k) : (lineW o).length ≤ 68 := by
  have h1 := headW_len o h.lt
  have h2 := h.a
  have h3 := h.v
  rw [lineW_head o h.lt h.e, List.length_append, List.length_append]
  by_cases c1 : 2 ≤ k ∧ k ≤ 5
  · rw [if_pos c1, if_neg (by omega), List.length_map, List.length_nil]
    have := h2 c1; omega
  · rw [if_neg c1]
    by_cases c2 : k = 6 ∨ k = 7
    · rw [if_pos c2, List.length_map, List.length_nil]
      have := h3 c2; omega
    · rw [if_neg c2, List.length_nil]; omega
theorem Fine.join {o : Ln} {k : Nat} (h : Fine o k) (hw : o.wf) : (joinC 32 (lineW o)).length ≤ 10000 := by
  have e : o.deed.toNat < 17 := by have := h.lt; have := h.e; omega
  have h1 := joinC_len (c := 32) (lineW_len hw e)
  have h2 := h.len
  have : (lineW o).length * (41 + 1) ≤ 68 * 42 := Nat.mul_le_mul h2 (Nat.le_refl _)
  omega
structure PnX where
  j : Nat
  l : List Str
  A : Option Addr
  c : Nat
structure PnI {α : Type} (L : List Str) (f : α → Str) (zs : List α) (x : PnX) : Prop where
  j : x.j ≤ zs.length
  e : x.l = L ++ (zs.take x.j).map f
theorem PnI.step {α : Type} {L : List Str} {f : α → Str} {zs : List α} {x : PnX} (h : PnI L f zs x) (hj : x.j < zs.length) (A : Option Addr) (c : Nat) : PnI L f zs ⟨x.j + 1, x.l ++ [f zs[x.j]], A, c⟩ :=
  ⟨hj, by show x.l ++ _ = _; rw [h.e, List.take_succ_eq_append_getElem hj, List.map_append, List.append_assoc]; rfl⟩
theorem PnI.fin {α : Type} {L : List Str} {f : α → Str} {zs : List α} {x : PnX} (h : PnI L f zs x) (hj : ¬ x.j < zs.length) : x.l = L ++ zs.map f := by
  rw [h.e, List.take_of_length_le (by omega)]
theorem PnI.len {α : Type} {L : List Str} {f : α → Str} {zs : List α} {x : PnX} (h : PnI L f zs x) : x.l.length ≤ L.length + zs.length := by
  rw [h.e, List.length_append, List.length_map, List.length_take]; omega
section
variable {g : Cx} {env : Env} {mem : Mem} {bnd : Bnd} {L L' : Res} {N : Act → World → Prop}
/-- A slice of the call's own whose block's number is known. -/
theorem Nx.realS (s : Nat) {l o n c b : Nat} (hl : look env s = some (.c (.locs l o n c))) (hb : lookB bnd l = some b) (h : Nx g ((s, .c (.v (.slice (some ⟨b, o, none⟩) n c))) :: env) mem bnd L N) : Nx g env mem bnd L N := by
  intro β a w hr
  refine h β a w ⟨hr.defers, hr.size, fun k x hx => ?_, hr.bnd, hr.os, hr.tape, hr.output, hr.sat⟩
  rw [look_cons] at hx
  split at hx
  · rename_i e
    subst e
    cases hx
    have := hr.env _ _ hl
    rw [this]
    simp only [SV.den, Ce.den, hr.bnd l b hb]
  · exact hr.env k x hx
end
theorem own_blk {e : TypeId} {b : Nat} {cells : List Value} (h : cells.length ≤ maxLen) : ∀ r m, blk b (.cells cells.toArray e (0, 0)) r m → ownS e (some ⟨b, 0, none⟩) cells.length cells.length 1 cells r m := by
  intro r m hb
  refine ⟨by simp, .inr ⟨_, _, rfl, hb, Nat.le_refl _, h, by simp, by rw [Nat.mul_one]; exact List.take_of_length_le (by simp)⟩⟩
attribute [local irreducible] Nx Ar BrM
def PpPost (m : PH) (S1 S2 : SP) (r : Except Int Str) (v : Value) (Q : List SP) : Prop :=
  match r with
  | .ok t => v = .tuple #[str t, .nilIface] ∧ Q = [roAll m, S1, S2]
  | .error e => ∃ b q, v = .tuple #[str [], .iface 114 (.pointer (some ⟨b, 0, none⟩))] ∧ Q = [roAll m, S1, S2, errB b q e]
theorem Print_ok {m : PH} (hG : Glo m) (S1 S2 : SP) (o : Ln) (hw : o.wf) (A B : Option Addr) (c d : Nat) (h1 : Sees S1 A o.after.length 1 (intsV o.after)) (h2 : Sees S2 B o.evs.length 2 (evsV o.evs)) (l1 : o.after.length ≤ 1000000) (l2 : o.evs.length ≤ 1000000) :
    FnOk Tryz.prog 11 [lnV o A c B d] [roAll m, S1, S2] (PpPost m S1 S2 (printA o)) := by
  rw [← ints_flat] at h1
  by_cases hwr : wrongA o = 0
  · obtain ⟨k, hf⟩ := print_fine hwr
    have hp := hf.p
    obtain ⟨de, wh, ri, nn, tm, wy, af, es⟩ := o
    have hk := hf.lt
    have he : de = (k : Int) := hf.e
    subst he
    rw [hp]
    simp only at h1 h2 l1 l2
    show FnOk Tryz.prog 11 [.agg (lnE (k : Int) wh ri nn tm wy af.length A c es.length B d).toArray] [roAll m, S1, S2] _
    obtain ⟨o, hoe⟩ : ∃ o : Ln, o = ⟨(k : Int), wh, ri, nn, tm, wy, af, es⟩ := ⟨_, rfl⟩
    rw [← hoe] at hp hw hwr hf
    rw [show (lineW ⟨(k : Int), wh, ri, nn, tm, wy, af, es⟩) = lineW o by rw [hoe]]
    refine FnOk.start Tryz.func11 rfl rfl rfl rfl fun F os tape output => ?_
    refine go 200 ?_
    conv => whnf
    have hr : FnOk Tryz.prog 27 [lnV ⟨(k : Int), wh, ri, nn, tm, wy, af, es⟩ A c B d] [] (RightPost o) := by rw [hoe]; exact right_ok _ A B c d
    refine Nx.call [] [] rfl rfl rfl rfl rfl (hr) rfl fun v Q hQ => ?_
    obtain ⟨_, rfl, rfl⟩ := (show _ ∨ _ from hQ).resolve_right (fun h => h.1 hwr)
    have hkl : k < (strs wordL).length := by simp [wordL]; omega
    have hsw : SeesAt (roAll m) 0 k [str (word k)] := by
      have := hG.words.sees hkl
      have e : (strs wordL)[k] = str (word k) := by
        have hk' : k < wordL.length := by simpa using hkl
        simp only [List.getElem_map]
        rw [word, List.getD_eq_getElem?_getD, List.getElem?_eq_getElem hk']; rfl
      rwa [e] at this
    repeat' (first
      | ((with_reducible refine atBr ?_); refine BrM.not (by omega) ?_; conv => whnf)
      | ((with_reducible refine atBr ?_); (first | refine BrM.t rfl ?_ | refine BrM.f rfl ?_ | refine BrM.dec (fun _ => ?_) (fun _ => ?_) | refine BrM.mk (fun _ => ?_) (fun _ => ?_)) <;> conv => whnf)
      | ((with_reducible refine atAr ?_); refine Ar.i64 (by omega) (by omega) ?_; conv => whnf)
      | ((with_reducible refine atIdx ?_); refine Nx.gidx (q := k) (sz := 1) rfl rfl rfl Tryz.underlying74 rfl rfl (by omega) (by omega) (by omega) ?_)
      | ((with_reducible refine atOps ?_); refine go 200 ?_; conv => whnf)
      | ((with_reducible refine atPlan ?_); refine Nx.runP (n := 200) rfl (by repeat (first | exact subB.nil _ | refine subB.cons rfl ?_)) ?_; conv => whnf)
      | ((with_reducible refine atAftL ?_); refine Nx.late ?_)
      | ((fail_if_success (with_reducible refine atRet ?_)); (fail_if_success (with_reducible refine atLoop ?_)); (fail_if_success (with_reducible refine atIn ?_)); (fail_if_success (with_reducible refine atDrawn ?_)); (fail_if_success (with_reducible refine atEnd ?_)); (with_reducible refine atRun ?_); refine go 200 ?_; conv => whnf))
    refine Nx.load1 0 rfl rfl rfl rfl hsw rfl ?_
    refine goR 200 ?_
    conv => whnf
    refine Nx.bind (l := 19) (fun b => ?_) rfl
    refine Nx.realS 5 (l := 19) rfl rfl ?_
    refine Nx.out 19 rfl rfl rfl rfl ?_
    refine Nx.turn [19] [5] [ownS 9 (some ⟨b, 0, none⟩) 1 1 1 [str (word k)]] rfl (fun r h hs => ?_) ?_
    · obtain ⟨r1, g1, g2, a1, a2, a3, a4, a5, a6⟩ := hs
      exact ⟨r1, g1, g2, a1, a2, a3, a4, own_blk (cells := [str (word k)]) (by show 1 ≤ maxLen; decide) _ _ a5, a6⟩
    refine goR 200 ?_
    conv => whnf
    have hn : I64n nn := by have := hw.n; rwa [hoe] at this
    have hri : I64n ri := by have := hw.ring; rwa [hoe] at this
    have hwh : I64n wh := by have := hw.who; rwa [hoe] at this
    have htm : I64n tm := by have := hw.at_; rwa [hoe] at this
    have hwt : I64n wy.tries := by have := hw.tries; rwa [hoe] at this
    have hwu : I64n wy.time := by have := hw.time; rwa [hoe] at this
    refine Nx.joinX (X := {x : Option Addr × Nat // True}) (E := fun x => [(1, .c (.loc 1 0)), (2, sv []), (3, .c (.v .nilIface)), (5, sl x.1.1 (headW k o).length x.1.2)])
      (M := fun x => [(1, 37, (lnE (k : Int) wh ri nn tm wy af.length A c es.length B d).map .v)]) (B := [])
      (R := fun x => [(0, roAll m), (1, S1), (2, S2), (5, ownS 9 x.1.1 (headW k o).length x.1.2 1 (strs (headW k o)))]) (fun K => ?_) ?_
    · clear hp hr hQ hsw hkl
      match k, hk, hf, hoe, K with
      | 0, _, hf, hoe, K =>
        have hr0 : ri = 0 ∨ ri = 1 := by have := hf.r rfl; rwa [hoe] at this
        rcases hr0 with rfl | rfl
        · have hsk : SeesAt (roAll m) 1 0 [str (ringL.getD 0 [])] := hG.kinds.sees (j := 0) (by decide)
          have hh : headW 0 o = [word 0, itoa nn, ringL.getD 0 []] := by rw [hoe]; rfl
          rw [hh] at K
          repeat' (first
            | ((with_reducible refine Nx.weak K ?_ ?_ ?_ ?_) <;> (first | exact subM.nil _ | exact subB.nil _ | exact subR.nil _ | ((repeat (first | exact subE.nil _ | refine subE.cons rfl rfl ?_ | refine subE.cons' rfl (fun _ => rfl) ?_ | (refine subE.cons rfl ?_ ?_; · (simp; done)))); done) | ((repeat (first | exact subM.nil _ | refine subM.cons rfl rfl rfl ?_)); done) | ((repeat (first | exact subB.nil _ | refine subB.cons rfl ?_)); done) | ((repeat (first | exact subR.nil _ | refine subR.cons rfl rfl ?_)); done) | omega | (dsimp only; omega) | skip))
            | ((with_reducible refine atBr ?_); (first | refine BrM.t rfl ?_ | refine BrM.f rfl ?_ | refine BrM.dec (fun _ => ?_) (fun _ => ?_) | refine BrM.mk (fun _ => ?_) (fun _ => ?_)) <;> conv => whnf)
            | ((with_reducible refine atAr ?_); refine Ar.i64 (by omega) (by omega) ?_; conv => whnf)
            | ((with_reducible refine atDrawn ?_); refine Nx.bind (l := 1) (fun _ => ?_) rfl; refine Nx.drawn0 [0] [.pure 0, .pure 1, .held 2, .pure 4, .held 5, .pure 6, .held 7, .ex 3 true, .ex 8 true, .ex 9 true, .pure 10] rfl (by kernel_rfl) rfl (by kernel_rfl) rfl (by repeat (first | exact subB.nil _ | refine subB.cons rfl ?_)) rfl ?_)
            | ((with_reducible refine (atCall 28) ?_); refine Nx.call [0] [0] rfl rfl rfl rfl rfl ((number_ok hG nn hn)) rfl fun v Q hQ => ?_; obtain ⟨rfl, rfl⟩ := hQ)
            | ((with_reducible refine atAftK ?_); refine Nx.keepN [0] rfl (by repeat (first | exact subB.nil _ | refine subB.cons rfl ?_)) (by repeat (first | exact subM.nil _ | refine subM.cons rfl rfl rfl ?_)) rfl ?_)
            | ((with_reducible refine atHoIdx ?_); refine Nx.hoGidx (q := 0) (sz := 1) rfl rfl rfl Tryz.underlying75 rfl rfl (by omega) (by omega) (by omega) ?_)
            | ((with_reducible refine atHoLoad ?_); first | (refine Nx.hoLoad1 rfl rfl rfl rfl List.mem_cons_self (SeesAt.sub (by assumption) _ rfl) rfl ?_) | (refine Nx.hoLoad1 rfl rfl rfl rfl List.mem_cons_self (by assumption) rfl ?_) | (refine Nx.hoLoad rfl rfl rfl rfl List.mem_cons_self (by assumption) rfl rfl ?_) | (refine Nx.hoLoad1 rfl rfl rfl rfl (List.mem_cons_of_mem _ List.mem_cons_self) (SeesAt.sub (by assumption) _ rfl) rfl ?_) | (refine Nx.hoLoad1 rfl rfl rfl rfl (List.mem_cons_of_mem _ List.mem_cons_self) (by assumption) rfl ?_) | (refine Nx.hoLoad rfl rfl rfl rfl (List.mem_cons_of_mem _ List.mem_cons_self) (by assumption) rfl rfl ?_) | (refine Nx.hoLoad1 rfl rfl rfl rfl (List.mem_cons_of_mem _ (List.mem_cons_of_mem _ List.mem_cons_self)) (SeesAt.sub (by assumption) _ rfl) rfl ?_) | (refine Nx.hoLoad1 rfl rfl rfl rfl (List.mem_cons_of_mem _ (List.mem_cons_of_mem _ List.mem_cons_self)) (by assumption) rfl ?_) | (refine Nx.hoLoad rfl rfl rfl rfl (List.mem_cons_of_mem _ (List.mem_cons_of_mem _ List.mem_cons_self)) (by assumption) rfl rfl ?_) | (refine Nx.hoLoad1 rfl rfl rfl rfl (List.mem_cons_of_mem _ (List.mem_cons_of_mem _ (List.mem_cons_of_mem _ List.mem_cons_self))) (SeesAt.sub (by assumption) _ rfl) rfl ?_) | (refine Nx.hoLoad1 rfl rfl rfl rfl (List.mem_cons_of_mem _ (List.mem_cons_of_mem _ (List.mem_cons_of_mem _ List.mem_cons_self))) (by assumption) rfl ?_) | (refine Nx.hoLoad rfl rfl rfl rfl (List.mem_cons_of_mem _ (List.mem_cons_of_mem _ (List.mem_cons_of_mem _ List.mem_cons_self))) (by assumption) rfl rfl ?_))
            | ((with_reducible refine atApp ?_); refine Nx.append 5 (sz := 1) (by_ := 16) (news := [str (itoa nn), str (ringL.getD 0 [])]) rfl rfl rfl rfl rfl Tryz.underlying56 rfl rfl rfl rfl rfl (by unfold maxLen; omega) (by omega) fun A' c'' => ?_)
            | ((with_reducible refine Nx.weak (K ⟨(A', c''), trivial⟩) ?_ ?_ ?_ ?_) <;> (first | (refine subE.cons rfl rfl ?_; refine subE.cons rfl rfl ?_; refine subE.cons rfl rfl ?_; exact subE.cons rfl rfl (subE.nil _)) | exact subM.cons rfl rfl rfl (subM.nil _) | exact subB.nil _ | exact subR.cons rfl rfl (subR.cons rfl rfl (subR.cons rfl rfl (subR.cons rfl rfl (subR.nil _))))))
            | ((with_reducible refine atOps ?_); refine goR 200 ?_; conv => whnf)
            | ((with_reducible refine atPlan ?_); refine Nx.runP (n := 200) rfl (by repeat (first | exact subB.nil _ | refine subB.cons rfl ?_)) ?_; conv => whnf)
            | ((with_reducible refine atAftL ?_); refine Nx.late ?_)
            | ((fail_if_success (with_reducible refine atRet ?_)); (fail_if_success (with_reducible refine atLoop ?_)); (fail_if_success (with_reducible refine atIn ?_)); (fail_if_success (with_reducible refine atDrawn ?_)); (fail_if_success (with_reducible refine atEnd ?_)); (with_reducible refine atRun ?_); refine goR 1 ?_; conv => whnf))
        · have hsk : SeesAt (roAll m) 1 1 [str (ringL.getD 1 [])] := hG.kinds.sees (j := 1) (by decide)
          have hh : headW 0 o = [word 0, itoa nn, ringL.getD 1 []] := by rw [hoe]; rfl
          rw [hh] at K
          repeat' (first
            | ((with_reducible refine Nx.weak K ?_ ?_ ?_ ?_) <;> (first | exact subM.nil _ | exact subB.nil _ | exact subR.nil _ | ((repeat (first | exact subE.nil _ | refine subE.cons rfl rfl ?_ | refine subE.cons' rfl (fun _ => rfl) ?_ | (refine subE.cons rfl ?_ ?_; · (simp; done)))); done) | ((repeat (first | exact subM.nil _ | refine subM.cons rfl rfl rfl ?_)); done) | ((repeat (first | exact subB.nil _ | refine subB.cons rfl ?_)); done) | ((repeat (first | exact subR.nil _ | refine subR.cons rfl rfl ?_)); done) | omega | (dsimp only; omega) | skip))
            | ((with_reducible refine atBr ?_); (first | refine BrM.t rfl ?_ | refine BrM.f rfl ?_ | refine BrM.dec (fun _ => ?_) (fun _ => ?_) | refine BrM.mk (fun _ => ?_) (fun _ => ?_)) <;> conv => whnf)
            | ((with_reducible refine atAr ?_); refine Ar.i64 (by omega) (by omega) ?_; conv => whnf)
            | ((with_reducible refine atDrawn ?_); refine Nx.bind (l := 1) (fun _ => ?_) rfl; refine Nx.drawn0 [0] [.pure 0, .pure 1, .held 2, .pure 4, .held 5, .pure 6, .held 7, .ex 3 true, .ex 8 true, .ex 9 true, .pure 10] rfl (by kernel_rfl) rfl (by kernel_rfl) rfl (by repeat (first | exact subB.nil _ | refine subB.cons rfl ?_)) rfl ?_)
            | ((with_reducible refine (atCall 28) ?_); refine Nx.call [0] [0] rfl rfl rfl rfl rfl ((number_ok hG nn hn)) rfl fun v Q hQ => ?_; obtain ⟨rfl, rfl⟩ := hQ)
            | ((with_reducible refine atAftK ?_); refine Nx.keepN [0] rfl (by repeat (first | exact subB.nil _ | refine subB.cons rfl ?_)) (by repeat (first | exact subM.nil _ | refine subM.cons rfl rfl rfl ?_)) rfl ?_)
            | ((with_reducible refine atHoIdx ?_); refine Nx.hoGidx (q := 1) (sz := 1) rfl rfl rfl Tryz.underlying75 rfl rfl (by omega) (by omega) (by omega) ?_)
            | ((with_reducible refine atHoLoad ?_); first | (refine Nx.hoLoad1 rfl rfl rfl rfl List.mem_cons_self (SeesAt.sub (by assumption) _ rfl) rfl ?_) | (refine Nx.hoLoad1 rfl rfl rfl rfl List.mem_cons_self (by assumption) rfl ?_) | (refine Nx.hoLoad rfl rfl rfl rfl List.mem_cons_self (by assumption) rfl rfl ?_) | (refine Nx.hoLoad1 rfl rfl rfl rfl (List.mem_cons_of_mem _ List.mem_cons_self) (SeesAt.sub (by assumption) _ rfl) rfl ?_) | (refine Nx.hoLoad1 rfl rfl rfl rfl (List.mem_cons_of_mem _ List.mem_cons_self) (by assumption) rfl ?_) | (refine Nx.hoLoad rfl rfl rfl rfl (List.mem_cons_of_mem _ List.mem_cons_self) (by assumption) rfl rfl ?_) | (refine Nx.hoLoad1 rfl rfl rfl rfl (List.mem_cons_of_mem _ (List.mem_cons_of_mem _ List.mem_cons_self)) (SeesAt.sub (by assumption) _ rfl) rfl ?_) | (refine Nx.hoLoad1 rfl rfl rfl rfl (List.mem_cons_of_mem _ (List.mem_cons_of_mem _ List.mem_cons_self)) (by assumption) rfl ?_) | (refine Nx.hoLoad rfl rfl rfl rfl (List.mem_cons_of_mem _ (List.mem_cons_of_mem _ List.mem_cons_self)) (by assumption) rfl rfl ?_) | (refine Nx.hoLoad1 rfl rfl rfl rfl (List.mem_cons_of_mem _ (List.mem_cons_of_mem _ (List.mem_cons_of_mem _ List.mem_cons_self))) (SeesAt.sub (by assumption) _ rfl) rfl ?_) | (refine Nx.hoLoad1 rfl rfl rfl rfl (List.mem_cons_of_mem _ (List.mem_cons_of_mem _ (List.mem_cons_of_mem _ List.mem_cons_self))) (by assumption) rfl ?_) | (refine Nx.hoLoad rfl rfl rfl rfl (List.mem_cons_of_mem _ (List.mem_cons_of_mem _ (List.mem_cons_of_mem _ List.mem_cons_self))) (by assumption) rfl rfl ?_))
            | ((with_reducible refine atApp ?_); refine Nx.append 5 (sz := 1) (by_ := 16) (news := [str (itoa nn), str (ringL.getD 1 [])]) rfl rfl rfl rfl rfl Tryz.underlying56 rfl rfl rfl rfl rfl (by unfold maxLen; omega) (by omega) fun A' c'' => ?_)
            | ((with_reducible refine Nx.weak (K ⟨(A', c''), trivial⟩) ?_ ?_ ?_ ?_) <;> (first | (refine subE.cons rfl rfl ?_; refine subE.cons rfl rfl ?_; refine subE.cons rfl rfl ?_; exact subE.cons rfl rfl (subE.nil _)) | exact subM.cons rfl rfl rfl (subM.nil _) | exact subB.nil _ | exact subR.cons rfl rfl (subR.cons rfl rfl (subR.cons rfl rfl (subR.cons rfl rfl (subR.nil _))))))
            | ((with_reducible refine atOps ?_); refine goR 200 ?_; conv => whnf)
            | ((with_reducible refine atPlan ?_); refine Nx.runP (n := 200) rfl (by repeat (first | exact subB.nil _ | refine subB.cons rfl ?_)) ?_; conv => whnf)
            | ((with_reducible refine atAftL ?_); refine Nx.late ?_)
            | ((fail_if_success (with_reducible refine atRet ?_)); (fail_if_success (with_reducible refine atLoop ?_)); (fail_if_success (with_reducible refine atIn ?_)); (fail_if_success (with_reducible refine atDrawn ?_)); (fail_if_success (with_reducible refine atEnd ?_)); (with_reducible refine atRun ?_); refine goR 1 ?_; conv => whnf))
      | 1, _, hf, hoe, K =>
        have hh : headW 1 o = [word 1, itoa ri, wayW wy] := by rw [hoe]; rfl
        rw [hh] at K
        repeat' (first
          | ((with_reducible refine Nx.weak K ?_ ?_ ?_ ?_) <;> (first | exact subM.nil _ | exact subB.nil _ | exact subR.nil _ | ((repeat (first | exact subE.nil _ | refine subE.cons rfl rfl ?_ | refine subE.cons' rfl (fun _ => rfl) ?_ | (refine subE.cons rfl ?_ ?_; · (simp; done)))); done) | ((repeat (first | exact subM.nil _ | refine subM.cons rfl rfl rfl ?_)); done) | ((repeat (first | exact subB.nil _ | refine subB.cons rfl ?_)); done) | ((repeat (first | exact subR.nil _ | refine subR.cons rfl rfl ?_)); done) | omega | (dsimp only; omega) | skip))
          | ((with_reducible refine atBr ?_); (first | refine BrM.t rfl ?_ | refine BrM.f rfl ?_ | refine BrM.dec (fun _ => ?_) (fun _ => ?_) | refine BrM.mk (fun _ => ?_) (fun _ => ?_)) <;> conv => whnf)
          | ((with_reducible refine atAr ?_); refine Ar.i64 (by omega) (by omega) ?_; conv => whnf)
          | ((with_reducible refine atDrawn ?_); refine Nx.bind (l := 1) (fun _ => ?_) rfl; refine Nx.drawn0 [0] [.pure 0, .pure 1, .held 2, .pure 4, .held 5, .ex 3 true, .ex 6 true, .ex 7 true, .ex 8 true, .pure 9] rfl (by kernel_rfl) rfl (by kernel_rfl) rfl (by repeat (first | exact subB.nil _ | refine subB.cons rfl ?_)) rfl ?_)
          | ((with_reducible refine (atCall 28) ?_); refine Nx.call [0] [0] rfl rfl rfl rfl rfl ((number_ok hG ri hri)) rfl fun v Q hQ => ?_; obtain ⟨rfl, rfl⟩ := hQ)
          | ((with_reducible refine (atCall 29) ?_); refine Nx.call [0] [0] rfl rfl rfl rfl rfl ((way_ok hG wy hwt hwu)) rfl fun v Q hQ => ?_; obtain ⟨rfl, rfl⟩ := hQ)
          | ((with_reducible refine atAftK ?_); refine Nx.keepN [0] rfl (by repeat (first | exact subB.nil _ | refine subB.cons rfl ?_)) (by repeat (first | exact subM.nil _ | refine subM.cons rfl rfl rfl ?_)) rfl ?_)
          | ((with_reducible refine atApp ?_); refine Nx.append 5 (sz := 1) (by_ := 16) (news := [str (itoa ri), str (wayW wy)]) rfl rfl rfl rfl rfl Tryz.underlying56 rfl rfl rfl rfl rfl (by unfold maxLen; omega) (by omega) fun A' c'' => ?_)
          | ((with_reducible refine Nx.weak (K ⟨(A', c''), trivial⟩) ?_ ?_ ?_ ?_) <;> (first | (refine subE.cons rfl rfl ?_; refine subE.cons rfl rfl ?_; refine subE.cons rfl rfl ?_; exact subE.cons rfl rfl (subE.nil _)) | exact subM.cons rfl rfl rfl (subM.nil _) | exact subB.nil _ | exact subR.cons rfl rfl (subR.cons rfl rfl (subR.cons rfl rfl (subR.cons rfl rfl (subR.nil _))))))
          | ((with_reducible refine atOps ?_); refine goR 200 ?_; conv => whnf)
          | ((with_reducible refine atPlan ?_); refine Nx.runP (n := 200) rfl (by repeat (first | exact subB.nil _ | refine subB.cons rfl ?_)) ?_; conv => whnf)
          | ((with_reducible refine atAftL ?_); refine Nx.late ?_)
          | ((fail_if_success (with_reducible refine atRet ?_)); (fail_if_success (with_reducible refine atLoop ?_)); (fail_if_success (with_reducible refine atIn ?_)); (fail_if_success (with_reducible refine atDrawn ?_)); (fail_if_success (with_reducible refine atEnd ?_)); (with_reducible refine atRun ?_); refine goR 1 ?_; conv => whnf))
      | 2, _, hf, hoe, K =>
        have hh : headW 2 o = [word 2, itoa ri, wayW wy, itoa nn] := by rw [hoe]; rfl
        rw [hh] at K
        repeat' (first
          | ((with_reducible refine Nx.weak K ?_ ?_ ?_ ?_) <;> (first | exact subM.nil _ | exact subB.nil _ | exact subR.nil _ | ((repeat (first | exact subE.nil _ | refine subE.cons rfl rfl ?_ | refine subE.cons' rfl (fun _ => rfl) ?_ | (refine subE.cons rfl ?_ ?_; · (simp; done)))); done) | ((repeat (first | exact subM.nil _ | refine subM.cons rfl rfl rfl ?_)); done) | ((repeat (first | exact subB.nil _ | refine subB.cons rfl ?_)); done) | ((repeat (first | exact subR.nil _ | refine subR.cons rfl rfl ?_)); done) | omega | (dsimp only; omega) | skip))
          | ((with_reducible refine atBr ?_); (first | refine BrM.t rfl ?_ | refine BrM.f rfl ?_ | refine BrM.dec (fun _ => ?_) (fun _ => ?_) | refine BrM.mk (fun _ => ?_) (fun _ => ?_)) <;> conv => whnf)
          | ((with_reducible refine atAr ?_); refine Ar.i64 (by omega) (by omega) ?_; conv => whnf)
          | ((with_reducible refine atDrawn ?_); refine Nx.bind (l := 1) (fun _ => ?_) rfl; refine Nx.drawn0 [0] [.pure 0, .pure 1, .held 2, .pure 4, .held 5, .pure 7, .held 8, .ex 3 true, .ex 6 true, .ex 9 true, .ex 10 true, .ex 11 true, .pure 12] rfl (by kernel_rfl) rfl (by kernel_rfl) rfl (by repeat (first | exact subB.nil _ | refine subB.cons rfl ?_)) rfl ?_)
          | ((with_reducible refine (atCall 28) ?_); refine Nx.call [0] [0] rfl rfl rfl rfl rfl ((number_ok hG ri hri)) rfl fun v Q hQ => ?_; obtain ⟨rfl, rfl⟩ := hQ)
          | ((with_reducible refine (atCall 29) ?_); refine Nx.call [0] [0] rfl rfl rfl rfl rfl ((way_ok hG wy hwt hwu)) rfl fun v Q hQ => ?_; obtain ⟨rfl, rfl⟩ := hQ)
          | ((with_reducible refine (atCall 28) ?_); refine Nx.call [0] [0] rfl rfl rfl rfl rfl ((number_ok hG nn hn)) rfl fun v Q hQ => ?_; obtain ⟨rfl, rfl⟩ := hQ)
          | ((with_reducible refine atAftK ?_); refine Nx.keepN [0] rfl (by repeat (first | exact subB.nil _ | refine subB.cons rfl ?_)) (by repeat (first | exact subM.nil _ | refine subM.cons rfl rfl rfl ?_)) rfl ?_)
          | ((with_reducible refine atApp ?_); refine Nx.append 5 (sz := 1) (by_ := 16) (news := [str (itoa ri), str (wayW wy), str (itoa nn)]) rfl rfl rfl rfl rfl Tryz.underlying56 rfl rfl rfl rfl rfl (by unfold maxLen; omega) (by omega) fun A' c'' => ?_)
          | ((with_reducible refine Nx.weak (K ⟨(A', c''), trivial⟩) ?_ ?_ ?_ ?_) <;> (first | (refine subE.cons rfl rfl ?_; refine subE.cons rfl rfl ?_; refine subE.cons rfl rfl ?_; exact subE.cons rfl rfl (subE.nil _)) | exact subM.cons rfl rfl rfl (subM.nil _) | exact subB.nil _ | exact subR.cons rfl rfl (subR.cons rfl rfl (subR.cons rfl rfl (subR.cons rfl rfl (subR.nil _))))))
          | ((with_reducible refine atOps ?_); refine goR 200 ?_; conv => whnf)
          | ((with_reducible refine atPlan ?_); refine Nx.runP (n := 200) rfl (by repeat (first | exact subB.nil _ | refine subB.cons rfl ?_)) ?_; conv => whnf)
          | ((with_reducible refine atAftL ?_); refine Nx.late ?_)
          | ((fail_if_success (with_reducible refine atRet ?_)); (fail_if_success (with_reducible refine atLoop ?_)); (fail_if_success (with_reducible refine atIn ?_)); (fail_if_success (with_reducible refine atDrawn ?_)); (fail_if_success (with_reducible refine atEnd ?_)); (with_reducible refine atRun ?_); refine goR 1 ?_; conv => whnf))
      | 3, _, hf, hoe, K =>
        have hh : headW 3 o = [word 3, itoa ri, wayW wy, itoa nn] := by rw [hoe]; rfl
        rw [hh] at K
        repeat' (first
          | ((with_reducible refine Nx.weak K ?_ ?_ ?_ ?_) <;> (first | exact subM.nil _ | exact subB.nil _ | exact subR.nil _ | ((repeat (first | exact subE.nil _ | refine subE.cons rfl rfl ?_ | refine subE.cons' rfl (fun _ => rfl) ?_ | (refine subE.cons rfl ?_ ?_; · (simp; done)))); done) | ((repeat (first | exact subM.nil _ | refine subM.cons rfl rfl rfl ?_)); done) | ((repeat (first | exact subB.nil _ | refine subB.cons rfl ?_)); done) | ((repeat (first | exact subR.nil _ | refine subR.cons rfl rfl ?_)); done) | omega | (dsimp only; omega) | skip))
          | ((with_reducible refine atBr ?_); (first | refine BrM.t rfl ?_ | refine BrM.f rfl ?_ | refine BrM.dec (fun _ => ?_) (fun _ => ?_) | refine BrM.mk (fun _ => ?_) (fun _ => ?_)) <;> conv => whnf)
          | ((with_reducible refine atAr ?_); refine Ar.i64 (by omega) (by omega) ?_; conv => whnf)
          | ((with_reducible refine atDrawn ?_); refine Nx.bind (l := 1) (fun _ => ?_) rfl; refine Nx.drawn0 [0] [.pure 0, .pure 1, .held 2, .pure 4, .held 5, .pure 7, .held 8, .ex 3 true, .ex 6 true, .ex 9 true, .ex 10 true, .ex 11 true, .pure 12] rfl (by kernel_rfl) rfl (by kernel_rfl) rfl (by repeat (first | exact subB.nil _ | refine subB.cons rfl ?_)) rfl ?_)
          | ((with_reducible refine (atCall 28) ?_); refine Nx.call [0] [0] rfl rfl rfl rfl rfl ((number_ok hG ri hri)) rfl fun v Q hQ => ?_; obtain ⟨rfl, rfl⟩ := hQ)
          | ((with_reducible refine (atCall 29) ?_); refine Nx.call [0] [0] rfl rfl rfl rfl rfl ((way_ok hG wy hwt hwu)) rfl fun v Q hQ => ?_; obtain ⟨rfl, rfl⟩ := hQ)
          | ((with_reducible refine (atCall 28) ?_); refine Nx.call [0] [0] rfl rfl rfl rfl rfl ((number_ok hG nn hn)) rfl fun v Q hQ => ?_; obtain ⟨rfl, rfl⟩ := hQ)
          | ((with_reducible refine atAftK ?_); refine Nx.keepN [0] rfl (by repeat (first | exact subB.nil _ | refine subB.cons rfl ?_)) (by repeat (first | exact subM.nil _ | refine subM.cons rfl rfl rfl ?_)) rfl ?_)
          | ((with_reducible refine atApp ?_); refine Nx.append 5 (sz := 1) (by_ := 16) (news := [str (itoa ri), str (wayW wy), str (itoa nn)]) rfl rfl rfl rfl rfl Tryz.underlying56 rfl rfl rfl rfl rfl (by unfold maxLen; omega) (by omega) fun A' c'' => ?_)
          | ((with_reducible refine Nx.weak (K ⟨(A', c''), trivial⟩) ?_ ?_ ?_ ?_) <;> (first | (refine subE.cons rfl rfl ?_; refine subE.cons rfl rfl ?_; refine subE.cons rfl rfl ?_; exact subE.cons rfl rfl (subE.nil _)) | exact subM.cons rfl rfl rfl (subM.nil _) | exact subB.nil _ | exact subR.cons rfl rfl (subR.cons rfl rfl (subR.cons rfl rfl (subR.cons rfl rfl (subR.nil _))))))
          | ((with_reducible refine atOps ?_); refine goR 200 ?_; conv => whnf)
          | ((with_reducible refine atPlan ?_); refine Nx.runP (n := 200) rfl (by repeat (first | exact subB.nil _ | refine subB.cons rfl ?_)) ?_; conv => whnf)
          | ((with_reducible refine atAftL ?_); refine Nx.late ?_)
          | ((fail_if_success (with_reducible refine atRet ?_)); (fail_if_success (with_reducible refine atLoop ?_)); (fail_if_success (with_reducible refine atIn ?_)); (fail_if_success (with_reducible refine atDrawn ?_)); (fail_if_success (with_reducible refine atEnd ?_)); (with_reducible refine atRun ?_); refine goR 1 ?_; conv => whnf))
      | 4, _, hf, hoe, K =>
        have hh : headW 4 o = [word 4, itoa ri, wayW wy] := by rw [hoe]; rfl
        rw [hh] at K
        repeat' (first
          | ((with_reducible refine Nx.weak K ?_ ?_ ?_ ?_) <;> (first | exact subM.nil _ | exact subB.nil _ | exact subR.nil _ | ((repeat (first | exact subE.nil _ | refine subE.cons rfl rfl ?_ | refine subE.cons' rfl (fun _ => rfl) ?_ | (refine subE.cons rfl ?_ ?_; · (simp; done)))); done) | ((repeat (first | exact subM.nil _ | refine subM.cons rfl rfl rfl ?_)); done) | ((repeat (first | exact subB.nil _ | refine subB.cons rfl ?_)); done) | ((repeat (first | exact subR.nil _ | refine subR.cons rfl rfl ?_)); done) | omega | (dsimp only; omega) | skip))
          | ((with_reducible refine atBr ?_); (first | refine BrM.t rfl ?_ | refine BrM.f rfl ?_ | refine BrM.dec (fun _ => ?_) (fun _ => ?_) | refine BrM.mk (fun _ => ?_) (fun _ => ?_)) <;> conv => whnf)
          | ((with_reducible refine atAr ?_); refine Ar.i64 (by omega) (by omega) ?_; conv => whnf)
          | ((with_reducible refine atDrawn ?_); refine Nx.bind (l := 1) (fun _ => ?_) rfl; refine Nx.drawn0 [0] [.pure 0, .pure 1, .held 2, .pure 4, .held 5, .ex 3 true, .ex 6 true, .ex 7 true, .ex 8 true, .pure 9] rfl (by kernel_rfl) rfl (by kernel_rfl) rfl (by repeat (first | exact subB.nil _ | refine subB.cons rfl ?_)) rfl ?_)
          | ((with_reducible refine (atCall 28) ?_); refine Nx.call [0] [0] rfl rfl rfl rfl rfl ((number_ok hG ri hri)) rfl fun v Q hQ => ?_; obtain ⟨rfl, rfl⟩ := hQ)
          | ((with_reducible refine (atCall 29) ?_); refine Nx.call [0] [0] rfl rfl rfl rfl rfl ((way_ok hG wy hwt hwu)) rfl fun v Q hQ => ?_; obtain ⟨rfl, rfl⟩ := hQ)
          | ((with_reducible refine atAftK ?_); refine Nx.keepN [0] rfl (by repeat (first | exact subB.nil _ | refine subB.cons rfl ?_)) (by repeat (first | exact subM.nil _ | refine subM.cons rfl rfl rfl ?_)) rfl ?_)
          | ((with_reducible refine atApp ?_); refine Nx.append 5 (sz := 1) (by_ := 16) (news := [str (itoa ri), str (wayW wy)]) rfl rfl rfl rfl rfl Tryz.underlying56 rfl rfl rfl rfl rfl (by unfold maxLen; omega) (by omega) fun A' c'' => ?_)
          | ((with_reducible refine Nx.weak (K ⟨(A', c''), trivial⟩) ?_ ?_ ?_ ?_) <;> (first | (refine subE.cons rfl rfl ?_; refine subE.cons rfl rfl ?_; refine subE.cons rfl rfl ?_; exact subE.cons rfl rfl (subE.nil _)) | exact subM.cons rfl rfl rfl (subM.nil _) | exact subB.nil _ | exact subR.cons rfl rfl (subR.cons rfl rfl (subR.cons rfl rfl (subR.cons rfl rfl (subR.nil _))))))
          | ((with_reducible refine atOps ?_); refine goR 200 ?_; conv => whnf)
          | ((with_reducible refine atPlan ?_); refine Nx.runP (n := 200) rfl (by repeat (first | exact subB.nil _ | refine subB.cons rfl ?_)) ?_; conv => whnf)
          | ((with_reducible refine atAftL ?_); refine Nx.late ?_)
          | ((fail_if_success (with_reducible refine atRet ?_)); (fail_if_success (with_reducible refine atLoop ?_)); (fail_if_success (with_reducible refine atIn ?_)); (fail_if_success (with_reducible refine atDrawn ?_)); (fail_if_success (with_reducible refine atEnd ?_)); (with_reducible refine atRun ?_); refine goR 1 ?_; conv => whnf))
      | 5, _, hf, hoe, K =>
        have hh : headW 5 o = [word 5] := by rw [hoe]; rfl
        rw [hh] at K
        repeat' (first
          | ((with_reducible refine Nx.weak K ?_ ?_ ?_ ?_) <;> (first | exact subM.nil _ | exact subB.nil _ | exact subR.nil _ | ((repeat (first | exact subE.nil _ | refine subE.cons rfl rfl ?_ | refine subE.cons' rfl (fun _ => rfl) ?_ | (refine subE.cons rfl ?_ ?_; · (simp; done)))); done) | ((repeat (first | exact subM.nil _ | refine subM.cons rfl rfl rfl ?_)); done) | ((repeat (first | exact subB.nil _ | refine subB.cons rfl ?_)); done) | ((repeat (first | exact subR.nil _ | refine subR.cons rfl rfl ?_)); done) | omega | (dsimp only; omega) | skip))
          | ((with_reducible refine atBr ?_); (first | refine BrM.t rfl ?_ | refine BrM.f rfl ?_ | refine BrM.dec (fun _ => ?_) (fun _ => ?_) | refine BrM.mk (fun _ => ?_) (fun _ => ?_)) <;> conv => whnf)
          | ((with_reducible refine atAr ?_); refine Ar.i64 (by omega) (by omega) ?_; conv => whnf)
          | (fail)
          | ((with_reducible refine Nx.weak (K ⟨(some ⟨b, 0, none⟩, 1), trivial⟩) ?_ ?_ ?_ ?_) <;> (first | (refine subE.cons rfl rfl ?_; refine subE.cons rfl rfl ?_; refine subE.cons rfl rfl ?_; exact subE.cons rfl rfl (subE.nil _)) | exact subM.cons rfl rfl rfl (subM.nil _) | exact subB.nil _ | exact subR.cons rfl rfl (subR.cons rfl rfl (subR.cons rfl rfl (subR.cons rfl rfl (subR.nil _))))))
          | ((with_reducible refine atOps ?_); refine goR 200 ?_; conv => whnf)
          | ((with_reducible refine atPlan ?_); refine Nx.runP (n := 200) rfl (by repeat (first | exact subB.nil _ | refine subB.cons rfl ?_)) ?_; conv => whnf)
          | ((with_reducible refine atAftL ?_); refine Nx.late ?_)
          | ((fail_if_success (with_reducible refine atRet ?_)); (fail_if_success (with_reducible refine atLoop ?_)); (fail_if_success (with_reducible refine atIn ?_)); (fail_if_success (with_reducible refine atDrawn ?_)); (fail_if_success (with_reducible refine atEnd ?_)); (with_reducible refine atRun ?_); refine goR 1 ?_; conv => whnf))
      | 6, _, hf, hoe, K =>
        have hh : headW 6 o = [word 6, itoa wh] := by rw [hoe]; rfl
        rw [hh] at K
        repeat' (first
          | ((with_reducible refine Nx.weak K ?_ ?_ ?_ ?_) <;> (first | exact subM.nil _ | exact subB.nil _ | exact subR.nil _ | ((repeat (first | exact subE.nil _ | refine subE.cons rfl rfl ?_ | refine subE.cons' rfl (fun _ => rfl) ?_ | (refine subE.cons rfl ?_ ?_; · (simp; done)))); done) | ((repeat (first | exact subM.nil _ | refine subM.cons rfl rfl rfl ?_)); done) | ((repeat (first | exact subB.nil _ | refine subB.cons rfl ?_)); done) | ((repeat (first | exact subR.nil _ | refine subR.cons rfl rfl ?_)); done) | omega | (dsimp only; omega) | skip))
          | ((with_reducible refine atBr ?_); (first | refine BrM.t rfl ?_ | refine BrM.f rfl ?_ | refine BrM.dec (fun _ => ?_) (fun _ => ?_) | refine BrM.mk (fun _ => ?_) (fun _ => ?_)) <;> conv => whnf)
          | ((with_reducible refine atAr ?_); refine Ar.i64 (by omega) (by omega) ?_; conv => whnf)
          | ((with_reducible refine (atCall 28) ?_); refine Nx.call [0] [0] rfl rfl rfl rfl rfl ((number_ok hG wh hwh)) rfl fun v Q hQ => ?_; obtain ⟨rfl, rfl⟩ := hQ)
          | ((with_reducible refine atApp ?_); refine Nx.append 5 (sz := 1) (by_ := 16) (news := [str (itoa wh)]) rfl rfl rfl rfl rfl Tryz.underlying56 rfl rfl rfl rfl rfl (by unfold maxLen; omega) (by omega) fun A' c'' => ?_)
          | ((with_reducible refine Nx.weak (K ⟨(A', c''), trivial⟩) ?_ ?_ ?_ ?_) <;> (first | (refine subE.cons rfl rfl ?_; refine subE.cons rfl rfl ?_; refine subE.cons rfl rfl ?_; exact subE.cons rfl rfl (subE.nil _)) | exact subM.cons rfl rfl rfl (subM.nil _) | exact subB.nil _ | exact subR.cons rfl rfl (subR.cons rfl rfl (subR.cons rfl rfl (subR.cons rfl rfl (subR.nil _))))))
          | ((with_reducible refine atOps ?_); refine goR 200 ?_; conv => whnf)
          | ((with_reducible refine atPlan ?_); refine Nx.runP (n := 200) rfl (by repeat (first | exact subB.nil _ | refine subB.cons rfl ?_)) ?_; conv => whnf)
          | ((with_reducible refine atAftL ?_); refine Nx.late ?_)
          | ((fail_if_success (with_reducible refine atRet ?_)); (fail_if_success (with_reducible refine atLoop ?_)); (fail_if_success (with_reducible refine atIn ?_)); (fail_if_success (with_reducible refine atDrawn ?_)); (fail_if_success (with_reducible refine atEnd ?_)); (with_reducible refine atRun ?_); refine goR 1 ?_; conv => whnf))
      | 7, _, hf, hoe, K =>
        have hh : headW 7 o = [word 7, itoa wh] := by rw [hoe]; rfl
        rw [hh] at K
        repeat' (first
          | ((with_reducible refine Nx.weak K ?_ ?_ ?_ ?_) <;> (first | exact subM.nil _ | exact subB.nil _ | exact subR.nil _ | ((repeat (first | exact subE.nil _ | refine subE.cons rfl rfl ?_ | refine subE.cons' rfl (fun _ => rfl) ?_ | (refine subE.cons rfl ?_ ?_; · (simp; done)))); done) | ((repeat (first | exact subM.nil _ | refine subM.cons rfl rfl rfl ?_)); done) | ((repeat (first | exact subB.nil _ | refine subB.cons rfl ?_)); done) | ((repeat (first | exact subR.nil _ | refine subR.cons rfl rfl ?_)); done) | omega | (dsimp only; omega) | skip))
          | ((with_reducible refine atBr ?_); (first | refine BrM.t rfl ?_ | refine BrM.f rfl ?_ | refine BrM.dec (fun _ => ?_) (fun _ => ?_) | refine BrM.mk (fun _ => ?_) (fun _ => ?_)) <;> conv => whnf)
          | ((with_reducible refine atAr ?_); refine Ar.i64 (by omega) (by omega) ?_; conv => whnf)
          | ((with_reducible refine (atCall 28) ?_); refine Nx.call [0] [0] rfl rfl rfl rfl rfl ((number_ok hG wh hwh)) rfl fun v Q hQ => ?_; obtain ⟨rfl, rfl⟩ := hQ)
          | ((with_reducible refine atApp ?_); refine Nx.append 5 (sz := 1) (by_ := 16) (news := [str (itoa wh)]) rfl rfl rfl rfl rfl Tryz.underlying56 rfl rfl rfl rfl rfl (by unfold maxLen; omega) (by omega) fun A' c'' => ?_)
          | ((with_reducible refine Nx.weak (K ⟨(A', c''), trivial⟩) ?_ ?_ ?_ ?_) <;> (first | (refine subE.cons rfl rfl ?_; refine subE.cons rfl rfl ?_; refine subE.cons rfl rfl ?_; exact subE.cons rfl rfl (subE.nil _)) | exact subM.cons rfl rfl rfl (subM.nil _) | exact subB.nil _ | exact subR.cons rfl rfl (subR.cons rfl rfl (subR.cons rfl rfl (subR.cons rfl rfl (subR.nil _))))))
          | ((with_reducible refine atOps ?_); refine goR 200 ?_; conv => whnf)
          | ((with_reducible refine atPlan ?_); refine Nx.runP (n := 200) rfl (by repeat (first | exact subB.nil _ | refine subB.cons rfl ?_)) ?_; conv => whnf)
          | ((with_reducible refine atAftL ?_); refine Nx.late ?_)
          | ((fail_if_success (with_reducible refine atRet ?_)); (fail_if_success (with_reducible refine atLoop ?_)); (fail_if_success (with_reducible refine atIn ?_)); (fail_if_success (with_reducible refine atDrawn ?_)); (fail_if_success (with_reducible refine atEnd ?_)); (with_reducible refine atRun ?_); refine goR 1 ?_; conv => whnf))
      | 8, _, hf, hoe, K =>
        have hh : headW 8 o = [word 8, itoa wh, itoa nn] := by rw [hoe]; rfl
        rw [hh] at K
        repeat' (first
          | ((with_reducible refine Nx.weak K ?_ ?_ ?_ ?_) <;> (first | exact subM.nil _ | exact subB.nil _ | exact subR.nil _ | ((repeat (first | exact subE.nil _ | refine subE.cons rfl rfl ?_ | refine subE.cons' rfl (fun _ => rfl) ?_ | (refine subE.cons rfl ?_ ?_; · (simp; done)))); done) | ((repeat (first | exact subM.nil _ | refine subM.cons rfl rfl rfl ?_)); done) | ((repeat (first | exact subB.nil _ | refine subB.cons rfl ?_)); done) | ((repeat (first | exact subR.nil _ | refine subR.cons rfl rfl ?_)); done) | omega | (dsimp only; omega) | skip))
          | ((with_reducible refine atBr ?_); (first | refine BrM.t rfl ?_ | refine BrM.f rfl ?_ | refine BrM.dec (fun _ => ?_) (fun _ => ?_) | refine BrM.mk (fun _ => ?_) (fun _ => ?_)) <;> conv => whnf)
          | ((with_reducible refine atAr ?_); refine Ar.i64 (by omega) (by omega) ?_; conv => whnf)
          | ((with_reducible refine atDrawn ?_); refine Nx.bind (l := 1) (fun _ => ?_) rfl; refine Nx.drawn0 [0] [.pure 0, .pure 1, .held 2, .pure 4, .held 5, .ex 3 true, .ex 6 true, .ex 7 true, .ex 8 true, .pure 9] rfl (by kernel_rfl) rfl (by kernel_rfl) rfl (by repeat (first | exact subB.nil _ | refine subB.cons rfl ?_)) rfl ?_)
          | ((with_reducible refine (atCall 28) ?_); refine Nx.call [0] [0] rfl rfl rfl rfl rfl ((number_ok hG wh hwh)) rfl fun v Q hQ => ?_; obtain ⟨rfl, rfl⟩ := hQ)
          | ((with_reducible refine (atCall 28) ?_); refine Nx.call [0] [0] rfl rfl rfl rfl rfl ((number_ok hG nn hn)) rfl fun v Q hQ => ?_; obtain ⟨rfl, rfl⟩ := hQ)
          | ((with_reducible refine atAftK ?_); refine Nx.keepN [0] rfl (by repeat (first | exact subB.nil _ | refine subB.cons rfl ?_)) (by repeat (first | exact subM.nil _ | refine subM.cons rfl rfl rfl ?_)) rfl ?_)
          | ((with_reducible refine atApp ?_); refine Nx.append 5 (sz := 1) (by_ := 16) (news := [str (itoa wh), str (itoa nn)]) rfl rfl rfl rfl rfl Tryz.underlying56 rfl rfl rfl rfl rfl (by unfold maxLen; omega) (by omega) fun A' c'' => ?_)
          | ((with_reducible refine Nx.weak (K ⟨(A', c''), trivial⟩) ?_ ?_ ?_ ?_) <;> (first | (refine subE.cons rfl rfl ?_; refine subE.cons rfl rfl ?_; refine subE.cons rfl rfl ?_; exact subE.cons rfl rfl (subE.nil _)) | exact subM.cons rfl rfl rfl (subM.nil _) | exact subB.nil _ | exact subR.cons rfl rfl (subR.cons rfl rfl (subR.cons rfl rfl (subR.cons rfl rfl (subR.nil _))))))
          | ((with_reducible refine atOps ?_); refine goR 200 ?_; conv => whnf)
          | ((with_reducible refine atPlan ?_); refine Nx.runP (n := 200) rfl (by repeat (first | exact subB.nil _ | refine subB.cons rfl ?_)) ?_; conv => whnf)
          | ((with_reducible refine atAftL ?_); refine Nx.late ?_)
          | ((fail_if_success (with_reducible refine atRet ?_)); (fail_if_success (with_reducible refine atLoop ?_)); (fail_if_success (with_reducible refine atIn ?_)); (fail_if_success (with_reducible refine atDrawn ?_)); (fail_if_success (with_reducible refine atEnd ?_)); (with_reducible refine atRun ?_); refine goR 1 ?_; conv => whnf))
      | 9, _, hf, hoe, K =>
        have hh : headW 9 o = [word 9, itoa wh] := by rw [hoe]; rfl
        rw [hh] at K
        repeat' (first
          | ((with_reducible refine Nx.weak K ?_ ?_ ?_ ?_) <;> (first | exact subM.nil _ | exact subB.nil _ | exact subR.nil _ | ((repeat (first | exact subE.nil _ | refine subE.cons rfl rfl ?_ | refine subE.cons' rfl (fun _ => rfl) ?_ | (refine subE.cons rfl ?_ ?_; · (simp; done)))); done) | ((repeat (first | exact subM.nil _ | refine subM.cons rfl rfl rfl ?_)); done) | ((repeat (first | exact subB.nil _ | refine subB.cons rfl ?_)); done) | ((repeat (first | exact subR.nil _ | refine subR.cons rfl rfl ?_)); done) | omega | (dsimp only; omega) | skip))
          | ((with_reducible refine atBr ?_); (first | refine BrM.t rfl ?_ | refine BrM.f rfl ?_ | refine BrM.dec (fun _ => ?_) (fun _ => ?_) | refine BrM.mk (fun _ => ?_) (fun _ => ?_)) <;> conv => whnf)
          | ((with_reducible refine atAr ?_); refine Ar.i64 (by omega) (by omega) ?_; conv => whnf)
          | ((with_reducible refine (atCall 28) ?_); refine Nx.call [0] [0] rfl rfl rfl rfl rfl ((number_ok hG wh hwh)) rfl fun v Q hQ => ?_; obtain ⟨rfl, rfl⟩ := hQ)
          | ((with_reducible refine atApp ?_); refine Nx.append 5 (sz := 1) (by_ := 16) (news := [str (itoa wh)]) rfl rfl rfl rfl rfl Tryz.underlying56 rfl rfl rfl rfl rfl (by unfold maxLen; omega) (by omega) fun A' c'' => ?_)
          | ((with_reducible refine Nx.weak (K ⟨(A', c''), trivial⟩) ?_ ?_ ?_ ?_) <;> (first | (refine subE.cons rfl rfl ?_; refine subE.cons rfl rfl ?_; refine subE.cons rfl rfl ?_; exact subE.cons rfl rfl (subE.nil _)) | exact subM.cons rfl rfl rfl (subM.nil _) | exact subB.nil _ | exact subR.cons rfl rfl (subR.cons rfl rfl (subR.cons rfl rfl (subR.cons rfl rfl (subR.nil _))))))
          | ((with_reducible refine atOps ?_); refine goR 200 ?_; conv => whnf)
          | ((with_reducible refine atPlan ?_); refine Nx.runP (n := 200) rfl (by repeat (first | exact subB.nil _ | refine subB.cons rfl ?_)) ?_; conv => whnf)
          | ((with_reducible refine atAftL ?_); refine Nx.late ?_)
          | ((fail_if_success (with_reducible refine atRet ?_)); (fail_if_success (with_reducible refine atLoop ?_)); (fail_if_success (with_reducible refine atIn ?_)); (fail_if_success (with_reducible refine atDrawn ?_)); (fail_if_success (with_reducible refine atEnd ?_)); (with_reducible refine atRun ?_); refine goR 1 ?_; conv => whnf))
      | 10, _, hf, hoe, K =>
        have hh : headW 10 o = [word 10, itoa wh, itoa nn] := by rw [hoe]; rfl
        rw [hh] at K
        repeat' (first
          | ((with_reducible refine Nx.weak K ?_ ?_ ?_ ?_) <;> (first | exact subM.nil _ | exact subB.nil _ | exact subR.nil _ | ((repeat (first | exact subE.nil _ | refine subE.cons rfl rfl ?_ | refine subE.cons' rfl (fun _ => rfl) ?_ | (refine subE.cons rfl ?_ ?_; · (simp; done)))); done) | ((repeat (first | exact subM.nil _ | refine subM.cons rfl rfl rfl ?_)); done) | ((repeat (first | exact subB.nil _ | refine subB.cons rfl ?_)); done) | ((repeat (first | exact subR.nil _ | refine subR.cons rfl rfl ?_)); done) | omega | (dsimp only; omega) | skip))
          | ((with_reducible refine atBr ?_); (first | refine BrM.t rfl ?_ | refine BrM.f rfl ?_ | refine BrM.dec (fun _ => ?_) (fun _ => ?_) | refine BrM.mk (fun _ => ?_) (fun _ => ?_)) <;> conv => whnf)
          | ((with_reducible refine atAr ?_); refine Ar.i64 (by omega) (by omega) ?_; conv => whnf)
          | ((with_reducible refine atDrawn ?_); refine Nx.bind (l := 1) (fun _ => ?_) rfl; refine Nx.drawn0 [0] [.pure 0, .pure 1, .held 2, .pure 4, .held 5, .ex 3 true, .ex 6 true, .ex 7 true, .ex 8 true, .pure 9] rfl (by kernel_rfl) rfl (by kernel_rfl) rfl (by repeat (first | exact subB.nil _ | refine subB.cons rfl ?_)) rfl ?_)
          | ((with_reducible refine (atCall 28) ?_); refine Nx.call [0] [0] rfl rfl rfl rfl rfl ((number_ok hG wh hwh)) rfl fun v Q hQ => ?_; obtain ⟨rfl, rfl⟩ := hQ)
          | ((with_reducible refine (atCall 28) ?_); refine Nx.call [0] [0] rfl rfl rfl rfl rfl ((number_ok hG nn hn)) rfl fun v Q hQ => ?_; obtain ⟨rfl, rfl⟩ := hQ)
          | ((with_reducible refine atAftK ?_); refine Nx.keepN [0] rfl (by repeat (first | exact subB.nil _ | refine subB.cons rfl ?_)) (by repeat (first | exact subM.nil _ | refine subM.cons rfl rfl rfl ?_)) rfl ?_)
          | ((with_reducible refine atApp ?_); refine Nx.append 5 (sz := 1) (by_ := 16) (news := [str (itoa wh), str (itoa nn)]) rfl rfl rfl rfl rfl Tryz.underlying56 rfl rfl rfl rfl rfl (by unfold maxLen; omega) (by omega) fun A' c'' => ?_)
          | ((with_reducible refine Nx.weak (K ⟨(A', c''), trivial⟩) ?_ ?_ ?_ ?_) <;> (first | (refine subE.cons rfl rfl ?_; refine subE.cons rfl rfl ?_; refine subE.cons rfl rfl ?_; exact subE.cons rfl rfl (subE.nil _)) | exact subM.cons rfl rfl rfl (subM.nil _) | exact subB.nil _ | exact subR.cons rfl rfl (subR.cons rfl rfl (subR.cons rfl rfl (subR.cons rfl rfl (subR.nil _))))))
          | ((with_reducible refine atOps ?_); refine goR 200 ?_; conv => whnf)
          | ((with_reducible refine atPlan ?_); refine Nx.runP (n := 200) rfl (by repeat (first | exact subB.nil _ | refine subB.cons rfl ?_)) ?_; conv => whnf)
          | ((with_reducible refine atAftL ?_); refine Nx.late ?_)
          | ((fail_if_success (with_reducible refine atRet ?_)); (fail_if_success (with_reducible refine atLoop ?_)); (fail_if_success (with_reducible refine atIn ?_)); (fail_if_success (with_reducible refine atDrawn ?_)); (fail_if_success (with_reducible refine atEnd ?_)); (with_reducible refine atRun ?_); refine goR 1 ?_; conv => whnf))
      | 11, _, hf, hoe, K =>
        have hh : headW 11 o = [word 11, itoa wh] := by rw [hoe]; rfl
        rw [hh] at K
        repeat' (first
          | ((with_reducible refine Nx.weak K ?_ ?_ ?_ ?_) <;> (first | exact subM.nil _ | exact subB.nil _ | exact subR.nil _ | ((repeat (first | exact subE.nil _ | refine subE.cons rfl rfl ?_ | refine subE.cons' rfl (fun _ => rfl) ?_ | (refine subE.cons rfl ?_ ?_; · (simp; done)))); done) | ((repeat (first | exact subM.nil _ | refine subM.cons rfl rfl rfl ?_)); done) | ((repeat (first | exact subB.nil _ | refine subB.cons rfl ?_)); done) | ((repeat (first | exact subR.nil _ | refine subR.cons rfl rfl ?_)); done) | omega | (dsimp only; omega) | skip))
          | ((with_reducible refine atBr ?_); (first | refine BrM.t rfl ?_ | refine BrM.f rfl ?_ | refine BrM.dec (fun _ => ?_) (fun _ => ?_) | refine BrM.mk (fun _ => ?_) (fun _ => ?_)) <;> conv => whnf)
          | ((with_reducible refine atAr ?_); refine Ar.i64 (by omega) (by omega) ?_; conv => whnf)
          | ((with_reducible refine (atCall 28) ?_); refine Nx.call [0] [0] rfl rfl rfl rfl rfl ((number_ok hG wh hwh)) rfl fun v Q hQ => ?_; obtain ⟨rfl, rfl⟩ := hQ)
          | ((with_reducible refine atApp ?_); refine Nx.append 5 (sz := 1) (by_ := 16) (news := [str (itoa wh)]) rfl rfl rfl rfl rfl Tryz.underlying56 rfl rfl rfl rfl rfl (by unfold maxLen; omega) (by omega) fun A' c'' => ?_)
          | ((with_reducible refine Nx.weak (K ⟨(A', c''), trivial⟩) ?_ ?_ ?_ ?_) <;> (first | (refine subE.cons rfl rfl ?_; refine subE.cons rfl rfl ?_; refine subE.cons rfl rfl ?_; exact subE.cons rfl rfl (subE.nil _)) | exact subM.cons rfl rfl rfl (subM.nil _) | exact subB.nil _ | exact subR.cons rfl rfl (subR.cons rfl rfl (subR.cons rfl rfl (subR.cons rfl rfl (subR.nil _))))))
          | ((with_reducible refine atOps ?_); refine goR 200 ?_; conv => whnf)
          | ((with_reducible refine atPlan ?_); refine Nx.runP (n := 200) rfl (by repeat (first | exact subB.nil _ | refine subB.cons rfl ?_)) ?_; conv => whnf)
          | ((with_reducible refine atAftL ?_); refine Nx.late ?_)
          | ((fail_if_success (with_reducible refine atRet ?_)); (fail_if_success (with_reducible refine atLoop ?_)); (fail_if_success (with_reducible refine atIn ?_)); (fail_if_success (with_reducible refine atDrawn ?_)); (fail_if_success (with_reducible refine atEnd ?_)); (with_reducible refine atRun ?_); refine goR 1 ?_; conv => whnf))
      | 12, _, hf, hoe, K =>
        have hh : headW 12 o = [word 12, itoa wh] := by rw [hoe]; rfl
        rw [hh] at K
        repeat' (first
          | ((with_reducible refine Nx.weak K ?_ ?_ ?_ ?_) <;> (first | exact subM.nil _ | exact subB.nil _ | exact subR.nil _ | ((repeat (first | exact subE.nil _ | refine subE.cons rfl rfl ?_ | refine subE.cons' rfl (fun _ => rfl) ?_ | (refine subE.cons rfl ?_ ?_; · (simp; done)))); done) | ((repeat (first | exact subM.nil _ | refine subM.cons rfl rfl rfl ?_)); done) | ((repeat (first | exact subB.nil _ | refine subB.cons rfl ?_)); done) | ((repeat (first | exact subR.nil _ | refine subR.cons rfl rfl ?_)); done) | omega | (dsimp only; omega) | skip))
          | ((with_reducible refine atBr ?_); (first | refine BrM.t rfl ?_ | refine BrM.f rfl ?_ | refine BrM.dec (fun _ => ?_) (fun _ => ?_) | refine BrM.mk (fun _ => ?_) (fun _ => ?_)) <;> conv => whnf)
          | ((with_reducible refine atAr ?_); refine Ar.i64 (by omega) (by omega) ?_; conv => whnf)
          | ((with_reducible refine (atCall 28) ?_); refine Nx.call [0] [0] rfl rfl rfl rfl rfl ((number_ok hG wh hwh)) rfl fun v Q hQ => ?_; obtain ⟨rfl, rfl⟩ := hQ)
          | ((with_reducible refine atApp ?_); refine Nx.append 5 (sz := 1) (by_ := 16) (news := [str (itoa wh)]) rfl rfl rfl rfl rfl Tryz.underlying56 rfl rfl rfl rfl rfl (by unfold maxLen; omega) (by omega) fun A' c'' => ?_)
          | ((with_reducible refine Nx.weak (K ⟨(A', c''), trivial⟩) ?_ ?_ ?_ ?_) <;> (first | (refine subE.cons rfl rfl ?_; refine subE.cons rfl rfl ?_; refine subE.cons rfl rfl ?_; exact subE.cons rfl rfl (subE.nil _)) | exact subM.cons rfl rfl rfl (subM.nil _) | exact subB.nil _ | exact subR.cons rfl rfl (subR.cons rfl rfl (subR.cons rfl rfl (subR.cons rfl rfl (subR.nil _))))))
          | ((with_reducible refine atOps ?_); refine goR 200 ?_; conv => whnf)
          | ((with_reducible refine atPlan ?_); refine Nx.runP (n := 200) rfl (by repeat (first | exact subB.nil _ | refine subB.cons rfl ?_)) ?_; conv => whnf)
          | ((with_reducible refine atAftL ?_); refine Nx.late ?_)
          | ((fail_if_success (with_reducible refine atRet ?_)); (fail_if_success (with_reducible refine atLoop ?_)); (fail_if_success (with_reducible refine atIn ?_)); (fail_if_success (with_reducible refine atDrawn ?_)); (fail_if_success (with_reducible refine atEnd ?_)); (with_reducible refine atRun ?_); refine goR 1 ?_; conv => whnf))
      | 13, _, hf, hoe, K =>
        have hh : headW 13 o = [word 13, itoa wh] := by rw [hoe]; rfl
        rw [hh] at K
        repeat' (first
          | ((with_reducible refine Nx.weak K ?_ ?_ ?_ ?_) <;> (first | exact subM.nil _ | exact subB.nil _ | exact subR.nil _ | ((repeat (first | exact subE.nil _ | refine subE.cons rfl rfl ?_ | refine subE.cons' rfl (fun _ => rfl) ?_ | (refine subE.cons rfl ?_ ?_; · (simp; done)))); done) | ((repeat (first | exact subM.nil _ | refine subM.cons rfl rfl rfl ?_)); done) | ((repeat (first | exact subB.nil _ | refine subB.cons rfl ?_)); done) | ((repeat (first | exact subR.nil _ | refine subR.cons rfl rfl ?_)); done) | omega | (dsimp only; omega) | skip))
          | ((with_reducible refine atBr ?_); (first | refine BrM.t rfl ?_ | refine BrM.f rfl ?_ | refine BrM.dec (fun _ => ?_) (fun _ => ?_) | refine BrM.mk (fun _ => ?_) (fun _ => ?_)) <;> conv => whnf)
          | ((with_reducible refine atAr ?_); refine Ar.i64 (by omega) (by omega) ?_; conv => whnf)
          | ((with_reducible refine (atCall 28) ?_); refine Nx.call [0] [0] rfl rfl rfl rfl rfl ((number_ok hG wh hwh)) rfl fun v Q hQ => ?_; obtain ⟨rfl, rfl⟩ := hQ)
          | ((with_reducible refine atApp ?_); refine Nx.append 5 (sz := 1) (by_ := 16) (news := [str (itoa wh)]) rfl rfl rfl rfl rfl Tryz.underlying56 rfl rfl rfl rfl rfl (by unfold maxLen; omega) (by omega) fun A' c'' => ?_)
          | ((with_reducible refine Nx.weak (K ⟨(A', c''), trivial⟩) ?_ ?_ ?_ ?_) <;> (first | (refine subE.cons rfl rfl ?_; refine subE.cons rfl rfl ?_; refine subE.cons rfl rfl ?_; exact subE.cons rfl rfl (subE.nil _)) | exact subM.cons rfl rfl rfl (subM.nil _) | exact subB.nil _ | exact subR.cons rfl rfl (subR.cons rfl rfl (subR.cons rfl rfl (subR.cons rfl rfl (subR.nil _))))))
          | ((with_reducible refine atOps ?_); refine goR 200 ?_; conv => whnf)
          | ((with_reducible refine atPlan ?_); refine Nx.runP (n := 200) rfl (by repeat (first | exact subB.nil _ | refine subB.cons rfl ?_)) ?_; conv => whnf)
          | ((with_reducible refine atAftL ?_); refine Nx.late ?_)
          | ((fail_if_success (with_reducible refine atRet ?_)); (fail_if_success (with_reducible refine atLoop ?_)); (fail_if_success (with_reducible refine atIn ?_)); (fail_if_success (with_reducible refine atDrawn ?_)); (fail_if_success (with_reducible refine atEnd ?_)); (with_reducible refine atRun ?_); refine goR 1 ?_; conv => whnf))
      | 14, _, hf, hoe, K =>
        have hh : headW 14 o = [word 14, itoa wh] := by rw [hoe]; rfl
        rw [hh] at K
        repeat' (first
          | ((with_reducible refine Nx.weak K ?_ ?_ ?_ ?_) <;> (first | exact subM.nil _ | exact subB.nil _ | exact subR.nil _ | ((repeat (first | exact subE.nil _ | refine subE.cons rfl rfl ?_ | refine subE.cons' rfl (fun _ => rfl) ?_ | (refine subE.cons rfl ?_ ?_; · (simp; done)))); done) | ((repeat (first | exact subM.nil _ | refine subM.cons rfl rfl rfl ?_)); done) | ((repeat (first | exact subB.nil _ | refine subB.cons rfl ?_)); done) | ((repeat (first | exact subR.nil _ | refine subR.cons rfl rfl ?_)); done) | omega | (dsimp only; omega) | skip))
          | ((with_reducible refine atBr ?_); (first | refine BrM.t rfl ?_ | refine BrM.f rfl ?_ | refine BrM.dec (fun _ => ?_) (fun _ => ?_) | refine BrM.mk (fun _ => ?_) (fun _ => ?_)) <;> conv => whnf)
          | ((with_reducible refine atAr ?_); refine Ar.i64 (by omega) (by omega) ?_; conv => whnf)
          | ((with_reducible refine (atCall 28) ?_); refine Nx.call [0] [0] rfl rfl rfl rfl rfl ((number_ok hG wh hwh)) rfl fun v Q hQ => ?_; obtain ⟨rfl, rfl⟩ := hQ)
          | ((with_reducible refine atApp ?_); refine Nx.append 5 (sz := 1) (by_ := 16) (news := [str (itoa wh)]) rfl rfl rfl rfl rfl Tryz.underlying56 rfl rfl rfl rfl rfl (by unfold maxLen; omega) (by omega) fun A' c'' => ?_)
          | ((with_reducible refine Nx.weak (K ⟨(A', c''), trivial⟩) ?_ ?_ ?_ ?_) <;> (first | (refine subE.cons rfl rfl ?_; refine subE.cons rfl rfl ?_; refine subE.cons rfl rfl ?_; exact subE.cons rfl rfl (subE.nil _)) | exact subM.cons rfl rfl rfl (subM.nil _) | exact subB.nil _ | exact subR.cons rfl rfl (subR.cons rfl rfl (subR.cons rfl rfl (subR.cons rfl rfl (subR.nil _))))))
          | ((with_reducible refine atOps ?_); refine goR 200 ?_; conv => whnf)
          | ((with_reducible refine atPlan ?_); refine Nx.runP (n := 200) rfl (by repeat (first | exact subB.nil _ | refine subB.cons rfl ?_)) ?_; conv => whnf)
          | ((with_reducible refine atAftL ?_); refine Nx.late ?_)
          | ((fail_if_success (with_reducible refine atRet ?_)); (fail_if_success (with_reducible refine atLoop ?_)); (fail_if_success (with_reducible refine atIn ?_)); (fail_if_success (with_reducible refine atDrawn ?_)); (fail_if_success (with_reducible refine atEnd ?_)); (with_reducible refine atRun ?_); refine goR 1 ?_; conv => whnf))
      | 15, _, hf, hoe, K =>
        have hh : headW 15 o = [word 15, itoa tm] := by rw [hoe]; rfl
        rw [hh] at K
        repeat' (first
          | ((with_reducible refine Nx.weak K ?_ ?_ ?_ ?_) <;> (first | exact subM.nil _ | exact subB.nil _ | exact subR.nil _ | ((repeat (first | exact subE.nil _ | refine subE.cons rfl rfl ?_ | refine subE.cons' rfl (fun _ => rfl) ?_ | (refine subE.cons rfl ?_ ?_; · (simp; done)))); done) | ((repeat (first | exact subM.nil _ | refine subM.cons rfl rfl rfl ?_)); done) | ((repeat (first | exact subB.nil _ | refine subB.cons rfl ?_)); done) | ((repeat (first | exact subR.nil _ | refine subR.cons rfl rfl ?_)); done) | omega | (dsimp only; omega) | skip))
          | ((with_reducible refine atBr ?_); (first | refine BrM.t rfl ?_ | refine BrM.f rfl ?_ | refine BrM.dec (fun _ => ?_) (fun _ => ?_) | refine BrM.mk (fun _ => ?_) (fun _ => ?_)) <;> conv => whnf)
          | ((with_reducible refine atAr ?_); refine Ar.i64 (by omega) (by omega) ?_; conv => whnf)
          | ((with_reducible refine (atCall 28) ?_); refine Nx.call [0] [0] rfl rfl rfl rfl rfl ((number_ok hG tm htm)) rfl fun v Q hQ => ?_; obtain ⟨rfl, rfl⟩ := hQ)
          | ((with_reducible refine atApp ?_); refine Nx.append 5 (sz := 1) (by_ := 16) (news := [str (itoa tm)]) rfl rfl rfl rfl rfl Tryz.underlying56 rfl rfl rfl rfl rfl (by unfold maxLen; omega) (by omega) fun A' c'' => ?_)
          | ((with_reducible refine Nx.weak (K ⟨(A', c''), trivial⟩) ?_ ?_ ?_ ?_) <;> (first | (refine subE.cons rfl rfl ?_; refine subE.cons rfl rfl ?_; refine subE.cons rfl rfl ?_; exact subE.cons rfl rfl (subE.nil _)) | exact subM.cons rfl rfl rfl (subM.nil _) | exact subB.nil _ | exact subR.cons rfl rfl (subR.cons rfl rfl (subR.cons rfl rfl (subR.cons rfl rfl (subR.nil _))))))
          | ((with_reducible refine atOps ?_); refine goR 200 ?_; conv => whnf)
          | ((with_reducible refine atPlan ?_); refine Nx.runP (n := 200) rfl (by repeat (first | exact subB.nil _ | refine subB.cons rfl ?_)) ?_; conv => whnf)
          | ((with_reducible refine atAftL ?_); refine Nx.late ?_)
          | ((fail_if_success (with_reducible refine atRet ?_)); (fail_if_success (with_reducible refine atLoop ?_)); (fail_if_success (with_reducible refine atIn ?_)); (fail_if_success (with_reducible refine atDrawn ?_)); (fail_if_success (with_reducible refine atEnd ?_)); (with_reducible refine atRun ?_); refine goR 1 ?_; conv => whnf))
      | 16, _, hf, hoe, K =>
        have hh : headW 16 o = [word 16, itoa nn] := by rw [hoe]; rfl
        rw [hh] at K
        repeat' (first
          | ((with_reducible refine Nx.weak K ?_ ?_ ?_ ?_) <;> (first | exact subM.nil _ | exact subB.nil _ | exact subR.nil _ | ((repeat (first | exact subE.nil _ | refine subE.cons rfl rfl ?_ | refine subE.cons' rfl (fun _ => rfl) ?_ | (refine subE.cons rfl ?_ ?_; · (simp; done)))); done) | ((repeat (first | exact subM.nil _ | refine subM.cons rfl rfl rfl ?_)); done) | ((repeat (first | exact subB.nil _ | refine subB.cons rfl ?_)); done) | ((repeat (first | exact subR.nil _ | refine subR.cons rfl rfl ?_)); done) | omega | (dsimp only; omega) | skip))
          | ((with_reducible refine atBr ?_); (first | refine BrM.t rfl ?_ | refine BrM.f rfl ?_ | refine BrM.dec (fun _ => ?_) (fun _ => ?_) | refine BrM.mk (fun _ => ?_) (fun _ => ?_)) <;> conv => whnf)
          | ((with_reducible refine atAr ?_); refine Ar.i64 (by omega) (by omega) ?_; conv => whnf)
          | ((with_reducible refine (atCall 28) ?_); refine Nx.call [0] [0] rfl rfl rfl rfl rfl ((number_ok hG nn hn)) rfl fun v Q hQ => ?_; obtain ⟨rfl, rfl⟩ := hQ)
          | ((with_reducible refine atApp ?_); refine Nx.append 5 (sz := 1) (by_ := 16) (news := [str (itoa nn)]) rfl rfl rfl rfl rfl Tryz.underlying56 rfl rfl rfl rfl rfl (by unfold maxLen; omega) (by omega) fun A' c'' => ?_)
          | ((with_reducible refine Nx.weak (K ⟨(A', c''), trivial⟩) ?_ ?_ ?_ ?_) <;> (first | (refine subE.cons rfl rfl ?_; refine subE.cons rfl rfl ?_; refine subE.cons rfl rfl ?_; exact subE.cons rfl rfl (subE.nil _)) | exact subM.cons rfl rfl rfl (subM.nil _) | exact subB.nil _ | exact subR.cons rfl rfl (subR.cons rfl rfl (subR.cons rfl rfl (subR.cons rfl rfl (subR.nil _))))))
          | ((with_reducible refine atOps ?_); refine goR 200 ?_; conv => whnf)
          | ((with_reducible refine atPlan ?_); refine Nx.runP (n := 200) rfl (by repeat (first | exact subB.nil _ | refine subB.cons rfl ?_)) ?_; conv => whnf)
          | ((with_reducible refine atAftL ?_); refine Nx.late ?_)
          | ((fail_if_success (with_reducible refine atRet ?_)); (fail_if_success (with_reducible refine atLoop ?_)); (fail_if_success (with_reducible refine atIn ?_)); (fail_if_success (with_reducible refine atDrawn ?_)); (fail_if_success (with_reducible refine atEnd ?_)); (with_reducible refine atRun ?_); refine goR 1 ?_; conv => whnf))
      | k + 17, hk, hf, hoe, K => exact absurd hk (by omega)
    · intro x
      obtain ⟨⟨A1, c1⟩, _⟩ := x
      simp only
      have hlh := lineW_head o hk hf.e
      have hlen := hf.len
      have hjl := hf.join hw
      have hhl := headW_len o hk
      have hne : lineW o ≠ [] := by unfold lineW; simp
      have h7 : o.after = af := by rw [hoe]
      have h8 : o.evs = es := by rw [hoe]
      have hwa := hw.after
      have hwe := hw.evs
      rw [h7] at hwa
      rw [h8] at hwe
      rw [h7, h8] at hlh
      clear hr hQ hsw hkl hwt hwu hn hri hwh htm
      by_cases k1 : 2 ≤ k ∧ k ≤ 5
      · have hal := hf.a k1
        rw [h7] at hal
        rw [if_pos k1, if_neg (by omega), List.append_nil] at hlh
        repeat' (first
          | ((with_reducible refine atBr ?_); refine BrM.yes (by omega) ?_; conv => whnf)
          | ((with_reducible refine atBr ?_); refine BrM.not (by omega) ?_; conv => whnf)
          | ((with_reducible refine atBr ?_); (first | refine BrM.t rfl ?_ | refine BrM.f rfl ?_ | refine BrM.dec (fun _ => ?_) (fun _ => ?_) | refine BrM.mk (fun _ => ?_) (fun _ => ?_)) <;> conv => whnf)
          | ((with_reducible refine atAr ?_); refine Ar.i64 (by omega) (by omega) ?_; conv => whnf)
          | ((with_reducible refine (atCall 30) ?_); refine Nx.call [] [] rfl rfl rfl rfl rfl ((behind_ok (k : Int))) rfl fun v Q hQ => ?_; obtain ⟨rfl, rfl⟩ := hQ)
          | ((with_reducible refine atOps ?_); refine go 200 ?_; conv => whnf)
          | ((with_reducible refine atPlan ?_); refine Nx.runP (n := 200) rfl (by repeat (first | exact subB.nil _ | refine subB.cons rfl ?_)) ?_; conv => whnf)
          | ((with_reducible refine atAftL ?_); refine Nx.late ?_)
          | ((fail_if_success (with_reducible refine atRet ?_)); (fail_if_success (with_reducible refine atLoop ?_)); (fail_if_success (with_reducible refine atIn ?_)); (fail_if_success (with_reducible refine atDrawn ?_)); (fail_if_success (with_reducible refine atEnd ?_)); (with_reducible refine atRun ?_); refine go 200 ?_; conv => whnf))
        refine Nx.loop (X := PnX) (PnI (headW k o) itoa af) (fun x => af.length - x.j)
          (fun x => [(1, .c (.loc 1 0)), (5, sl x.A x.l.length x.c), (107, sl A af.length c), (108, iv af.length), (109, iv x.j)]) (fun x => [(1, 37, (lnE (k : Int) wh ri nn tm wy af.length A c es.length B d).map .v)]) []
          (fun x => [(0, roAll m), (1, S1), (2, S2), (5, ownS 9 x.A x.l.length x.c 1 (strs x.l))]) ⟨0, headW k o, A1, c1⟩ ⟨Nat.zero_le _, by simp⟩ ?_ ?_ ?_ ?_ ?_
        · repeat (first | exact subE.nil _ | refine subE.cons rfl rfl ?_ | refine subE.cons' rfl (fun _ => rfl) ?_)
        · repeat (first | exact subM.nil _ | refine subM.cons rfl rfl rfl ?_)
        · repeat (first | exact subB.nil _ | refine subB.cons rfl ?_)
        · repeat (first | exact subR.nil _ | refine subR.cons rfl rfl ?_)
        intro x hx ih
        have hxl := hx.len
        by_cases hlt : x.j < af.length
        · have hx64 := hwa _ (List.getElem_mem hlt)
          have nx := hx.step hlt
          repeat' (first
            | ((with_reducible refine atBr ?_); refine BrM.yes (by omega) ?_; conv => whnf)
            | ((with_reducible refine atAr ?_); refine Ar.to (k := .i64) (((x.j+1:Nat):Int)) (by omega) ⟨by omega, by omega⟩ ?_; conv => whnf)
            | ((with_reducible refine atBr ?_); (first | refine BrM.t rfl ?_ | refine BrM.f rfl ?_ | refine BrM.dec (fun _ => ?_) (fun _ => ?_) | refine BrM.mk (fun _ => ?_) (fun _ => ?_)) <;> conv => whnf)
            | ((with_reducible refine atAr ?_); refine Ar.i64 (by omega) (by omega) ?_; conv => whnf)
            | ((with_reducible refine atIdx ?_); refine Nx.idx 1 rfl rfl rfl Tryz.underlying25 rfl rfl rfl int_len h1 rfl rfl (by omega) fun _ _ _ => ?_)
            | ((with_reducible refine atLoad ?_); first | (refine Nx.load1 1 rfl rfl rfl rfl (SeesAt.sub (by assumption) _ rfl) rfl ?_) | (refine Nx.load1 1 rfl rfl rfl rfl (by assumption) rfl ?_) | (refine Nx.load 1 rfl rfl rfl rfl (by assumption) rfl rfl ?_))
            | ((with_reducible refine (atCall 28) ?_); refine Nx.call [0] [0] rfl rfl rfl rfl rfl ((number_ok hG af[x.j] hx64)) rfl fun v Q hQ => ?_; obtain ⟨rfl, rfl⟩ := hQ)
            | ((with_reducible refine atApp ?_); refine Nx.append 5 (sz := 1) (by_ := 16) (news := [str (itoa af[x.j])]) rfl rfl rfl rfl rfl Tryz.underlying56 rfl rfl rfl rfl rfl (by unfold maxLen; omega) (by omega) fun A' c'' => ?_)
            | ((with_reducible refine atOps ?_); refine go 200 ?_; conv => whnf)
            | ((with_reducible refine atPlan ?_); refine Nx.runP (n := 200) rfl (by repeat (first | exact subB.nil _ | refine subB.cons rfl ?_)) ?_; conv => whnf)
            | ((with_reducible refine atAftL ?_); refine Nx.late ?_)
            | ((fail_if_success (with_reducible refine atRet ?_)); (fail_if_success (with_reducible refine atLoop ?_)); (fail_if_success (with_reducible refine atIn ?_)); (fail_if_success (with_reducible refine atDrawn ?_)); (fail_if_success (with_reducible refine atEnd ?_)); (with_reducible refine atRun ?_); refine go 200 ?_; conv => whnf))
          refine (ih _ (nx A' c'') (by show af.length - (x.j + 1) < af.length - x.j; omega)).weak ?_ ?_ ?_ ?_
          · exact .cons rfl rfl (.cons rfl (by simp) (.cons rfl rfl (.cons rfl rfl (.cons rfl rfl (.nil _)))))
          · repeat (first | exact subM.nil _ | refine subM.cons rfl rfl rfl ?_)
          · repeat (first | exact subB.nil _ | refine subB.cons rfl ?_)
          · exact .cons rfl rfl (.cons rfl rfl (.cons rfl rfl (.cons rfl (by simp) (.nil _))))
        · have hfin : x.l = lineW o := by rw [hx.fin hlt, hlh]
          rw [hfin]
          clear ih
          refine Nx.fact 5 (p := (lineW o).length ≤ x.c ∧ x.c ≤ maxLen) rfl (fun r h hs => ownS_fit hs) fun ⟨hfit, _⟩ => ?_
          repeat' (first
            | ((with_reducible refine atBr ?_); refine BrM.not (by omega) ?_; conv => whnf)
            | ((with_reducible refine atBr ?_); (first | refine BrM.t rfl ?_ | refine BrM.f rfl ?_ | refine BrM.dec (fun _ => ?_) (fun _ => ?_) | refine BrM.mk (fun _ => ?_) (fun _ => ?_)) <;> conv => whnf)
            | ((with_reducible refine atAr ?_); refine Ar.i64 (by omega) (by omega) ?_; conv => whnf)
            | ((with_reducible refine (atCall 32) ?_); refine Nx.call [5] [5] rfl rfl rfl rfl rfl ((Join_ok x.A x.c (lineW o) hne (ownS_sees 9 x.A (lineW o).length x.c 1 (strs (lineW o))) (by omega) hfit (by omega))) rfl fun v Q hQ => ?_; obtain ⟨rfl, rfl⟩ := hQ)
            | ((with_reducible refine atRet ?_); refine Nx.ret [0,1,2] Tryz.func11 rfl rfl ?_; (exact ⟨rfl, rfl⟩))
            | ((with_reducible refine atOps ?_); refine go 200 ?_; conv => whnf)
            | ((with_reducible refine atPlan ?_); refine Nx.runP (n := 200) rfl (by repeat (first | exact subB.nil _ | refine subB.cons rfl ?_)) ?_; conv => whnf)
            | ((with_reducible refine atAftL ?_); refine Nx.late ?_)
            | ((fail_if_success (with_reducible refine atRet ?_)); (fail_if_success (with_reducible refine atLoop ?_)); (fail_if_success (with_reducible refine atIn ?_)); (fail_if_success (with_reducible refine atDrawn ?_)); (fail_if_success (with_reducible refine atEnd ?_)); (with_reducible refine atRun ?_); refine go 200 ?_; conv => whnf))
      · rw [if_neg k1, List.append_nil] at hlh
        by_cases k2 : k = 6 ∨ k = 7
        · have hel := hf.v k2
          rw [h8] at hel
          rw [if_pos k2] at hlh
          rcases k2 with k2 | k2
          · have hd6 : (k : Int) = 6 := by omega
            repeat' (first
              | ((with_reducible refine atBr ?_); refine BrM.yes (by omega) ?_; conv => whnf)
              | ((with_reducible refine atBr ?_); refine BrM.not (by omega) ?_; conv => whnf)
              | ((with_reducible refine atBr ?_); (first | refine BrM.t rfl ?_ | refine BrM.f rfl ?_ | refine BrM.dec (fun _ => ?_) (fun _ => ?_) | refine BrM.mk (fun _ => ?_) (fun _ => ?_)) <;> conv => whnf)
              | ((with_reducible refine atAr ?_); refine Ar.i64 (by omega) (by omega) ?_; conv => whnf)
              | ((with_reducible refine (atCall 30) ?_); refine Nx.call [] [] rfl rfl rfl rfl rfl ((behind_ok (k : Int))) rfl fun v Q hQ => ?_; obtain ⟨rfl, rfl⟩ := hQ)
              | ((with_reducible refine atOps ?_); refine go 200 ?_; conv => whnf)
              | ((with_reducible refine atPlan ?_); refine Nx.runP (n := 200) rfl (by repeat (first | exact subB.nil _ | refine subB.cons rfl ?_)) ?_; conv => whnf)
              | ((with_reducible refine atAftL ?_); refine Nx.late ?_)
              | ((fail_if_success (with_reducible refine atRet ?_)); (fail_if_success (with_reducible refine atLoop ?_)); (fail_if_success (with_reducible refine atIn ?_)); (fail_if_success (with_reducible refine atDrawn ?_)); (fail_if_success (with_reducible refine atEnd ?_)); (with_reducible refine atRun ?_); refine go 200 ?_; conv => whnf))
            refine Nx.loop (X := PnX) (PnI (headW k o) evW es) (fun x => es.length - x.j)
              (fun x => [(1, .c (.loc 1 0)), (5, sl x.A x.l.length x.c), (128, sl B es.length d), (129, iv es.length), (130, iv x.j)]) (fun x => [(1, 37, (lnE (k : Int) wh ri nn tm wy af.length A c es.length B d).map .v)]) []
              (fun x => [(0, roAll m), (1, S1), (2, S2), (5, ownS 9 x.A x.l.length x.c 1 (strs x.l))]) ⟨0, headW k o, A1, c1⟩ ⟨Nat.zero_le _, by simp⟩ ?_ ?_ ?_ ?_ ?_
            · repeat (first | exact subE.nil _ | refine subE.cons rfl rfl ?_ | refine subE.cons' rfl (fun _ => rfl) ?_)
            · repeat (first | exact subM.nil _ | refine subM.cons rfl rfl rfl ?_)
            · repeat (first | exact subB.nil _ | refine subB.cons rfl ?_)
            · repeat (first | exact subR.nil _ | refine subR.cons rfl rfl ?_)
            intro x hx ih
            have hxl := hx.len
            by_cases hlt : x.j < es.length
            · have hx64 := hwe _ (List.getElem_mem hlt)
              have nx := hx.step hlt
              repeat' (first
                | ((with_reducible refine atBr ?_); refine BrM.yes (by omega) ?_; conv => whnf)
                | ((with_reducible refine atAr ?_); refine Ar.to (k := .i64) (((x.j+1:Nat):Int)) (by omega) ⟨by omega, by omega⟩ ?_; conv => whnf)
                | ((with_reducible refine atBr ?_); (first | refine BrM.t rfl ?_ | refine BrM.f rfl ?_ | refine BrM.dec (fun _ => ?_) (fun _ => ?_) | refine BrM.mk (fun _ => ?_) (fun _ => ?_)) <;> conv => whnf)
                | ((with_reducible refine atAr ?_); refine Ar.i64 (by omega) (by omega) ?_; conv => whnf)
                | ((with_reducible refine atIdx ?_); refine Nx.idx 2 rfl rfl rfl Tryz.underlying26 rfl rfl rfl evC_len h2 rfl rfl (by omega) fun _ _ _ => ?_)
                | ((with_reducible refine atLoad ?_); first | (refine Nx.load1 2 rfl rfl rfl rfl (SeesAt.sub (by assumption) _ rfl) rfl ?_) | (refine Nx.load1 2 rfl rfl rfl rfl (by assumption) rfl ?_) | (refine Nx.load 2 rfl rfl rfl rfl (by assumption) rfl rfl ?_))
                | ((with_reducible refine (atCall 31) ?_); refine Nx.call [0] [0] rfl rfl rfl rfl rfl ((event_ok hG es[x.j] hx64)) rfl fun v Q hQ => ?_; obtain ⟨rfl, rfl⟩ := hQ)
                | ((with_reducible refine atApp ?_); refine Nx.append 5 (sz := 1) (by_ := 16) (news := [str (evW es[x.j])]) rfl rfl rfl rfl rfl Tryz.underlying56 rfl rfl rfl rfl rfl (by unfold maxLen; omega) (by omega) fun A' c'' => ?_)
                | ((with_reducible refine atOps ?_); refine go 200 ?_; conv => whnf)
                | ((with_reducible refine atPlan ?_); refine Nx.runP (n := 200) rfl (by repeat (first | exact subB.nil _ | refine subB.cons rfl ?_)) ?_; conv => whnf)
                | ((with_reducible refine atAftL ?_); refine Nx.late ?_)
                | ((fail_if_success (with_reducible refine atRet ?_)); (fail_if_success (with_reducible refine atLoop ?_)); (fail_if_success (with_reducible refine atIn ?_)); (fail_if_success (with_reducible refine atDrawn ?_)); (fail_if_success (with_reducible refine atEnd ?_)); (with_reducible refine atRun ?_); refine go 200 ?_; conv => whnf))
              refine (ih _ (nx A' c'') (by show es.length - (x.j + 1) < es.length - x.j; omega)).weak ?_ ?_ ?_ ?_
              · exact .cons rfl rfl (.cons rfl (by simp) (.cons rfl rfl (.cons rfl rfl (.cons rfl rfl (.nil _)))))
              · repeat (first | exact subM.nil _ | refine subM.cons rfl rfl rfl ?_)
              · repeat (first | exact subB.nil _ | refine subB.cons rfl ?_)
              · exact .cons rfl rfl (.cons rfl rfl (.cons rfl rfl (.cons rfl (by simp) (.nil _))))
            · have hfin : x.l = lineW o := by rw [hx.fin hlt, hlh]
              rw [hfin]
              clear ih
              refine Nx.fact 5 (p := (lineW o).length ≤ x.c ∧ x.c ≤ maxLen) rfl (fun r h hs => ownS_fit hs) fun ⟨hfit, _⟩ => ?_
              repeat' (first
                | ((with_reducible refine atBr ?_); refine BrM.not (by omega) ?_; conv => whnf)
                | ((with_reducible refine atBr ?_); (first | refine BrM.t rfl ?_ | refine BrM.f rfl ?_ | refine BrM.dec (fun _ => ?_) (fun _ => ?_) | refine BrM.mk (fun _ => ?_) (fun _ => ?_)) <;> conv => whnf)
                | ((with_reducible refine atAr ?_); refine Ar.i64 (by omega) (by omega) ?_; conv => whnf)
                | ((with_reducible refine (atCall 32) ?_); refine Nx.call [5] [5] rfl rfl rfl rfl rfl ((Join_ok x.A x.c (lineW o) hne (ownS_sees 9 x.A (lineW o).length x.c 1 (strs (lineW o))) (by omega) hfit (by omega))) rfl fun v Q hQ => ?_; obtain ⟨rfl, rfl⟩ := hQ)
                | ((with_reducible refine atRet ?_); refine Nx.ret [0,1,2] Tryz.func11 rfl rfl ?_; (exact ⟨rfl, rfl⟩))
                | ((with_reducible refine atOps ?_); refine go 200 ?_; conv => whnf)
                | ((with_reducible refine atPlan ?_); refine Nx.runP (n := 200) rfl (by repeat (first | exact subB.nil _ | refine subB.cons rfl ?_)) ?_; conv => whnf)
                | ((with_reducible refine atAftL ?_); refine Nx.late ?_)
                | ((fail_if_success (with_reducible refine atRet ?_)); (fail_if_success (with_reducible refine atLoop ?_)); (fail_if_success (with_reducible refine atIn ?_)); (fail_if_success (with_reducible refine atDrawn ?_)); (fail_if_success (with_reducible refine atEnd ?_)); (with_reducible refine atRun ?_); refine go 200 ?_; conv => whnf))
          · have hd6 : (k : Int) = 7 := by omega
            repeat' (first
              | ((with_reducible refine atBr ?_); refine BrM.yes (by omega) ?_; conv => whnf)
              | ((with_reducible refine atBr ?_); refine BrM.not (by omega) ?_; conv => whnf)
              | ((with_reducible refine atBr ?_); (first | refine BrM.t rfl ?_ | refine BrM.f rfl ?_ | refine BrM.dec (fun _ => ?_) (fun _ => ?_) | refine BrM.mk (fun _ => ?_) (fun _ => ?_)) <;> conv => whnf)
              | ((with_reducible refine atAr ?_); refine Ar.i64 (by omega) (by omega) ?_; conv => whnf)
              | ((with_reducible refine (atCall 30) ?_); refine Nx.call [] [] rfl rfl rfl rfl rfl ((behind_ok (k : Int))) rfl fun v Q hQ => ?_; obtain ⟨rfl, rfl⟩ := hQ)
              | ((with_reducible refine atOps ?_); refine go 200 ?_; conv => whnf)
              | ((with_reducible refine atPlan ?_); refine Nx.runP (n := 200) rfl (by repeat (first | exact subB.nil _ | refine subB.cons rfl ?_)) ?_; conv => whnf)
              | ((with_reducible refine atAftL ?_); refine Nx.late ?_)
              | ((fail_if_success (with_reducible refine atRet ?_)); (fail_if_success (with_reducible refine atLoop ?_)); (fail_if_success (with_reducible refine atIn ?_)); (fail_if_success (with_reducible refine atDrawn ?_)); (fail_if_success (with_reducible refine atEnd ?_)); (with_reducible refine atRun ?_); refine go 200 ?_; conv => whnf))
            refine Nx.loop (X := PnX) (PnI (headW k o) evW es) (fun x => es.length - x.j)
              (fun x => [(1, .c (.loc 1 0)), (5, sl x.A x.l.length x.c), (128, sl B es.length d), (129, iv es.length), (130, iv x.j)]) (fun x => [(1, 37, (lnE (k : Int) wh ri nn tm wy af.length A c es.length B d).map .v)]) []
              (fun x => [(0, roAll m), (1, S1), (2, S2), (5, ownS 9 x.A x.l.length x.c 1 (strs x.l))]) ⟨0, headW k o, A1, c1⟩ ⟨Nat.zero_le _, by simp⟩ ?_ ?_ ?_ ?_ ?_
            · repeat (first | exact subE.nil _ | refine subE.cons rfl rfl ?_ | refine subE.cons' rfl (fun _ => rfl) ?_)
            · repeat (first | exact subM.nil _ | refine subM.cons rfl rfl rfl ?_)
            · repeat (first | exact subB.nil _ | refine subB.cons rfl ?_)
            · repeat (first | exact subR.nil _ | refine subR.cons rfl rfl ?_)
            intro x hx ih
            have hxl := hx.len
            by_cases hlt : x.j < es.length
            · have hx64 := hwe _ (List.getElem_mem hlt)
              have nx := hx.step hlt
              repeat' (first
                | ((with_reducible refine atBr ?_); refine BrM.yes (by omega) ?_; conv => whnf)
                | ((with_reducible refine atAr ?_); refine Ar.to (k := .i64) (((x.j+1:Nat):Int)) (by omega) ⟨by omega, by omega⟩ ?_; conv => whnf)
                | ((with_reducible refine atBr ?_); (first | refine BrM.t rfl ?_ | refine BrM.f rfl ?_ | refine BrM.dec (fun _ => ?_) (fun _ => ?_) | refine BrM.mk (fun _ => ?_) (fun _ => ?_)) <;> conv => whnf)
                | ((with_reducible refine atAr ?_); refine Ar.i64 (by omega) (by omega) ?_; conv => whnf)
                | ((with_reducible refine atIdx ?_); refine Nx.idx 2 rfl rfl rfl Tryz.underlying26 rfl rfl rfl evC_len h2 rfl rfl (by omega) fun _ _ _ => ?_)
                | ((with_reducible refine atLoad ?_); first | (refine Nx.load1 2 rfl rfl rfl rfl (SeesAt.sub (by assumption) _ rfl) rfl ?_) | (refine Nx.load1 2 rfl rfl rfl rfl (by assumption) rfl ?_) | (refine Nx.load 2 rfl rfl rfl rfl (by assumption) rfl rfl ?_))
                | ((with_reducible refine (atCall 31) ?_); refine Nx.call [0] [0] rfl rfl rfl rfl rfl ((event_ok hG es[x.j] hx64)) rfl fun v Q hQ => ?_; obtain ⟨rfl, rfl⟩ := hQ)
                | ((with_reducible refine atApp ?_); refine Nx.append 5 (sz := 1) (by_ := 16) (news := [str (evW es[x.j])]) rfl rfl rfl rfl rfl Tryz.underlying56 rfl rfl rfl rfl rfl (by unfold maxLen; omega) (by omega) fun A' c'' => ?_)
                | ((with_reducible refine atOps ?_); refine go 200 ?_; conv => whnf)
                | ((with_reducible refine atPlan ?_); refine Nx.runP (n := 200) rfl (by repeat (first | exact subB.nil _ | refine subB.cons rfl ?_)) ?_; conv => whnf)
                | ((with_reducible refine atAftL ?_); refine Nx.late ?_)
                | ((fail_if_success (with_reducible refine atRet ?_)); (fail_if_success (with_reducible refine atLoop ?_)); (fail_if_success (with_reducible refine atIn ?_)); (fail_if_success (with_reducible refine atDrawn ?_)); (fail_if_success (with_reducible refine atEnd ?_)); (with_reducible refine atRun ?_); refine go 200 ?_; conv => whnf))
              refine (ih _ (nx A' c'') (by show es.length - (x.j + 1) < es.length - x.j; omega)).weak ?_ ?_ ?_ ?_
              · exact .cons rfl rfl (.cons rfl (by simp) (.cons rfl rfl (.cons rfl rfl (.cons rfl rfl (.nil _)))))
              · repeat (first | exact subM.nil _ | refine subM.cons rfl rfl rfl ?_)
              · repeat (first | exact subB.nil _ | refine subB.cons rfl ?_)
              · exact .cons rfl rfl (.cons rfl rfl (.cons rfl rfl (.cons rfl (by simp) (.nil _))))
            · have hfin : x.l = lineW o := by rw [hx.fin hlt, hlh]
              rw [hfin]
              clear ih
              refine Nx.fact 5 (p := (lineW o).length ≤ x.c ∧ x.c ≤ maxLen) rfl (fun r h hs => ownS_fit hs) fun ⟨hfit, _⟩ => ?_
              repeat' (first
                | ((with_reducible refine atBr ?_); refine BrM.not (by omega) ?_; conv => whnf)
                | ((with_reducible refine atBr ?_); (first | refine BrM.t rfl ?_ | refine BrM.f rfl ?_ | refine BrM.dec (fun _ => ?_) (fun _ => ?_) | refine BrM.mk (fun _ => ?_) (fun _ => ?_)) <;> conv => whnf)
                | ((with_reducible refine atAr ?_); refine Ar.i64 (by omega) (by omega) ?_; conv => whnf)
                | ((with_reducible refine (atCall 32) ?_); refine Nx.call [5] [5] rfl rfl rfl rfl rfl ((Join_ok x.A x.c (lineW o) hne (ownS_sees 9 x.A (lineW o).length x.c 1 (strs (lineW o))) (by omega) hfit (by omega))) rfl fun v Q hQ => ?_; obtain ⟨rfl, rfl⟩ := hQ)
                | ((with_reducible refine atRet ?_); refine Nx.ret [0,1,2] Tryz.func11 rfl rfl ?_; (exact ⟨rfl, rfl⟩))
                | ((with_reducible refine atOps ?_); refine go 200 ?_; conv => whnf)
                | ((with_reducible refine atPlan ?_); refine Nx.runP (n := 200) rfl (by repeat (first | exact subB.nil _ | refine subB.cons rfl ?_)) ?_; conv => whnf)
                | ((with_reducible refine atAftL ?_); refine Nx.late ?_)
                | ((fail_if_success (with_reducible refine atRet ?_)); (fail_if_success (with_reducible refine atLoop ?_)); (fail_if_success (with_reducible refine atIn ?_)); (fail_if_success (with_reducible refine atDrawn ?_)); (fail_if_success (with_reducible refine atEnd ?_)); (with_reducible refine atRun ?_); refine go 200 ?_; conv => whnf))
        · rw [if_neg k2, List.append_nil] at hlh
          rw [← hlh]
          refine Nx.fact 5 (p := (lineW o).length ≤ c1 ∧ c1 ≤ maxLen) rfl (fun r h hs => ownS_fit hs) fun ⟨hfit, _⟩ => ?_
          repeat' (first
            | ((with_reducible refine atBr ?_); refine BrM.not (by omega) ?_; conv => whnf)
            | ((with_reducible refine atBr ?_); (first | refine BrM.t rfl ?_ | refine BrM.f rfl ?_ | refine BrM.dec (fun _ => ?_) (fun _ => ?_) | refine BrM.mk (fun _ => ?_) (fun _ => ?_)) <;> conv => whnf)
            | ((with_reducible refine atAr ?_); refine Ar.i64 (by omega) (by omega) ?_; conv => whnf)
            | ((with_reducible refine (atCall 30) ?_); refine Nx.call [] [] rfl rfl rfl rfl rfl ((behind_ok (k : Int))) rfl fun v Q hQ => ?_; obtain ⟨rfl, rfl⟩ := hQ)
            | ((with_reducible refine (atCall 32) ?_); refine Nx.call [5] [5] rfl rfl rfl rfl rfl ((Join_ok A1 c1 (lineW o) hne (ownS_sees 9 A1 (lineW o).length c1 1 (strs (lineW o))) (by omega) hfit (by omega))) rfl fun v Q hQ => ?_; obtain ⟨rfl, rfl⟩ := hQ)
            | ((with_reducible refine atRet ?_); refine Nx.ret [0,1,2] Tryz.func11 rfl rfl ?_; (exact ⟨rfl, rfl⟩))
            | ((with_reducible refine atOps ?_); refine go 200 ?_; conv => whnf)
            | ((with_reducible refine atPlan ?_); refine Nx.runP (n := 200) rfl (by repeat (first | exact subB.nil _ | refine subB.cons rfl ?_)) ?_; conv => whnf)
            | ((with_reducible refine atAftL ?_); refine Nx.late ?_)
            | ((fail_if_success (with_reducible refine atRet ?_)); (fail_if_success (with_reducible refine atLoop ?_)); (fail_if_success (with_reducible refine atIn ?_)); (fail_if_success (with_reducible refine atDrawn ?_)); (fail_if_success (with_reducible refine atEnd ?_)); (with_reducible refine atRun ?_); refine go 200 ?_; conv => whnf))
  · have hpr := print_wrong hwr
    rw [hpr]
    have hr := right_ok o A B c d
    refine FnOk.start Tryz.func11 rfl rfl rfl rfl fun F os tape output => ?_
    refine go 200 ?_
    conv => whnf
    refine Nx.call [] [9] rfl rfl rfl rfl rfl (hr) rfl fun v Q hQ => ?_
    rcases hQ with ⟨hQ, _⟩ | ⟨_, b, q, rfl, rfl⟩
    · exact absurd hQ hwr
    repeat' (first
      | ((with_reducible refine atBr ?_); (first | refine BrM.t rfl ?_ | refine BrM.f rfl ?_ | refine BrM.dec (fun _ => ?_) (fun _ => ?_) | refine BrM.mk (fun _ => ?_) (fun _ => ?_)) <;> conv => whnf)
      | ((with_reducible refine atAr ?_); refine Ar.i64 (by omega) (by omega) ?_; conv => whnf)
      | ((with_reducible refine atRet ?_); refine Nx.ret [0,1,2,9] Tryz.func11 rfl rfl ?_; (exact ⟨_, _, rfl, rfl⟩))
      | ((with_reducible refine atOps ?_); refine go 200 ?_; conv => whnf)
      | ((with_reducible refine atPlan ?_); refine Nx.runP (n := 200) rfl (by repeat (first | exact subB.nil _ | refine subB.cons rfl ?_)) ?_; conv => whnf)
      | ((with_reducible refine atAftL ?_); refine Nx.late ?_)
      | ((fail_if_success (with_reducible refine atRet ?_)); (fail_if_success (with_reducible refine atLoop ?_)); (fail_if_success (with_reducible refine atIn ?_)); (fail_if_success (with_reducible refine atDrawn ?_)); (fail_if_success (with_reducible refine atEnd ?_)); (with_reducible refine atRun ?_); refine go 200 ?_; conv => whnf))
end Go.Proofs.YtkfnbpbhcnekiaaGreatDoor

/- Which fields a deed has. -/
namespace Go.Proofs.YtkfnbpbhcnekiaaGreatDoor
open Go.RowKit Go.Lib
attribute [local irreducible] Nx Ar BrM
set_option maxRecDepth 20000
set_option maxHeartbeats 4000000

def hasD (k : Nat) (n : Int) : Bool := decide (UInt8.ofNat n.toNat ∈ shape k)
theorem has_n {k : Nat} (hk : k < 17) (n : Int) (h0 : 0 ≤ n ∧ n ≤ 255) : FnOk Tryz.prog 34 [str (shape k), .int .u8 n] [] (fun v Q => v = .bool (hasD k n) ∧ Q = []) := by
  have hl : (shape k).length ≤ 4 := (by decide : ∀ k < 17, (shape k).length ≤ 4) k hk
  have := has_ok (shape k) (UInt8.ofNat n.toNat) (by omega)
  have e : ((UInt8.ofNat n.toNat).toNat : Int) = n := by rw [UInt8.toNat_ofNat']; omega
  rw [e] at this
  exact this
theorem hd110 {k : Nat} (hk : k < 17) : hasD k 110 = decide (k = 0 ∨ k = 2 ∨ k = 3 ∨ k = 8 ∨ k = 10 ∨ k = 16) := decide_eq_decide.2 ((by decide : ∀ k < 17, ((110 : UInt8) ∈ shape k ↔ k = 0 ∨ k = 2 ∨ k = 3 ∨ k = 8 ∨ k = 10 ∨ k = 16)) k hk)
theorem hd107 {k : Nat} (hk : k < 17) : hasD k 107 = decide (k = 0) := decide_eq_decide.2 ((by decide : ∀ k < 17, ((107 : UInt8) ∈ shape k ↔ k = 0)) k hk)
theorem hd114 {k : Nat} (hk : k < 17) : hasD k 114 = decide (1 ≤ k ∧ k ≤ 4) := decide_eq_decide.2 ((by decide : ∀ k < 17, ((114 : UInt8) ∈ shape k ↔ 1 ≤ k ∧ k ≤ 4)) k hk)
theorem hd119 {k : Nat} (hk : k < 17) : hasD k 119 = decide (1 ≤ k ∧ k ≤ 4) := decide_eq_decide.2 ((by decide : ∀ k < 17, ((119 : UInt8) ∈ shape k ↔ 1 ≤ k ∧ k ≤ 4)) k hk)
theorem hd104 {k : Nat} (hk : k < 17) : hasD k 104 = decide (6 ≤ k ∧ k ≤ 14) := decide_eq_decide.2 ((by decide : ∀ k < 17, ((104 : UInt8) ∈ shape k ↔ 6 ≤ k ∧ k ≤ 14)) k hk)
theorem hd116 {k : Nat} (hk : k < 17) : hasD k 116 = decide (k = 15) := decide_eq_decide.2 ((by decide : ∀ k < 17, ((116 : UInt8) ∈ shape k ↔ k = 15)) k hk)
theorem hd97 {k : Nat} (hk : k < 17) : hasD k 97 = decide (2 ≤ k ∧ k ≤ 5) := decide_eq_decide.2 ((by decide : ∀ k < 17, ((97 : UInt8) ∈ shape k ↔ 2 ≤ k ∧ k ≤ 5)) k hk)
theorem hd101 {k : Nat} (hk : k < 17) : hasD k 101 = decide (k = 6 ∨ k = 7) := decide_eq_decide.2 ((by decide : ∀ k < 17, ((101 : UInt8) ∈ shape k ↔ k = 6 ∨ k = 7)) k hk)
end Go.Proofs.YtkfnbpbhcnekiaaGreatDoor

/- Plain laws: what is printed is read as it was, and the other way round; ticks. -/
namespace Go.Proofs.YtkfnbpbhcnekiaaGreatDoor
open Go.Lib

def tickW : Str := [116, 105, 99, 107]
theorem split_one {c : UInt8} {s w : Str} (h : splitC c s = [w]) : c ∉ s ∧ w = s := by
  have h1 := joinC_split c s
  have h2 := splitC_no_mem (c := c) (s := s) w (by rw [h]; simp)
  rw [h] at h1
  have h1 : w = s := h1
  subst h1
  exact ⟨h2, rfl⟩
theorem numOf_no32 {s : Str} (h : (32 : UInt8) ∈ s) : numOf s = none := numOf_none fun v _ h2 => by
  rw [← h2] at h
  exact no32 v h
theorem parse_tick (t : Str) (h : t.length ≤ 3000) : parseA (tickW ++ 32 :: t) = match numOf t with | some v => .ok { Ln.zero with deed := 15, at_ := v } | none => .error 6 := by
  have hs : splitC 32 (tickW ++ 32 :: t) = tickW :: splitC 32 t := splitC_append t (by decide)
  have hd : deedOf tickW = some 15 := by decide
  have hsh : shape 15 = [116] := rfl
  unfold parseA
  rw [if_neg (by simp [tickW]; omega), hs]
  simp only [hd, hsh]
  rw [readF_num (by decide) (by decide) (by decide) (by decide)]
  by_cases hm : (32 : UInt8) ∈ t
  · rw [numOf_no32 hm]
    simp only
    cases hsp : splitC 32 t with
    | nil => exact absurd hsp (splitC_ne _ _)
    | cons w r =>
      cases r with
      | nil => exact absurd hm (split_one hsp).1
      | cons u r =>
        simp only [List.headD_cons, List.tail_cons]
        cases numOf w with
        | none => rfl
        | some v => simp only; rw [readF_end, if_neg (by simp)]
  · rw [splitC_no hm]
    simp only [List.headD_cons, List.tail_cons]
    cases numOf t with
    | none => rfl
    | some v => simp only; rw [readF_end, if_pos rfl]; rfl

theorem zero_wf (k : Int) (h : I64n k) : Ln.wf { Ln.zero with deed := k } := by
  refine ⟨h, ?_, ?_, ?_, ?_, ?_, ?_, ?_, ?_, ?_⟩
  any_goals (show I64n 0; unfold I64n; omega)
  · intro x hx; cases hx
  · intro x hx; cases hx
theorem numOf_wf {s : Str} {v : Int} (h : numOf s = some v) : I64n v := (numOf_some h).2
theorem readWay_back {s : Str} {w : Way} (h : readWay s = some w) : wayW w = s ∧ (0 ≤ w.kind ∧ w.kind ≤ 3) ∧ I64n w.kind ∧ I64n w.tries ∧ I64n w.time := by
  have z : I64n 0 := by unfold I64n; omega
  unfold readWay at h
  split at h
  · rename_i e; cases h
    exact ⟨e.symm, by decide, z, z, z⟩
  split at h
  · rename_i e; cases h
    exact ⟨e.symm, by decide, by unfold I64n; decide, z, z⟩
  split at h
  · cases h
  rename_i a b hp
  have hs := (pairC_some.1 hp).1
  split at h
  · cases h
  rename_i n hn
  obtain ⟨h1, h2⟩ := numOf_some hn
  split at h
  · rename_i e; cases h
    refine ⟨?_, (by decide : (0:Int) ≤ 1 ∧ (1:Int) ≤ 3), (by unfold I64n; decide : I64n 1), h2, z⟩
    show yieldW ++ itoa n = s
    rw [h1, hs, e]; rfl
  split at h
  · rename_i e; cases h
    refine ⟨?_, (by decide : (0:Int) ≤ 3 ∧ (3:Int) ≤ 3), (by unfold I64n; decide : I64n 3), z, h2⟩
    show timedW ++ itoa n = s
    rw [h1, hs, e]; rfl
  · cases h
theorem readEv_back {s : Str} {x : Ev} (h : readEv s = some x) : evW x = s ∧ I64n x.key ∧ I64n x.val := by
  unfold readEv at h
  split at h
  · cases h
  rename_i a b hp
  have hs := (pairC_some.1 hp).1
  split at h
  · rename_i x y hx hy
    cases h
    obtain ⟨h1, h2⟩ := numOf_some hx
    obtain ⟨h3, h4⟩ := numOf_some hy
    refine ⟨?_, h2, h4⟩
    show itoa x ++ 58 :: itoa y = s
    rw [h1, h3, hs]
  · cases h
theorem readK_back {s : Str} {r : Int} (h : readK s = some r) : ringName r = s ∧ (r = 0 ∨ r = 1) := by
  unfold readK at h
  split at h
  · rename_i e; cases h; exact ⟨e.symm, .inl rfl⟩
  split at h
  · rename_i e; cases h; exact ⟨e.symm, .inr rfl⟩
  · cases h
/-- What a reader of fields has read. -/
structure Back (k : Nat) (ws : List Str) (o : Ln) : Prop where
  e : o.deed = k
  ws : (shape k).flatMap (fieldW o) = ws
  wf : o.wf
  r : 107 ∈ shape k → o.ring = 0 ∨ o.ring = 1
  w : 119 ∈ shape k → 0 ≤ o.way.kind ∧ o.way.kind ≤ 3
  a : 97 ∈ shape k → o.after.length ≤ 64
  v : 101 ∈ shape k → o.evs.length ≤ 64
  p : plainA o = o
theorem ws_cons {ws : List Str} {x : Str} (h : ws.headD [] = x) (hx : x ≠ []) : ws = x :: ws.tail := by
  cases ws with
  | nil => exact absurd h.symm hx
  | cons a r => rw [List.headD_cons] at h; rw [h]; rfl
theorem step_n {ws : List Str} {n : Int} (h : numOf (ws.headD []) = some n) : ws = itoa n :: ws.tail ∧ I64n n := by
  obtain ⟨h1, h2⟩ := numOf_some h
  exact ⟨ws_cons h1.symm (itoa_ne n), h2⟩
theorem wayW_ne (w : Way) : wayW w ≠ [] := by
  unfold wayW
  split
  · simp [yieldW]
  · split
    · simp [timedW]
    · unfold kindName
      split
      · rename_i h
        have : w.kind.toNat = 0 ∨ w.kind.toNat = 1 ∨ w.kind.toNat = 2 ∨ w.kind.toNat = 3 := by omega
        rcases this with e | e | e | e <;> rw [e] <;> simp [kindL]
      · simp
theorem step_w {ws : List Str} {w : Way} (h : readWay (ws.headD []) = some w) : ws = wayW w :: ws.tail ∧ (0 ≤ w.kind ∧ w.kind ≤ 3) ∧ I64n w.kind ∧ I64n w.tries ∧ I64n w.time := by
  obtain ⟨h1, h2⟩ := readWay_back h
  exact ⟨ws_cons h1.symm (wayW_ne w), h2⟩
theorem step_k {ws : List Str} {r : Int} (h : readK (ws.headD []) = some r) : ws = ringName r :: ws.tail ∧ (r = 0 ∨ r = 1) := by
  obtain ⟨h1, h2⟩ := readK_back h
  refine ⟨ws_cons h1.symm ?_, h2⟩
  rcases h2 with rfl | rfl <;> decide
theorem step_a {ws : List Str} {o o' : Ln} {f : Str} (h : readF o ws (97 :: f) = some o') : ∃ l, o' = { o with after := l } ∧ l.map itoa = ws ∧ l.length ≤ 64 ∧ ∀ x ∈ l, I64n x := by
  rw [readF_a] at h
  split at h
  · cases h
  rename_i h64
  cases hm : ws.mapM numOf with
  | none => rw [hm] at h; cases h
  | some l =>
    rw [hm] at h
    cases h
    have := mapM_len hm
    exact ⟨l, rfl, mapM_back (fun s x hx => (numOf_some hx).1) hm, by omega, mapM_all (fun s x hx => (numOf_some hx).2) hm⟩
theorem step_e {ws : List Str} {o o' : Ln} {f : Str} (h : readF o ws (101 :: f) = some o') : ∃ l, o' = { o with evs := l } ∧ l.map evW = ws ∧ l.length ≤ 64 ∧ ∀ x ∈ l, I64n x.key ∧ I64n x.val := by
  rw [readF_e] at h
  split at h
  · cases h
  rename_i h64
  cases hm : ws.mapM readEv with
  | none => rw [hm] at h; cases h
  | some l =>
    rw [hm] at h
    cases h
    have := mapM_len hm
    exact ⟨l, rfl, mapM_back (fun s x hx => (readEv_back hx).1) hm, by omega, mapM_all (fun s x hx => (readEv_back hx).2) hm⟩
theorem step_end {ws : List Str} {o o' : Ln} (h : readF o ws [] = some o') : ws = [] ∧ o' = o := by
  rw [readF_end] at h
  split at h
  · rename_i e; cases h; exact ⟨e, rfl⟩
  · cases h
theorem step_N {c : UInt8} (h1 : c ≠ 97) (h2 : c ≠ 101) (h3 : c ≠ 107) (h4 : c ≠ 119) {o o' : Ln} {ws : List Str} {f : Str} (h : readF o ws (c :: f) = some o') : ∃ n, ws = itoa n :: ws.tail ∧ I64n n ∧ readF (putN o c n) ws.tail f = some o' := by
  rw [readF_num h1 h2 h3 h4] at h
  cases hn : numOf (ws.headD []) with
  | none => rw [hn] at h; cases h
  | some n => rw [hn] at h; exact ⟨n, (step_n hn).1, (step_n hn).2, h⟩
theorem step_W {o o' : Ln} {ws : List Str} {f : Str} (h : readF o ws (119 :: f) = some o') : ∃ w, (ws = wayW w :: ws.tail ∧ (0 ≤ w.kind ∧ w.kind ≤ 3) ∧ I64n w.kind ∧ I64n w.tries ∧ I64n w.time) ∧ (w.kind ≠ 1 → w.tries = 0) ∧ (w.kind ≠ 3 → w.time = 0) ∧ readF { o with way := w } ws.tail f = some o' := by
  rw [readF_w] at h
  cases hn : readWay (ws.headD []) with
  | none => rw [hn] at h; cases h
  | some w =>
    rw [hn] at h
    refine ⟨w, step_w hn, ?_, ?_, h⟩
    · intro hk
      have h1 := (readWay_back hn).1
      unfold readWay at hn
      split at hn
      · cases hn; rfl
      split at hn
      · cases hn; rfl
      split at hn
      · cases hn
      split at hn
      · cases hn
      split at hn
      · cases hn; exact absurd rfl hk
      split at hn
      · cases hn; rfl
      · cases hn
    · intro hk
      unfold readWay at hn
      split at hn
      · cases hn; rfl
      split at hn
      · cases hn; rfl
      split at hn
      · cases hn
      split at hn
      · cases hn
      split at hn
      · cases hn; rfl
      split at hn
      · cases hn; exact absurd rfl hk
      · cases hn
theorem step_K {o o' : Ln} {ws : List Str} {f : Str} (h : readF o ws (107 :: f) = some o') : ∃ r, ws = ringName r :: ws.tail ∧ (r = 0 ∨ r = 1) ∧ readF { o with ring := r } ws.tail f = some o' := by
  rw [readF_k] at h
  cases hn : readK (ws.headD []) with
  | none => rw [hn] at h; cases h
  | some r => rw [hn] at h; exact ⟨r, (step_k hn).1, (step_k hn).2, h⟩
theorem plain_way {w : Way} (h1 : w.kind ≠ 1 → w.tries = 0) (h3 : w.kind ≠ 3 → w.time = 0) : (⟨w.kind, if w.kind = 1 then w.tries else 0, if w.kind = 3 then w.time else 0⟩ : Way) = w := by
  obtain ⟨a, b, c⟩ := w
  simp only at h1 h3 ⊢
  congr 1
  · split
    · rfl
    · rename_i h; exact (h1 h).symm
  · split
    · rfl
    · rename_i h; exact (h3 h).symm
theorem read_back {k : Nat} (hk : k < 17) {ws : List Str} {o : Ln} (h : readF { Ln.zero with deed := k } ws (shape k) = some o) : Back k ws o := by
  have z : I64n 0 := by unfold I64n; omega
  have zk : I64n k := by unfold I64n; omega
  have zl : ∀ x ∈ ([] : List Int), I64n x := fun x hx => by cases hx
  have ze : ∀ x ∈ ([] : List Ev), I64n x.key ∧ I64n x.val := fun x hx => by cases hx
  match k, hk, h, zk with
  | 0, _, h, zk =>
    have hsh : shape 0 = [110, 107] := rfl
    rw [hsh] at h
    obtain ⟨x1, e1, b1, h⟩ := step_N (by decide) (by decide) (by decide) (by decide) h
    obtain ⟨r, e2, hr, h⟩ := step_K h
    obtain ⟨e3, ho⟩ := step_end h
    have ho : o = ⟨((0 : Nat) : Int), 0, r, x1, 0, ⟨0, 0, 0⟩, [], []⟩ := ho
    subst ho
    have hfm : ∀ o : Ln, (shape 0).flatMap (fieldW o) = [itoa o.n] ++ ([ringName o.ring] ++ []) := fun o => rfl
    refine ⟨rfl, ?_, ⟨zk, z, (show I64n r by unfold I64n; omega), b1, z, z, z, z, zl, ze⟩, fun _ => hr, fun hm => absurd hm (by decide), fun hm => absurd hm (by decide), fun hm => absurd hm (by decide), ?_⟩
    · rw [hfm]; simp only [List.append_nil, List.cons_append, List.nil_append]; conv => rhs; rw [e1, e2, e3]
    · rfl
  | 1, _, h, zk =>
    have hsh : shape 1 = [114, 119] := rfl
    rw [hsh] at h
    obtain ⟨x1, e1, b1, h⟩ := step_N (by decide) (by decide) (by decide) (by decide) h
    obtain ⟨w, ⟨e2, hk, w1, w2, w3⟩, p1, p3, h⟩ := step_W h
    obtain ⟨e3, ho⟩ := step_end h
    have ho : o = ⟨((1 : Nat) : Int), 0, x1, 0, 0, w, [], []⟩ := ho
    subst ho
    have hfm : ∀ o : Ln, (shape 1).flatMap (fieldW o) = [itoa o.ring] ++ ([wayW o.way] ++ []) := fun o => rfl
    refine ⟨rfl, ?_, ⟨zk, z, b1, z, z, w1, w2, w3, zl, ze⟩, fun hm => absurd hm (by decide), fun _ => hk, fun hm => absurd hm (by decide), fun hm => absurd hm (by decide), ?_⟩
    · rw [hfm]; simp only [List.append_nil, List.cons_append, List.nil_append]; conv => rhs; rw [e1, e2, e3]
    · refine Eq.trans (b := { Ln.zero with deed := 1, ring := x1, n := 0, way := ⟨w.kind, if w.kind = 1 then w.tries else 0, if w.kind = 3 then w.time else 0⟩, after := [] }) rfl ?_
      rw [plain_way p1 p3]; rfl
  | 2, _, h, zk =>
    have hsh : shape 2 = [114, 119, 110, 97] := rfl
    rw [hsh] at h
    obtain ⟨x1, e1, b1, h⟩ := step_N (by decide) (by decide) (by decide) (by decide) h
    obtain ⟨w, ⟨e2, hk, w1, w2, w3⟩, p1, p3, h⟩ := step_W h
    obtain ⟨x3, e3, b3, h⟩ := step_N (by decide) (by decide) (by decide) (by decide) h
    obtain ⟨l, ho, e4, hl, bl⟩ := step_a h
    have ho : o = ⟨((2 : Nat) : Int), 0, x1, x3, 0, w, l, []⟩ := ho
    subst ho
    have hfm : ∀ o : Ln, (shape 2).flatMap (fieldW o) = [itoa o.ring] ++ ([wayW o.way] ++ ([itoa o.n] ++ (o.after.map itoa ++ []))) := fun o => rfl
    refine ⟨rfl, ?_, ⟨zk, z, b1, b3, z, w1, w2, w3, bl, ze⟩, fun hm => absurd hm (by decide), fun _ => hk, fun _ => hl, fun hm => absurd hm (by decide), ?_⟩
    · rw [hfm]; simp only [List.append_nil, List.cons_append, List.nil_append]; rw [e4]; conv => rhs; rw [e1, e2, e3]
    · refine Eq.trans (b := { Ln.zero with deed := 2, ring := x1, n := x3, way := ⟨w.kind, if w.kind = 1 then w.tries else 0, if w.kind = 3 then w.time else 0⟩, after := l }) rfl ?_
      rw [plain_way p1 p3]; rfl
  | 3, _, h, zk =>
    have hsh : shape 3 = [114, 119, 110, 97] := rfl
    rw [hsh] at h
    obtain ⟨x1, e1, b1, h⟩ := step_N (by decide) (by decide) (by decide) (by decide) h
    obtain ⟨w, ⟨e2, hk, w1, w2, w3⟩, p1, p3, h⟩ := step_W h
    obtain ⟨x3, e3, b3, h⟩ := step_N (by decide) (by decide) (by decide) (by decide) h
    obtain ⟨l, ho, e4, hl, bl⟩ := step_a h
    have ho : o = ⟨((3 : Nat) : Int), 0, x1, x3, 0, w, l, []⟩ := ho
    subst ho
    have hfm : ∀ o : Ln, (shape 3).flatMap (fieldW o) = [itoa o.ring] ++ ([wayW o.way] ++ ([itoa o.n] ++ (o.after.map itoa ++ []))) := fun o => rfl
    refine ⟨rfl, ?_, ⟨zk, z, b1, b3, z, w1, w2, w3, bl, ze⟩, fun hm => absurd hm (by decide), fun _ => hk, fun _ => hl, fun hm => absurd hm (by decide), ?_⟩
    · rw [hfm]; simp only [List.append_nil, List.cons_append, List.nil_append]; rw [e4]; conv => rhs; rw [e1, e2, e3]
    · refine Eq.trans (b := { Ln.zero with deed := 3, ring := x1, n := x3, way := ⟨w.kind, if w.kind = 1 then w.tries else 0, if w.kind = 3 then w.time else 0⟩, after := l }) rfl ?_
      rw [plain_way p1 p3]; rfl
  | 4, _, h, zk =>
    have hsh : shape 4 = [114, 119, 97] := rfl
    rw [hsh] at h
    obtain ⟨x1, e1, b1, h⟩ := step_N (by decide) (by decide) (by decide) (by decide) h
    obtain ⟨w, ⟨e2, hk, w1, w2, w3⟩, p1, p3, h⟩ := step_W h
    obtain ⟨l, ho, e3, hl, bl⟩ := step_a h
    have ho : o = ⟨((4 : Nat) : Int), 0, x1, 0, 0, w, l, []⟩ := ho
    subst ho
    have hfm : ∀ o : Ln, (shape 4).flatMap (fieldW o) = [itoa o.ring] ++ ([wayW o.way] ++ (o.after.map itoa ++ [])) := fun o => rfl
    refine ⟨rfl, ?_, ⟨zk, z, b1, z, z, w1, w2, w3, bl, ze⟩, fun hm => absurd hm (by decide), fun _ => hk, fun _ => hl, fun hm => absurd hm (by decide), ?_⟩
    · rw [hfm]; simp only [List.append_nil, List.cons_append, List.nil_append]; rw [e3]; conv => rhs; rw [e1, e2]
    · refine Eq.trans (b := { Ln.zero with deed := 4, ring := x1, n := 0, way := ⟨w.kind, if w.kind = 1 then w.tries else 0, if w.kind = 3 then w.time else 0⟩, after := l }) rfl ?_
      rw [plain_way p1 p3]; rfl
  | 5, _, h, zk =>
    have hsh : shape 5 = [97] := rfl
    rw [hsh] at h
    obtain ⟨l, ho, e1, hl, bl⟩ := step_a h
    have ho : o = ⟨((5 : Nat) : Int), 0, 0, 0, 0, ⟨0, 0, 0⟩, l, []⟩ := ho
    subst ho
    have hfm : ∀ o : Ln, (shape 5).flatMap (fieldW o) = o.after.map itoa ++ [] := fun o => rfl
    refine ⟨rfl, ?_, ⟨zk, z, z, z, z, z, z, z, bl, ze⟩, fun hm => absurd hm (by decide), fun hm => absurd hm (by decide), fun _ => hl, fun hm => absurd hm (by decide), ?_⟩
    · rw [hfm]; simp only [List.append_nil, List.cons_append, List.nil_append]; rw [e1]
    · rfl
  | 6, _, h, zk =>
    have hsh : shape 6 = [104, 101] := rfl
    rw [hsh] at h
    obtain ⟨x1, e1, b1, h⟩ := step_N (by decide) (by decide) (by decide) (by decide) h
    obtain ⟨l, ho, e2, hl, bl⟩ := step_e h
    have ho : o = ⟨((6 : Nat) : Int), x1, 0, 0, 0, ⟨0, 0, 0⟩, [], l⟩ := ho
    subst ho
    have hfm : ∀ o : Ln, (shape 6).flatMap (fieldW o) = [itoa o.who] ++ (o.evs.map evW ++ []) := fun o => rfl
    refine ⟨rfl, ?_, ⟨zk, b1, z, z, z, z, z, z, zl, bl⟩, fun hm => absurd hm (by decide), fun hm => absurd hm (by decide), fun hm => absurd hm (by decide), fun _ => hl, ?_⟩
    · rw [hfm]; simp only [List.append_nil, List.cons_append, List.nil_append]; rw [e2]; conv => rhs; rw [e1]
    · rfl
  | 7, _, h, zk =>
    have hsh : shape 7 = [104, 101] := rfl
    rw [hsh] at h
    obtain ⟨x1, e1, b1, h⟩ := step_N (by decide) (by decide) (by decide) (by decide) h
    obtain ⟨l, ho, e2, hl, bl⟩ := step_e h
    have ho : o = ⟨((7 : Nat) : Int), x1, 0, 0, 0, ⟨0, 0, 0⟩, [], l⟩ := ho
    subst ho
    have hfm : ∀ o : Ln, (shape 7).flatMap (fieldW o) = [itoa o.who] ++ (o.evs.map evW ++ []) := fun o => rfl
    refine ⟨rfl, ?_, ⟨zk, b1, z, z, z, z, z, z, zl, bl⟩, fun hm => absurd hm (by decide), fun hm => absurd hm (by decide), fun hm => absurd hm (by decide), fun _ => hl, ?_⟩
    · rw [hfm]; simp only [List.append_nil, List.cons_append, List.nil_append]; rw [e2]; conv => rhs; rw [e1]
    · rfl
  | 8, _, h, zk =>
    have hsh : shape 8 = [104, 110] := rfl
    rw [hsh] at h
    obtain ⟨x1, e1, b1, h⟩ := step_N (by decide) (by decide) (by decide) (by decide) h
    obtain ⟨x2, e2, b2, h⟩ := step_N (by decide) (by decide) (by decide) (by decide) h
    obtain ⟨e3, ho⟩ := step_end h
    have ho : o = ⟨((8 : Nat) : Int), x1, 0, x2, 0, ⟨0, 0, 0⟩, [], []⟩ := ho
    subst ho
    have hfm : ∀ o : Ln, (shape 8).flatMap (fieldW o) = [itoa o.who] ++ ([itoa o.n] ++ []) := fun o => rfl
    refine ⟨rfl, ?_, ⟨zk, b1, z, b2, z, z, z, z, zl, ze⟩, fun hm => absurd hm (by decide), fun hm => absurd hm (by decide), fun hm => absurd hm (by decide), fun hm => absurd hm (by decide), ?_⟩
    · rw [hfm]; simp only [List.append_nil, List.cons_append, List.nil_append]; conv => rhs; rw [e1, e2, e3]
    · rfl
  | 9, _, h, zk =>
    have hsh : shape 9 = [104] := rfl
    rw [hsh] at h
    obtain ⟨x1, e1, b1, h⟩ := step_N (by decide) (by decide) (by decide) (by decide) h
    obtain ⟨e2, ho⟩ := step_end h
    have ho : o = ⟨((9 : Nat) : Int), x1, 0, 0, 0, ⟨0, 0, 0⟩, [], []⟩ := ho
    subst ho
    have hfm : ∀ o : Ln, (shape 9).flatMap (fieldW o) = [itoa o.who] ++ [] := fun o => rfl
    refine ⟨rfl, ?_, ⟨zk, b1, z, z, z, z, z, z, zl, ze⟩, fun hm => absurd hm (by decide), fun hm => absurd hm (by decide), fun hm => absurd hm (by decide), fun hm => absurd hm (by decide), ?_⟩
    · rw [hfm]; simp only [List.append_nil, List.cons_append, List.nil_append]; conv => rhs; rw [e1, e2]
    · rfl
  | 10, _, h, zk =>
    have hsh : shape 10 = [104, 110] := rfl
    rw [hsh] at h
    obtain ⟨x1, e1, b1, h⟩ := step_N (by decide) (by decide) (by decide) (by decide) h
    obtain ⟨x2, e2, b2, h⟩ := step_N (by decide) (by decide) (by decide) (by decide) h
    obtain ⟨e3, ho⟩ := step_end h
    have ho : o = ⟨((10 : Nat) : Int), x1, 0, x2, 0, ⟨0, 0, 0⟩, [], []⟩ := ho
    subst ho
    have hfm : ∀ o : Ln, (shape 10).flatMap (fieldW o) = [itoa o.who] ++ ([itoa o.n] ++ []) := fun o => rfl
    refine ⟨rfl, ?_, ⟨zk, b1, z, b2, z, z, z, z, zl, ze⟩, fun hm => absurd hm (by decide), fun hm => absurd hm (by decide), fun hm => absurd hm (by decide), fun hm => absurd hm (by decide), ?_⟩
    · rw [hfm]; simp only [List.append_nil, List.cons_append, List.nil_append]; conv => rhs; rw [e1, e2, e3]
    · rfl
  | 11, _, h, zk =>
    have hsh : shape 11 = [104] := rfl
    rw [hsh] at h
    obtain ⟨x1, e1, b1, h⟩ := step_N (by decide) (by decide) (by decide) (by decide) h
    obtain ⟨e2, ho⟩ := step_end h
    have ho : o = ⟨((11 : Nat) : Int), x1, 0, 0, 0, ⟨0, 0, 0⟩, [], []⟩ := ho
    subst ho
    have hfm : ∀ o : Ln, (shape 11).flatMap (fieldW o) = [itoa o.who] ++ [] := fun o => rfl
    refine ⟨rfl, ?_, ⟨zk, b1, z, z, z, z, z, z, zl, ze⟩, fun hm => absurd hm (by decide), fun hm => absurd hm (by decide), fun hm => absurd hm (by decide), fun hm => absurd hm (by decide), ?_⟩
    · rw [hfm]; simp only [List.append_nil, List.cons_append, List.nil_append]; conv => rhs; rw [e1, e2]
    · rfl
  | 12, _, h, zk =>
    have hsh : shape 12 = [104] := rfl
    rw [hsh] at h
    obtain ⟨x1, e1, b1, h⟩ := step_N (by decide) (by decide) (by decide) (by decide) h
    obtain ⟨e2, ho⟩ := step_end h
    have ho : o = ⟨((12 : Nat) : Int), x1, 0, 0, 0, ⟨0, 0, 0⟩, [], []⟩ := ho
    subst ho
    have hfm : ∀ o : Ln, (shape 12).flatMap (fieldW o) = [itoa o.who] ++ [] := fun o => rfl
    refine ⟨rfl, ?_, ⟨zk, b1, z, z, z, z, z, z, zl, ze⟩, fun hm => absurd hm (by decide), fun hm => absurd hm (by decide), fun hm => absurd hm (by decide), fun hm => absurd hm (by decide), ?_⟩
    · rw [hfm]; simp only [List.append_nil, List.cons_append, List.nil_append]; conv => rhs; rw [e1, e2]
    · rfl
  | 13, _, h, zk =>
    have hsh : shape 13 = [104] := rfl
    rw [hsh] at h
    obtain ⟨x1, e1, b1, h⟩ := step_N (by decide) (by decide) (by decide) (by decide) h
    obtain ⟨e2, ho⟩ := step_end h
    have ho : o = ⟨((13 : Nat) : Int), x1, 0, 0, 0, ⟨0, 0, 0⟩, [], []⟩ := ho
    subst ho
    have hfm : ∀ o : Ln, (shape 13).flatMap (fieldW o) = [itoa o.who] ++ [] := fun o => rfl
    refine ⟨rfl, ?_, ⟨zk, b1, z, z, z, z, z, z, zl, ze⟩, fun hm => absurd hm (by decide), fun hm => absurd hm (by decide), fun hm => absurd hm (by decide), fun hm => absurd hm (by decide), ?_⟩
    · rw [hfm]; simp only [List.append_nil, List.cons_append, List.nil_append]; conv => rhs; rw [e1, e2]
    · rfl
  | 14, _, h, zk =>
    have hsh : shape 14 = [104] := rfl
    rw [hsh] at h
    obtain ⟨x1, e1, b1, h⟩ := step_N (by decide) (by decide) (by decide) (by decide) h
    obtain ⟨e2, ho⟩ := step_end h
    have ho : o = ⟨((14 : Nat) : Int), x1, 0, 0, 0, ⟨0, 0, 0⟩, [], []⟩ := ho
    subst ho
    have hfm : ∀ o : Ln, (shape 14).flatMap (fieldW o) = [itoa o.who] ++ [] := fun o => rfl
    refine ⟨rfl, ?_, ⟨zk, b1, z, z, z, z, z, z, zl, ze⟩, fun hm => absurd hm (by decide), fun hm => absurd hm (by decide), fun hm => absurd hm (by decide), fun hm => absurd hm (by decide), ?_⟩
    · rw [hfm]; simp only [List.append_nil, List.cons_append, List.nil_append]; conv => rhs; rw [e1, e2]
    · rfl
  | 15, _, h, zk =>
    have hsh : shape 15 = [116] := rfl
    rw [hsh] at h
    obtain ⟨x1, e1, b1, h⟩ := step_N (by decide) (by decide) (by decide) (by decide) h
    obtain ⟨e2, ho⟩ := step_end h
    have ho : o = ⟨((15 : Nat) : Int), 0, 0, 0, x1, ⟨0, 0, 0⟩, [], []⟩ := ho
    subst ho
    have hfm : ∀ o : Ln, (shape 15).flatMap (fieldW o) = [itoa o.at_] ++ [] := fun o => rfl
    refine ⟨rfl, ?_, ⟨zk, z, z, z, b1, z, z, z, zl, ze⟩, fun hm => absurd hm (by decide), fun hm => absurd hm (by decide), fun hm => absurd hm (by decide), fun hm => absurd hm (by decide), ?_⟩
    · rw [hfm]; simp only [List.append_nil, List.cons_append, List.nil_append]; conv => rhs; rw [e1, e2]
    · rfl
  | 16, _, h, zk =>
    have hsh : shape 16 = [110] := rfl
    rw [hsh] at h
    obtain ⟨x1, e1, b1, h⟩ := step_N (by decide) (by decide) (by decide) (by decide) h
    obtain ⟨e2, ho⟩ := step_end h
    have ho : o = ⟨((16 : Nat) : Int), 0, 0, x1, 0, ⟨0, 0, 0⟩, [], []⟩ := ho
    subst ho
    have hfm : ∀ o : Ln, (shape 16).flatMap (fieldW o) = [itoa o.n] ++ [] := fun o => rfl
    refine ⟨rfl, ?_, ⟨zk, z, z, b1, z, z, z, z, zl, ze⟩, fun hm => absurd hm (by decide), fun hm => absurd hm (by decide), fun hm => absurd hm (by decide), fun hm => absurd hm (by decide), ?_⟩
    · rw [hfm]; simp only [List.append_nil, List.cons_append, List.nil_append]; conv => rhs; rw [e1, e2]
    · rfl
  | k + 17, hk, _, _ => exact absurd hk (by omega)
/-- What is read is printed as it was. -/
theorem parse_back {s : Str} {o : Ln} (h : parseA s = .ok o) : ∃ k, k < 17 ∧ s = joinC 32 (lineW o) ∧ ∃ ws, Back k ws o := by
  unfold parseA at h
  split at h
  · cases h
  split at h
  · cases h
  rename_i w ws hs
  split at h
  · cases h
  rename_i k hd
  split at h
  · cases h
  rename_i o' hr
  cases h
  obtain ⟨hk, hw⟩ := word_deed hd
  have hb := read_back hk hr
  refine ⟨k, hk, ?_, ws, hb⟩
  have e : o.deed.toNat = k := by rw [hb.e]; rfl
  have h1 := joinC_split 32 s
  rw [hs] at h1
  unfold lineW
  rw [e, hb.ws, hw, h1]
end Go.Proofs.YtkfnbpbhcnekiaaGreatDoor

/- Small functions of the statements; awake. -/
namespace Go.Proofs.YtkfnbpbhcnekiaaGreatDoor
open Go.RowKit Go.Lib
attribute [local irreducible] Nx Ar BrM
set_option maxRecDepth 20000
set_option maxHeartbeats 2000000

theorem To_ok (o : Ln) (A B : Option Addr) (c d : Nat) : FnOk Tryz.prog 12 [lnV o A c B d] [] (fun v Q => v = lnV o A c B d ∧ Q = []) := by
  refine FnOk.start Tryz.func12 rfl rfl rfl rfl fun F os tape output => ?_
  refine go 200 ?_
  conv => whnf
  repeat' (first
    | ((with_reducible refine atBr ?_); (first | refine BrM.t rfl ?_ | refine BrM.f rfl ?_ | refine BrM.dec (fun _ => ?_) (fun _ => ?_) | refine BrM.mk (fun _ => ?_) (fun _ => ?_)) <;> conv => whnf)
    | ((with_reducible refine atAr ?_); refine Ar.i64 (by omega) (by omega) ?_; conv => whnf)
    | ((with_reducible refine atRet ?_); refine Nx.ret [] Tryz.func12 rfl rfl ?_; (exact ⟨rfl, rfl⟩))
    | ((with_reducible refine atOps ?_); refine go 200 ?_; conv => whnf)
    | ((with_reducible refine atPlan ?_); refine Nx.runP (n := 200) rfl (by repeat (first | exact subB.nil _ | refine subB.cons rfl ?_)) ?_; conv => whnf)
    | ((with_reducible refine atAftL ?_); refine Nx.late ?_)
    | ((fail_if_success (with_reducible refine atRet ?_)); (fail_if_success (with_reducible refine atLoop ?_)); (fail_if_success (with_reducible refine atIn ?_)); (fail_if_success (with_reducible refine atDrawn ?_)); (fail_if_success (with_reducible refine atEnd ?_)); (with_reducible refine atRun ?_); refine go 200 ?_; conv => whnf))
theorem Of_ok (o : Ln) (A B : Option Addr) (c d : Nat) : FnOk Tryz.prog 14 [lnV o A c B d] [] (fun v Q => v = lnV o A c B d ∧ Q = []) := by
  refine FnOk.start Tryz.func14 rfl rfl rfl rfl fun F os tape output => ?_
  refine go 200 ?_
  conv => whnf
  repeat' (first
    | ((with_reducible refine atBr ?_); (first | refine BrM.t rfl ?_ | refine BrM.f rfl ?_ | refine BrM.dec (fun _ => ?_) (fun _ => ?_) | refine BrM.mk (fun _ => ?_) (fun _ => ?_)) <;> conv => whnf)
    | ((with_reducible refine atAr ?_); refine Ar.i64 (by omega) (by omega) ?_; conv => whnf)
    | ((with_reducible refine atDrawn ?_); refine Nx.bind (l := 1) (fun _ => ?_) rfl; refine Nx.bind (l := 2) (fun _ => ?_) rfl; refine Nx.drawn0 [] [.pure 0, .held 1, .pure 2, .held 3, .pure 4, .held 5, .pure 6, .held 7, .pure 8, .held 9, .pure 10, .held 11, .pure 13, .held 14, .pure 15, .held 16, .ex 12 true, .pure 17, .ex 18 false] rfl (by kernel_rfl) rfl (by kernel_rfl) rfl (by repeat (first | exact subB.nil _ | refine subB.cons rfl ?_)) rfl ?_)
    | ((with_reducible refine (atCall 37) ?_); refine Nx.call [] [] rfl rfl rfl rfl rfl ((Way15_ok o.way.kind o.way.tries o.way.time)) rfl fun v Q hQ => ?_; obtain ⟨rfl, rfl⟩ := hQ)
    | ((with_reducible refine atAftK ?_); refine Nx.keepN [] rfl (by repeat (first | exact subB.nil _ | refine subB.cons rfl ?_)) (by repeat (first | exact subM.nil _ | refine subM.cons rfl rfl rfl ?_)) rfl ?_)
    | ((with_reducible refine atRet ?_); refine Nx.ret [] Tryz.func14 rfl rfl ?_; (exact ⟨rfl, rfl⟩))
    | ((with_reducible refine atOps ?_); refine go 200 ?_; conv => whnf)
    | ((with_reducible refine atPlan ?_); refine Nx.runP (n := 200) rfl (by repeat (first | exact subB.nil _ | refine subB.cons rfl ?_)) ?_; conv => whnf)
    | ((with_reducible refine atAftL ?_); refine Nx.late ?_)
    | ((fail_if_success (with_reducible refine atRet ?_)); (fail_if_success (with_reducible refine atLoop ?_)); (fail_if_success (with_reducible refine atIn ?_)); (fail_if_success (with_reducible refine atDrawn ?_)); (fail_if_success (with_reducible refine atEnd ?_)); (with_reducible refine atRun ?_); refine go 200 ?_; conv => whnf))
theorem light_ok (o : Ln) (A B : Option Addr) (c d : Nat) : FnOk Tryz.prog 9 [lnV o A c B d] [] (fun v Q => v = .bool (decide (o.after.length ≤ 100 ∧ o.evs.length ≤ 100)) ∧ Q = []) := by
  refine FnOk.start Tryz.func9 rfl rfl rfl rfl fun F os tape output => ?_
  refine go 200 ?_
  conv => whnf
  repeat' (first
    | ((with_reducible refine atBr ?_); (first | refine BrM.t rfl ?_ | refine BrM.f rfl ?_ | refine BrM.dec (fun _ => ?_) (fun _ => ?_) | refine BrM.mk (fun _ => ?_) (fun _ => ?_)) <;> conv => whnf)
    | ((with_reducible refine atAr ?_); refine Ar.i64 (by omega) (by omega) ?_; conv => whnf)
    | ((with_reducible refine atRet ?_); refine Nx.ret [] Tryz.func9 rfl rfl ?_; (refine ⟨?_, rfl⟩; first | (show Value.bool (decide ((o.evs.length : Int) ≤ 100)) = _; congr 1; rw [decide_eq_decide]; omega) | (show Value.bool false = _; rw [decide_eq_false (by omega)])))
    | ((with_reducible refine atOps ?_); refine go 200 ?_; conv => whnf)
    | ((with_reducible refine atPlan ?_); refine Nx.runP (n := 200) rfl (by repeat (first | exact subB.nil _ | refine subB.cons rfl ?_)) ?_; conv => whnf)
    | ((with_reducible refine atAftL ?_); refine Nx.late ?_)
    | ((fail_if_success (with_reducible refine atRet ?_)); (fail_if_success (with_reducible refine atLoop ?_)); (fail_if_success (with_reducible refine atIn ?_)); (fail_if_success (with_reducible refine atDrawn ?_)); (fail_if_success (with_reducible refine atEnd ?_)); (with_reducible refine atRun ?_); refine go 200 ?_; conv => whnf))
theorem nil_sees (S : SP) (A : Option Addr) (sz : Nat) : Sees S A 0 sz [] := fun r h d hs => ⟨by simp, fun h => absurd h (by omega)⟩
theorem zero_ok (S1 S2 : SP) (o : Ln) (A B : Option Addr) (c d : Nat) (h1 : Sees S1 A o.after.length 1 (intsV o.after)) (h2 : Sees S2 B o.evs.length 2 (evsV o.evs)) (l1 : o.after.length ≤ 1000000) (l2 : o.evs.length ≤ 1000000) :
    FnOk Tryz.prog 20 [lnV o A c B d] [S1, S2] (fun v Q => v = .bool (decide (o = Ln.zero)) ∧ Q = [S1, S2]) := by
  refine FnOk.start Tryz.func20 rfl rfl rfl rfl fun F os tape output => ?_
  refine Nx.give 3 (ownS 3 none 0 0 1 []) (own_nil _ _ _ _) ?_
  refine Nx.give 4 (ownS 72 none 0 0 2 []) (own_nil _ _ _ _) ?_
  refine go 200 ?_
  conv => whnf
  repeat' (first
    | ((with_reducible refine atBr ?_); (first | refine BrM.t rfl ?_ | refine BrM.f rfl ?_ | refine BrM.dec (fun _ => ?_) (fun _ => ?_) | refine BrM.mk (fun _ => ?_) (fun _ => ?_)) <;> conv => whnf)
    | ((with_reducible refine atAr ?_); refine Ar.i64 (by omega) (by omega) ?_; conv => whnf)
    | ((with_reducible refine (atCall 17) ?_); refine Nx.call [0,1,3,4] [0,1,3,4] rfl rfl rfl rfl rfl ((same_ok S1 S2 (ownS 3 none 0 0 1 []) (ownS 72 none 0 0 2 []) o Ln.zero A B none none c d 0 0 h1 h2 (nil_sees _ _ _) (nil_sees _ _ _) l1 l2)) rfl fun v Q hQ => ?_; obtain ⟨rfl, rfl⟩ := hQ)
    | ((with_reducible refine atRet ?_); refine Nx.ret [0,1] Tryz.func20 rfl rfl ?_; (exact ⟨rfl, rfl⟩))
    | ((with_reducible refine atOps ?_); refine go 200 ?_; conv => whnf)
    | ((with_reducible refine atPlan ?_); refine Nx.runP (n := 200) rfl (by repeat (first | exact subB.nil _ | refine subB.cons rfl ?_)) ?_; conv => whnf)
    | ((with_reducible refine atAftL ?_); refine Nx.late ?_)
    | ((fail_if_success (with_reducible refine atRet ?_)); (fail_if_success (with_reducible refine atLoop ?_)); (fail_if_success (with_reducible refine atIn ?_)); (fail_if_success (with_reducible refine atDrawn ?_)); (fail_if_success (with_reducible refine atEnd ?_)); (with_reducible refine atRun ?_); refine go 200 ?_; conv => whnf))
theorem blkS_sees (b n sz : Nat) (t : TypeId) (cs : List Value) (h : cs.length = n * sz) : Sees (blk b (.cells cs.toArray t (0, 0))) (some ⟨b, 0, none⟩) n sz cs := fun r m d hs =>
  ⟨h, fun _ => ⟨b, 0, _, _, _, rfl, PH.le_un_right d _ _ (show m b = _ from hs), fun j hj => by simp⟩⟩
def exLn : Ln := ⟨6, 1, 0, 0, 0, ⟨0, 0, 0⟩, [], [⟨7, -3⟩]⟩
theorem exLn_wf : exLn.wf := by
  have h : ∀ n : Int, -100 ≤ n → n ≤ 100 → I64n n := fun n h1 h2 => by unfold I64n; omega
  refine ⟨h _ (by decide) (by decide), h _ (by decide) (by decide), h _ (by decide) (by decide), h _ (by decide) (by decide), h _ (by decide) (by decide), h _ (by decide) (by decide), h _ (by decide) (by decide), h _ (by decide) (by decide), ?_, ?_⟩
  · intro x hx; cases hx
  · intro x hx
    have : x = ⟨7, -3⟩ := by simpa [exLn] using hx
    subst this
    exact ⟨h _ (by decide) (by decide), h _ (by decide) (by decide)⟩
theorem exLn_print : printA exLn = .ok [115, 101, 110, 100, 32, 49, 32, 55, 58, 45, 51] := by
  have i1 : itoa 1 = [49] := by rw [itoa_pos (by decide)]; exact decDigits_small (by decide)
  have i7 : itoa 7 = [55] := by rw [itoa_pos (by decide)]; exact decDigits_small (by decide)
  have i3 : itoa (-3) = [45, 51] := by rw [itoa_neg (by decide)]; exact congrArg _ (decDigits_small (by decide))
  have hl : lineW exLn = [word 6, itoa 1, evW ⟨7, -3⟩] := rfl
  have hp : printA exLn = .ok (joinC 32 (lineW exLn)) := rfl
  rw [hp, hl, evW, i1, i7, i3]
  rfl
theorem ex_parse : parseA [116, 105, 99, 107, 32, 48, 55] = .error 6 := by
  have := parse_tick [48, 55] (by decide)
  have hn : numOf [48, 55] = none := num_bad2 (by decide) (by decide)
  rw [hn] at this
  exact this
theorem awake_ok {m : PH} (hG : Glo m) : FnOk Tryz.prog 10 [] [roAll m] (fun v Q => v = .bool true ∧ Q = [roAll m]) := by
  have hP := fun b => Print_ok hG (ownS 3 none 0 0 1 []) (blk b (.cells #[.int .i64 7, .int .i64 (-3)] 72 (0, 0))) exLn exLn_wf none (some ⟨b, 0, none⟩) 0 1 (nil_sees _ _ _) (blkS_sees b 1 2 72 [.int .i64 7, .int .i64 (-3)] rfl) (by decide) (by decide)
  rw [exLn_print] at hP
  have hQ2 := Parse_ok hG [116, 105, 99, 107, 32, 48, 55] (by decide)
  rw [ex_parse] at hQ2
  refine FnOk.start Tryz.func10 rfl rfl rfl rfl fun F os tape output => ?_
  refine Nx.give 3 (ownS 3 none 0 0 1 []) (own_nil _ _ _ _) ?_
  refine go 200 ?_
  conv => whnf
  repeat' (first
    | ((with_reducible refine atBr ?_); (first | refine BrM.t rfl ?_ | refine BrM.f rfl ?_ | refine BrM.dec (fun _ => ?_) (fun _ => ?_) | refine BrM.mk (fun _ => ?_) (fun _ => ?_)) <;> conv => whnf)
    | ((with_reducible refine atAr ?_); refine Ar.i64 (by omega) (by omega) ?_; conv => whnf)
    | ((with_reducible refine atEsc ?_); intro _; refine Nx.out 7 rfl rfl rfl rfl ?_)
    | ((with_reducible refine atOps ?_); refine go 200 ?_; conv => whnf)
    | ((with_reducible refine atPlan ?_); refine Nx.runP (n := 200) rfl (by repeat (first | exact subB.nil _ | refine subB.cons rfl ?_)) ?_; conv => whnf)
    | ((with_reducible refine atAftL ?_); refine Nx.late ?_)
    | ((fail_if_success (with_reducible refine atRet ?_)); (fail_if_success (with_reducible refine atLoop ?_)); (fail_if_success (with_reducible refine atIn ?_)); (fail_if_success (with_reducible refine atDrawn ?_)); (fail_if_success (with_reducible refine atEnd ?_)); (with_reducible refine atRun ?_); refine go 200 ?_; conv => whnf))
  refine Nx.call [0,3,7] [0,3,7] rfl rfl rfl rfl rfl (hP _) rfl fun v Q hQ => ?_
  obtain ⟨rfl, rfl⟩ := hQ
  repeat' (first
    | ((with_reducible refine atBr ?_); (first | refine BrM.t rfl ?_ | refine BrM.f rfl ?_ | refine BrM.dec (fun _ => ?_) (fun _ => ?_) | refine BrM.mk (fun _ => ?_) (fun _ => ?_)) <;> conv => whnf)
    | ((with_reducible refine atAr ?_); refine Ar.i64 (by omega) (by omega) ?_; conv => whnf)
    | (fail)
    | ((with_reducible refine atOps ?_); refine go 200 ?_; conv => whnf)
    | ((with_reducible refine atPlan ?_); refine Nx.runP (n := 200) rfl (by repeat (first | exact subB.nil _ | refine subB.cons rfl ?_)) ?_; conv => whnf)
    | ((with_reducible refine atAftL ?_); refine Nx.late ?_)
    | ((fail_if_success (with_reducible refine atRet ?_)); (fail_if_success (with_reducible refine atLoop ?_)); (fail_if_success (with_reducible refine atIn ?_)); (fail_if_success (with_reducible refine atDrawn ?_)); (fail_if_success (with_reducible refine atEnd ?_)); (with_reducible refine atRun ?_); refine go 200 ?_; conv => whnf))
  refine Nx.call [0] [0,9] rfl rfl rfl rfl rfl (hQ2) rfl fun v Q hQ => ?_
  obtain ⟨b, q, rfl, rfl⟩ := hQ
  repeat' (first
    | ((with_reducible refine atBr ?_); refine BrM.yes (rfl) ?_; conv => whnf)
    | ((with_reducible refine atBr ?_); (first | refine BrM.t rfl ?_ | refine BrM.f rfl ?_ | refine BrM.dec (fun _ => ?_) (fun _ => ?_) | refine BrM.mk (fun _ => ?_) (fun _ => ?_)) <;> conv => whnf)
    | ((with_reducible refine atAr ?_); refine Ar.i64 (by omega) (by omega) ?_; conv => whnf)
    | ((with_reducible refine (atCall 15) ?_); refine Nx.call [9] [9] rfl rfl rfl rfl rfl ((Is_err b q 6 6 (by decide))) rfl fun v Q hQ => ?_; obtain ⟨rfl, rfl⟩ := hQ)
    | ((with_reducible refine atRet ?_); refine Nx.ret [0] Tryz.func10 rfl rfl ?_; (exact ⟨rfl, rfl⟩))
    | ((with_reducible refine atOps ?_); refine go 200 ?_; conv => whnf)
    | ((with_reducible refine atPlan ?_); refine Nx.runP (n := 200) rfl (by repeat (first | exact subB.nil _ | refine subB.cons rfl ?_)) ?_; conv => whnf)
    | ((with_reducible refine atAftL ?_); refine Nx.late ?_)
    | ((fail_if_success (with_reducible refine atRet ?_)); (fail_if_success (with_reducible refine atLoop ?_)); (fail_if_success (with_reducible refine atIn ?_)); (fail_if_success (with_reducible refine atDrawn ?_)); (fail_if_success (with_reducible refine atEnd ?_)); (with_reducible refine atRun ?_); refine go 200 ?_; conv => whnf))
theorem print_parse {o : Ln} {k : Nat} (hf : Fine o k) (hw : o.wf) : parseA (joinC 32 (lineW o)) = .ok (plainA o) := by
  have hk := hf.lt
  have he := hf.e
  have e : o.deed.toNat = k := by omega
  have h1 := hf.join hw
  have hlen : (joinC 32 (lineW o)).length ≤ 4000 := by
    have h2 := joinC_len (c := 32) (lineW_len hw (by omega))
    have h3 : (lineW o).length * (41 + 1) ≤ 68 * 42 := Nat.mul_le_mul hf.len (Nat.le_refl _)
    omega
  have hs : splitC 32 (joinC 32 (lineW o)) = lineW o := split_joinC (by unfold lineW; simp) (lineW_no32 (by omega))
  have hd : lineW o = word k :: (shape k).flatMap (fieldW o) := by unfold lineW; rw [e]
  have hsk := shape_k k hk
  have hr := readF_fields hw (fun h => hf.r (hsk.1.1 (e ▸ h))) (fun h => hf.w (hsk.2.1.1 (e ▸ h))) (fun h => hf.a (hsk.2.2.1.1 (e ▸ h))) (fun h => hf.v (hsk.2.2.2.1 (e ▸ h))) hk he
  rw [he] at hr
  unfold parseA
  rw [if_neg (by omega), hs, hd]
  simp only [deedOf_word k hk]
  rw [hr]
theorem Back.fine {k : Nat} {ws : List Str} {o : Ln} (hb : Back k ws o) (hk : k < 17) : wrongA o = 0 := by
  have he := hb.e
  obtain ⟨s1, s2, s3, s4⟩ := shape_k k hk
  have h1 := fun h => hb.r (s1.2 h)
  have h2 := fun h => hb.w (s2.2 h)
  have h3 := fun h => hb.a (s3.2 h)
  have h4 := fun h => hb.v (s4.2 h)
  unfold wrongA
  rw [if_neg (by unfold wA; omega), if_neg (by unfold wB; intro h; have := h1 (by omega); omega), if_neg (by unfold wC; intro h; have := h2 (by omega); omega), if_neg (fun hD => ?_)]
  unfold wD at hD
  rcases hD with h | h
  · have := h3 (by omega)
    omega
  · have := h4 (by omega)
    omega
theorem parse_fine {s : Str} {o : Ln} (h : parseA s = .ok o) : o.wf ∧ printA o = .ok s ∧ wrongA o = 0 := by
  obtain ⟨k, hk, hs, ws, hb⟩ := parse_back h
  have h0 := hb.fine hk
  obtain ⟨k', hf⟩ := print_fine h0
  exact ⟨hb.wf, by rw [hf.p, ← hs], h0⟩
end Go.Proofs.YtkfnbpbhcnekiaaGreatDoor

/- What the rows give: the variables as they are laid; arguments opened. -/
namespace Go.Proofs.YtkfnbpbhcnekiaaGreatDoor
open Go.ChangeShapes Go.WideShapes Go.ChangeAt Go.RowKit Go.Deep
set_option maxRecDepth 100000

theorem own0 : ownKnob Tryz.prog.godebug = none := by kernel_rfl
theorem laid0 : laidOutB Tryz.prog = true := by kernel_rfl
theorem chk0 : Tryz.checked.prog = Tryz.prog := rfl
theorem strs_block {W : World} {n : String} {d : DataW Unit} {g t k : Nat} {zs : List Str} (h : Lib.VarReads Tryz.prog W n d) (hg : Tryz.prog.globalNamed n = some g) (ht : (Tryz.prog.globals[g]?).map (·.type) = some t)
    (hu : Tryz.prog.underlying t = some (.array k 9)) (hc : Tryz.prog.cellsOf t = k) (hd : d = .agg (zs.map fun z => .lit (.string z))) : cellsAt (hw W) g (strs zs) := by
  subst hd
  obtain ⟨cs, tt, fr, fuel, p, hb, hr⟩ := reads_block h hg ht
  have := strs_of_tab hu Tryz.underlying9 (by kernel_rfl) hc hr
  refine ⟨cs, tt, fr, hb, fun j hj => ?_⟩
  rw [← Array.getElem?_toList, this]
theorem iface_block {W : World} {n : String} {d : DataW Unit} {g : Nat} {s : String} (h : Lib.VarReads Tryz.prog W n (.iface s d)) (hg : Tryz.prog.globalNamed n = some g) (ht : (Tryz.prog.globals[g]?).map (·.type) = some 32) : ∃ te pe, cellsAt (hw W) g [.iface te pe] := by
  obtain ⟨cs, tt, fr, fuel, p, hb, hr⟩ := reads_block h hg ht
  obtain ⟨u, v, he⟩ := iface_of Tryz.underlying32 hr
  refine ⟨u, v, cs, tt, fr, hb, fun j hj => ?_⟩
  rw [← Array.getElem?_toList, he]
abbrev laidL : List (String × DataW Unit) := [("internal/strconv.uint64pow10", Rows.laid_internal_strconv_uint64pow10), ("strconv.ErrRange", Rows.laid_strconv_ErrRange), ("strconv.ErrSyntax", Rows.laid_strconv_ErrSyntax), ("noria/wait.names", Rows.laid_noria_wait_names), ("noria/script.words", Rows.laid_noria_script_words), ("noria/script.kinds", Rows.laid_noria_script_kinds)]
theorem glo_of {W : World} (hsh : W.ShapedOpen Tryz.prog) (rd : ∀ x ∈ laidL, Lib.VarReads Tryz.prog W x.1 x.2) : Glo (hw W) := by
  refine ⟨strs_block (rd ("noria/script.words", Rows.laid_noria_script_words) (by simp)) (by kernel_rfl) (by kernel_rfl) Tryz.underlying74 (by kernel_rfl) rfl,
    strs_block (rd ("noria/script.kinds", Rows.laid_noria_script_kinds) (by simp)) (by kernel_rfl) (by kernel_rfl) Tryz.underlying75 (by kernel_rfl) rfl,
    strs_block (rd ("noria/wait.names", Rows.laid_noria_wait_names) (by simp)) (by kernel_rfl) (by kernel_rfl) Tryz.underlying129 (by kernel_rfl) rfl, ?_, ?_,
    iface_block (rd ("strconv.ErrSyntax", Rows.laid_strconv_ErrSyntax) (by simp)) (by kernel_rfl) (by kernel_rfl),
    iface_block (rd ("strconv.ErrRange", Rows.laid_strconv_ErrRange) (by simp)) (by kernel_rfl) (by kernel_rfl)⟩
  · obtain ⟨cs, tt, fr, fuel, p, hb, hr⟩ := reads_block (g := 3) (t := 163) (rd ("internal/strconv.uint64pow10", Rows.laid_internal_strconv_uint64pow10) (by simp)) (by kernel_rfl) (by kernel_rfl)
    have := Lib.cells_of_tab (zs := Lib.pow10Tab) (k := .u64) Tryz.underlying163 (by kernel_rfl) (by kernel_rfl) (by kernel_rfl) hr
    refine ⟨tt, fr, ?_⟩
    rw [hb]
    congr 2
    rw [← this]
  · obtain ⟨m, hm⟩ := cell_of_shapedOpen_int (g := 4) (t := 3) (zero := #[.int .i64 0]) (k := .i64) hsh (of_decide_eq_true (by kernel_rfl)) (by kernel_rfl) rfl (by kernel_rfl) (by kernel_rfl) Tryz.underlying3
    refine ⟨m, ?_⟩
    unfold World.cell? at hm
    split at hm
    · rename_i cs t fr hb
      simp only [if_true] at hm
      exact ⟨cs, t, fr, hb, fun j hj => by
        have : j = 0 := by simpa using hj
        subst this
        exact hm⟩
    · cases hm
/-- A line among the arguments. -/
theorem open_ln {H : Type} {enc : TypeId × Value → H} {W : World} {base : Nat} {sp : Nat → Bool} {held : Bool} {r : Reach} {b0 : Nat} {v : Value} {d : DataW H} {p : List MemPlace} (hval : Value.okWide Tryz.prog W r b0 28 v) (h : DataW.Trod enc Tryz.prog W base sp held 28 v d p) :
    ∃ o A c B e, v = lnV o A c B e ∧ o.wf ∧ Rd (hw W) A o.after.length 1 (intsV o.after) ∧ Rd (hw W) B o.evs.length 2 (evsV o.evs) := by
  obtain ⟨cs, rfl, hsz⟩ := okWide_struct Tryz.underlying28 hval
  obtain ⟨fuel, hf⟩ := h
  have hf : DataW.trod enc Tryz.prog W base sp held fuel 28 cs.toList = some (d, p) := hf
  obtain ⟨xs, n, _, _, hlen, hxl, hfld⟩ := DataW.trod_struct Tryz.underlying28 hf
  have hxl : xs.length = 8 := hxl
  have hlen : cs.toList.length = 10 := hlen.trans (by kernel_rfl)
  have at_ : ∀ i, i < 8 → ∃ z, xs[i]? = some z := fun i hi => ⟨_, List.getElem?_eq_getElem (by omega)⟩
  have c1 : Tryz.prog.cellsOf 3 = 1 := by kernel_rfl
  have c2 : Tryz.prog.cellsOf 2 = 1 := by kernel_rfl
  have c24 : Tryz.prog.cellsOf 24 = 3 := by kernel_rfl
  have c25 : Tryz.prog.cellsOf 25 = 1 := by kernel_rfl
  have c26 : Tryz.prog.cellsOf 26 = 1 := by kernel_rfl
  have c72 : Tryz.prog.cellsOf 72 = 2 := by kernel_rfl
  have g0 : DataW.trod enc Tryz.prog W base sp held n 3 ((cs.toList.drop 0).take (Tryz.prog.cellsOf 3)) = xs[0]? := hfld 0 _ rfl
  rw [c1] at g0
  have g1 : DataW.trod enc Tryz.prog W base sp held n 3 ((cs.toList.drop 1).take (Tryz.prog.cellsOf 3)) = xs[1]? := hfld 1 _ rfl
  rw [c1] at g1
  have g2 : DataW.trod enc Tryz.prog W base sp held n 3 ((cs.toList.drop 2).take (Tryz.prog.cellsOf 3)) = xs[2]? := hfld 2 _ rfl
  rw [c1] at g2
  have g3 : DataW.trod enc Tryz.prog W base sp held n 3 ((cs.toList.drop 3).take (Tryz.prog.cellsOf 3)) = xs[3]? := hfld 3 _ rfl
  rw [c1] at g3
  have g4 : DataW.trod enc Tryz.prog W base sp held n 2 ((cs.toList.drop 4).take (Tryz.prog.cellsOf 2)) = xs[4]? := hfld 4 _ rfl
  rw [c2] at g4
  have g5 : DataW.trod enc Tryz.prog W base sp held n 24 ((cs.toList.drop 5).take (Tryz.prog.cellsOf 24)) = xs[5]? := hfld 5 _ rfl
  rw [c24] at g5
  have g6 : DataW.trod enc Tryz.prog W base sp held n 25 ((cs.toList.drop 8).take (Tryz.prog.cellsOf 25)) = xs[6]? := hfld 6 _ rfl
  rw [c25] at g6
  have g7 : DataW.trod enc Tryz.prog W base sp held n 26 ((cs.toList.drop 9).take (Tryz.prog.cellsOf 26)) = xs[7]? := hfld 7 _ rfl
  rw [c26] at g7
  obtain ⟨z0, e0⟩ := at_ 0 (by omega)
  obtain ⟨z1, e1⟩ := at_ 1 (by omega)
  obtain ⟨z2, e2⟩ := at_ 2 (by omega)
  obtain ⟨z3, e3⟩ := at_ 3 (by omega)
  obtain ⟨z4, e4⟩ := at_ 4 (by omega)
  obtain ⟨z5, e5⟩ := at_ 5 (by omega)
  obtain ⟨z6, e6⟩ := at_ 6 (by omega)
  obtain ⟨z7, e7⟩ := at_ 7 (by omega)
  rw [e0] at g0
  rw [e1] at g1
  rw [e2] at g2
  rw [e3] at g3
  rw [e4] at g4
  rw [e5] at g5
  rw [e6] at g6
  rw [e7] at g7
  obtain ⟨n0, q0, _, w0⟩ := DataW.trod_int Tryz.underlying3 g0
  obtain ⟨n1, q1, _, w1⟩ := DataW.trod_int Tryz.underlying3 g1
  obtain ⟨n2, q2, _, w2⟩ := DataW.trod_int Tryz.underlying3 g2
  obtain ⟨n3, q3, _, w3⟩ := DataW.trod_int Tryz.underlying3 g3
  obtain ⟨n4, q4, _, w4⟩ := DataW.trod_int Tryz.underlying2 g4
  obtain ⟨l5, q5, w5⟩ := trod_ints 4 (t := 24) (by kernel_rfl) g5
  obtain ⟨A, la, ca, q6, r6, w6, _, _⟩ := open_cells (encA := fun n => [Value.int .i64 n]) (Q := I64) Tryz.underlying25 c1 (by omega) (fun n cs y hy => by
    obtain ⟨k, hk, _, hw⟩ := DataW.trod_int Tryz.underlying3 hy
    exact ⟨k, hk, I64.of_wf hw⟩) (fun _ => rfl) g6
  obtain ⟨B, le, ce, q7, r7, w7, _, _⟩ := open_cells (encA := evC) (Q := fun x => I64 x.key ∧ I64 x.val) Tryz.underlying26 c72 (by omega) (fun n cs y hy => by
    obtain ⟨l, hl, hw⟩ := trod_ints 4 (t := 72) (by kernel_rfl) hy
    have hl2 : cs.length = 2 := by
      obtain ⟨_, _, _, _, hlen, _⟩ := DataW.trod_struct Tryz.underlying72 hy
      exact hlen.trans c72
    rw [hl] at hl2
    match l, hl2, hl, hw with
    | [a, b], _, hl, hw => exact ⟨⟨a, b⟩, hl, hw a (by simp), hw b (by simp)⟩) (fun _ => rfl) g7
  obtain ⟨l⟩ := cs
  match l, hlen with
  | [a0, a1, a2, a3, a4, a5, a6, a7, a8, a9], _ =>
    simp at q0 q1 q2 q3 q4 q6 q7
    have q5 : [a5, a6, a7] = ints64 l5 := q5
    match l5, q5, w5 with
    | [k, t, u], q5, w5 =>
      simp at q5
      obtain ⟨rfl, rfl, rfl⟩ := q5
      subst q0 q1 q2 q3 q4 q6 q7
      have hI := fun n (h : I64 n) => (show I64n n from h)
      refine ⟨⟨n0, n1, n2, n3, n4, ⟨k, t, u⟩, la, le⟩, A, ca, B, ce, rfl, ⟨I64.of_wf w0, I64.of_wf w1, I64.of_wf w2, I64.of_wf w3, I64.of_wf w4, w5 k (by simp), w5 t (by simp), w5 u (by simp), w6, w7⟩, ?_, r7⟩
      rw [← ints_flat]; exact r6
theorem open_str {H : Type} {enc : TypeId × Value → H} {W : World} {base : Nat} {sp : Nat → Bool} {held : Bool} {r : Reach} {b0 : Nat} {v : Value} {d : DataW H} {p : List MemPlace} (hval : Value.okWide Tryz.prog W r b0 9 v) (h : DataW.Trod enc Tryz.prog W base sp held 9 v d p) :
    ∃ s : Str, v = str s := by
  obtain ⟨s, rfl, _⟩ := Go.ChangeMaps.open_string Tryz.underlying9 hval h
  exact ⟨s.data.toList, by obtain ⟨a⟩ := s; simp⟩
theorem open_bytes {H : Type} {enc : TypeId × Value → H} {W : World} {base : Nat} {sp : Nat → Bool} {held : Bool} {r : Reach} {b0 : Nat} {v : Value} {d : DataW H} {p : List MemPlace} (hval : Value.okWide Tryz.prog W r b0 66 v) (h : DataW.Trod enc Tryz.prog W base sp held 66 v d p) :
    ∃ (A : Option Addr) (l : List UInt8) (c : Nat), v = .slice A l.length c ∧ Rd (hw W) A l.length 1 (u8s l) ∧ l.length ≤ c := by
  obtain ⟨A, l, c, h1, h2, _, h4, _⟩ := open_flat (encA := fun b : UInt8 => [Value.int .u8 b.toNat]) (Q := fun _ => True) Tryz.underlying66 (show Tryz.prog.cellsOf 5 = 1 by kernel_rfl) (by omega) (fun n cs y hy => by
    obtain ⟨k, hk, _, hw⟩ := DataW.trod_int Tryz.underlying5 hy
    have hb : 0 ≤ k ∧ k ≤ 255 := by simpa [Lit.wf, IntKind.min, IntKind.max, IntKind.signed, IntKind.bits] using hw
    refine ⟨UInt8.ofNat k.toNat, ?_, trivial⟩
    rw [hk, UInt8.toNat_ofNat']
    congr 2
    omega) (fun _ => rfl) hval h
  refine ⟨A, l, c, h1, ?_, h4⟩
  have e : (l.flatMap fun b : UInt8 => [Value.int .u8 b.toNat]) = u8s l := by
    clear h1 h2 h4
    induction l with
    | nil => rfl
    | cons x l ih => simp [ih]
  rw [← e]; exact h2
end Go.Proofs.YtkfnbpbhcnekiaaGreatDoor
