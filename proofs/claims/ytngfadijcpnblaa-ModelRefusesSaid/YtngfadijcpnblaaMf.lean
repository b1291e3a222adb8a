/- ModelRefuses, walked. -/
import Derived.Test.YtngfadijcpnblaaMe
import Derived.KernelRfl
import Derived.Test.YtngfadijcpnblaaChecked
import Derived.OpenShut
import Derived.SizedLaws
import Derived.Laws.Externs
set_option linter.unusedSimpArgs false
set_option linter.unusedVariables false
/- The program's model: shows. -/
namespace Go.Proofs.Ytngfadijcpnblaa
open Go.RowKit
set_option maxRecDepth 20000
set_option maxHeartbeats 4000000
theorem puts_snoc : ∀ (l : List Ev) (g : LogP) (i : Nat) (x : Ev), g.puts i (l ++ [x]) = (g.puts i l).put (i + l.length) x
  | [], g, i, x => rfl
  | a :: l, g, i, x => by
    show (g.put i a).puts (i + 1) (l ++ [x]) = _
    rw [puts_snoc l]
    show _ = ((g.put i a).puts (i + 1) l).put (i + (l.length + 1)) x
    rw [show i + 1 + l.length = i + (l.length + 1) by omega]
theorem anyPub_yes {g : LogP} : ∀ {n : Nat} {lo : Int} {q : Nat}, q < n → g.pub (lo + q) = true → anyPub g lo n = true
  | 0, _, _, h, _ => by omega
  | n + 1, lo, 0, _, h => by
    unfold anyPub
    rw [show lo + ((0 : Nat) : Int) = lo by omega] at h
    rw [h]; rfl
  | n + 1, lo, q + 1, hq, h => by
    unfold anyPub
    have := anyPub_yes (g := g) (n := n) (lo := lo + 1) (q := q) (by omega) (by rw [show lo + 1 + (q : Int) = lo + ((q + 1 : Nat) : Int) by omega]; exact h)
    rw [this]; simp
theorem anyPub_nil {g : LogP} : ∀ {n : Nat} {lo : Int}, (∀ q : Nat, q < n → g.pub (lo + q) = false) → anyPub g lo n = false
  | 0, _, _ => rfl
  | n + 1, lo, h => by
    unfold anyPub
    have h0 := h 0 (by omega)
    rw [show lo + ((0 : Nat) : Int) = lo by omega] at h0
    rw [h0, anyPub_nil (n := n) (lo := lo + 1) fun q hq => by rw [show lo + 1 + (q : Int) = lo + ((q + 1 : Nat) : Int) by omega]; exact h (q + 1) (by omega)]
    rfl
theorem CallH.enc_len (x : CallH) : x.enc.length = 1 := rfl
structure ShX where
  gX : LogH
  i : Nat
attribute [local irreducible] Nx Ar BrM
theorem shows_ok (M : MdH) (hm : MdW M.p) {k : Nat} {x : WrH} (hx : M.writers[k]? = some x) {q : Nat} (hq : x.ring = q) {g : LogH} (hg : M.logs[q]? = some g) {c : CallH} {r : List CallH} (hc : x.calls = c :: r) (n : Nt) :
    FnOk Try.prog 60 [ptr M.b, ptr x.b, n.v] [M.sp] (MdQ M.b (M.p.shows k x.p g.g c.l n)) := by
  have hxm := List.mem_of_getElem? hx
  have hxp := List.mem_map_of_mem (f := WrH.p) hxm
  have hgm := List.mem_of_getElem? hg
  have hgp := hm.gl g.g (List.mem_map_of_mem (f := LogH.g) hgm)
  have hw := hm.wb x.p hxp
  have hcm : c ∈ x.calls := by rw [hc]; exact List.mem_cons_self
  have hcl64 := hm.wcall x.p hxp c.l (List.mem_map_of_mem (f := CallH.l) hcm)
  have hsh := hm.wsh x.p hxp c.l (r.map CallH.l) (by show x.calls.map _ = _; rw [hc]; rfl)
  replace hw : -1 ≤ x.first ∧ x.first ≤ 4611686018427387904 ∧ x.shown ≤ 64 ∧ x.calls.length ≤ 200 := by simpa [WrH.p] using hw
  replace hsh : x.shown ≤ c.l.length := hsh
  have hL := M.seeL
  have hql : q < M.logs.length := (List.getElem?_eq_some_iff.1 hg).1
  have hgq : M.logs[q] = g := (List.getElem?_eq_some_iff.1 hg).2
  have hnl := hm.ln
  have m0 := M.seeM.sub 0 rfl
  have hwat := MdH.wat (M := M) hxm
  have x1 := hwat.sub 1 rfl
  have x2 := hwat.sub 2 rfl
  have x3 := hwat.sub 3 rfl
  have x4 := hwat.sub 4 rfl
  have hlat := MdH.lat (M := M) hgm
  have g1 := hlat.sub 1 rfl
  have g2 := hlat.sub 2 rfl
  rw [hq] at x1
  clear hwat hlat
  have hCalls : Sees M.sp x.cA x.calls.length 1 ((c :: r).flatMap CallH.enc) := by rw [← hc]; exact MdH.wca hxm
  have hcl : x.calls.length = (c :: r).length := by rw [hc]
  have hheld := Held_ok M hm q n.seq
  unfold MdP.shows
  unfold Nt.v
  refine FnOk.start Try.func60 rfl rfl rfl rfl fun F os tape output => ?_
  refine go 200 ?_
  conv => whnf
  refine Nx.bind (l := 5) (fun b5 => ?_) rfl
  refine Nx.joinR (E := [(0, .c (.v (ptr M.b))), (1, .c (.v (ptr x.b))), (5, .c (.loc 5 0)), (6, .c (.v .nilIface)), (7, .c (.v (ptr M.logs[q].b))), (8, sl c.A c.l.length c.c)]) (M := [(5, 42, [.v (.int .i64 n.who), .v (.int .i64 n.ring), .v (.int .i64 n.deed), .v (.int .i64 n.lo), .v (.int .i64 n.seq), .v (.int .i64 n.x.key), .v (.int .i64 n.x.val), .v (.int .i64 n.code)])]) (B := [(5, b5)]) (R := [(0, M.sp)]) (fun K => ?_) ?_
  · repeat' (first
      | ((with_reducible refine Nx.weak K ?_ ?_ ?_ ?_) <;> (first | exact subM.nil _ | exact subB.nil _ | exact subR.nil _ | ((repeat (first | exact subE.nil _ | refine subE.cons rfl rfl ?_ | refine subE.cons' rfl (fun _ => rfl) ?_ | (refine subE.cons rfl ?_ ?_; · (simp; done)))); done) | ((repeat (first | exact subM.nil _ | refine subM.cons rfl rfl rfl ?_)); done) | ((repeat (first | exact subB.nil _ | refine subB.cons rfl ?_)); done) | ((repeat (first | exact subR.nil _ | refine subR.cons rfl rfl ?_)); done) | omega | (dsimp only; omega) | skip))
      | ((with_reducible refine atBr ?_); (first | refine BrM.t rfl ?_ | refine BrM.f rfl ?_ | refine BrM.dec (fun _ => ?_) (fun _ => ?_) | refine BrM.mk (fun _ => ?_) (fun _ => ?_)) <;> conv => whnf)
      | ((with_reducible refine atAr ?_); refine Ar.i64 (by omega) (by omega) ?_; conv => whnf)
      | ((with_reducible refine (atDrawnN 1) ?_); refine Nx.drawn0 [0] [.pure 0, .pure 1, .pure 2, .held 3, .pure 4, .pure 5, .pure 6, .held 7, .pure 8, .held 9, .pure 10, .pure 11, .pure 12, .held 13, .pure 14, .held 15, .pure 16, .pure 17] rfl (by kernel_rfl) rfl (by kernel_rfl) rfl (by repeat (first | exact subB.nil _ | refine subB.cons rfl ?_)) rfl ?_)
      | ((with_reducible refine atHoIdx ?_); refine Nx.hoIdx 0 (j := q) rfl rfl rfl Try.underlying73 rfl rfl rfl LogH.pt_len hL rfl (by omega) (by omega) fun _ _ _ => ?_)
      | ((with_reducible refine atHoIdx ?_); refine Nx.hoIdx 0 (j := 0) rfl rfl rfl Try.underlying102 rfl rfl rfl CallH.enc_len hCalls hcl rfl (by simp) fun b p hq => ?_; have hq2 : SeesAt M.sp b p c.enc := hq)
      | ((with_reducible refine atHoLoad ?_); first | (refine Nx.hoLoad1 rfl rfl rfl rfl List.mem_cons_self (SeesAt.sub (by assumption) _ rfl) rfl ?_) | (refine Nx.hoLoad1 rfl rfl rfl rfl List.mem_cons_self (by assumption) rfl ?_) | (refine Nx.hoLoad rfl rfl rfl rfl List.mem_cons_self (by assumption) rfl rfl ?_) | (refine Nx.hoLoad1 rfl rfl rfl rfl (List.mem_cons_of_mem _ List.mem_cons_self) (SeesAt.sub (by assumption) _ rfl) rfl ?_) | (refine Nx.hoLoad1 rfl rfl rfl rfl (List.mem_cons_of_mem _ List.mem_cons_self) (by assumption) rfl ?_) | (refine Nx.hoLoad rfl rfl rfl rfl (List.mem_cons_of_mem _ List.mem_cons_self) (by assumption) rfl rfl ?_) | (refine Nx.hoLoad1 rfl rfl rfl rfl (List.mem_cons_of_mem _ (List.mem_cons_of_mem _ List.mem_cons_self)) (SeesAt.sub (by assumption) _ rfl) rfl ?_) | (refine Nx.hoLoad1 rfl rfl rfl rfl (List.mem_cons_of_mem _ (List.mem_cons_of_mem _ List.mem_cons_self)) (by assumption) rfl ?_) | (refine Nx.hoLoad rfl rfl rfl rfl (List.mem_cons_of_mem _ (List.mem_cons_of_mem _ List.mem_cons_self)) (by assumption) rfl rfl ?_) | (refine Nx.hoLoad1 rfl rfl rfl rfl (List.mem_cons_of_mem _ (List.mem_cons_of_mem _ (List.mem_cons_of_mem _ List.mem_cons_self))) (SeesAt.sub (by assumption) _ rfl) rfl ?_) | (refine Nx.hoLoad1 rfl rfl rfl rfl (List.mem_cons_of_mem _ (List.mem_cons_of_mem _ (List.mem_cons_of_mem _ List.mem_cons_self))) (by assumption) rfl ?_) | (refine Nx.hoLoad rfl rfl rfl rfl (List.mem_cons_of_mem _ (List.mem_cons_of_mem _ (List.mem_cons_of_mem _ List.mem_cons_self))) (by assumption) rfl rfl ?_))
      | ((with_reducible refine atOps ?_); refine goR 200 ?_; conv => whnf)
      | ((with_reducible refine atPlan ?_); refine Nx.runP (n := 200) rfl (by repeat (first | exact subB.nil _ | refine subB.cons rfl ?_)) ?_; conv => whnf)
      | ((with_reducible refine atAftL ?_); refine Nx.late ?_)
      | ((fail_if_success (with_reducible refine atRet ?_)); (fail_if_success (with_reducible refine atLoop ?_)); (fail_if_success (with_reducible refine atIn ?_)); (fail_if_success (with_reducible refine atDrawn ?_)); (fail_if_success (with_reducible refine atEnd ?_)); (with_reducible refine atRun ?_); refine goR 1 ?_; conv => whnf))
  rw [hgq]
  refine go 1 ?_
  conv => whnf
  refine Nx.joinR (E := [(0, .c (.v (ptr M.b))), (1, .c (.v (ptr x.b))), (5, .c (.loc 5 0)), (6, .c (.v .nilIface)), (7, .c (.v (ptr g.b))), (8, sl c.A c.l.length c.c), (9, iv (x.first + x.shown))]) (M := [(5, 42, [.v (.int .i64 n.who), .v (.int .i64 n.ring), .v (.int .i64 n.deed), .v (.int .i64 n.lo), .v (.int .i64 n.seq), .v (.int .i64 n.x.key), .v (.int .i64 n.x.val), .v (.int .i64 n.code)])]) (B := [(5, b5)]) (R := [(0, M.sp)]) (fun K => ?_) ?_
  · repeat' (first
      | ((with_reducible refine Nx.weak K ?_ ?_ ?_ ?_) <;> (first | exact subM.nil _ | exact subB.nil _ | exact subR.nil _ | ((repeat (first | exact subE.nil _ | refine subE.cons rfl rfl ?_ | refine subE.cons' rfl (fun _ => rfl) ?_ | (refine subE.cons rfl ?_ ?_; · (simp; done)))); done) | ((repeat (first | exact subM.nil _ | refine subM.cons rfl rfl rfl ?_)); done) | ((repeat (first | exact subB.nil _ | refine subB.cons rfl ?_)); done) | ((repeat (first | exact subR.nil _ | refine subR.cons rfl rfl ?_)); done) | omega | (dsimp only; omega) | skip))
      | ((with_reducible refine atBr ?_); (first | refine BrM.t rfl ?_ | refine BrM.f rfl ?_ | refine BrM.dec (fun _ => ?_) (fun _ => ?_) | refine BrM.mk (fun _ => ?_) (fun _ => ?_)) <;> conv => whnf)
      | ((with_reducible refine atAr ?_); refine Ar.i64 (by omega) (by omega) ?_; conv => whnf)
      | ((with_reducible refine (atDrawnN 2) ?_); refine Nx.drawn0 [0] [.pure 0, .pure 1, .pure 2, .held 3, .pure 4, .pure 5, .pure 6, .held 7, .pure 8, .pure 9] rfl (by kernel_rfl) rfl (by kernel_rfl) rfl (by repeat (first | exact subB.nil _ | refine subB.cons rfl ?_)) rfl ?_)
      | ((with_reducible refine atHoLoad ?_); first | (refine Nx.hoLoad1 rfl rfl rfl rfl List.mem_cons_self (SeesAt.sub (by assumption) _ rfl) rfl ?_) | (refine Nx.hoLoad1 rfl rfl rfl rfl List.mem_cons_self (by assumption) rfl ?_) | (refine Nx.hoLoad rfl rfl rfl rfl List.mem_cons_self (by assumption) rfl rfl ?_) | (refine Nx.hoLoad1 rfl rfl rfl rfl (List.mem_cons_of_mem _ List.mem_cons_self) (SeesAt.sub (by assumption) _ rfl) rfl ?_) | (refine Nx.hoLoad1 rfl rfl rfl rfl (List.mem_cons_of_mem _ List.mem_cons_self) (by assumption) rfl ?_) | (refine Nx.hoLoad rfl rfl rfl rfl (List.mem_cons_of_mem _ List.mem_cons_self) (by assumption) rfl rfl ?_) | (refine Nx.hoLoad1 rfl rfl rfl rfl (List.mem_cons_of_mem _ (List.mem_cons_of_mem _ List.mem_cons_self)) (SeesAt.sub (by assumption) _ rfl) rfl ?_) | (refine Nx.hoLoad1 rfl rfl rfl rfl (List.mem_cons_of_mem _ (List.mem_cons_of_mem _ List.mem_cons_self)) (by assumption) rfl ?_) | (refine Nx.hoLoad rfl rfl rfl rfl (List.mem_cons_of_mem _ (List.mem_cons_of_mem _ List.mem_cons_self)) (by assumption) rfl rfl ?_) | (refine Nx.hoLoad1 rfl rfl rfl rfl (List.mem_cons_of_mem _ (List.mem_cons_of_mem _ (List.mem_cons_of_mem _ List.mem_cons_self))) (SeesAt.sub (by assumption) _ rfl) rfl ?_) | (refine Nx.hoLoad1 rfl rfl rfl rfl (List.mem_cons_of_mem _ (List.mem_cons_of_mem _ (List.mem_cons_of_mem _ List.mem_cons_self))) (by assumption) rfl ?_) | (refine Nx.hoLoad rfl rfl rfl rfl (List.mem_cons_of_mem _ (List.mem_cons_of_mem _ (List.mem_cons_of_mem _ List.mem_cons_self))) (by assumption) rfl rfl ?_))
      | ((with_reducible refine atOps ?_); refine goR 200 ?_; conv => whnf)
      | ((with_reducible refine atPlan ?_); refine Nx.runP (n := 200) rfl (by repeat (first | exact subB.nil _ | refine subB.cons rfl ?_)) ?_; conv => whnf)
      | ((with_reducible refine atAftL ?_); refine Nx.late ?_)
      | ((fail_if_success (with_reducible refine atRet ?_)); (fail_if_success (with_reducible refine atLoop ?_)); (fail_if_success (with_reducible refine atIn ?_)); (fail_if_success (with_reducible refine atDrawn ?_)); (fail_if_success (with_reducible refine atEnd ?_)); (with_reducible refine atRun ?_); refine goR 1 ?_; conv => whnf))
  refine go 1 ?_
  conv => whnf
  by_cases d1 : n.lo < 0 ∨ n.seq < n.lo ∨ 4611686018427387904 < n.seq
  · rw [if_pos d1]
    repeat' (first
      | ((with_reducible refine atBr ?_); refine BrM.yes (by omega) ?_; conv => whnf)
      | ((with_reducible refine atBr ?_); refine BrM.not (by omega) ?_; conv => whnf)
      | ((with_reducible refine atBr ?_); (first | refine BrM.t rfl ?_ | refine BrM.f rfl ?_ | refine BrM.dec (fun _ => ?_) (fun _ => ?_) | refine BrM.mk (fun _ => ?_) (fun _ => ?_)) <;> conv => whnf)
      | ((with_reducible refine atAr ?_); refine Ar.i64 (by omega) (by omega) ?_; conv => whnf)
      | ((with_reducible refine (atDrawnN 5) ?_); refine Nx.drawn0 [0] [.pure 0, .pure 1, .pure 2, .held 3, .pure 4, .pure 5, .pure 6, .held 7, .pure 8, .pure 9, .pure 10, .pure 11, .pure 12, .held 13, .pure 14, .held 15, .pure 16, .pure 17, .pure 18, .pure 19, .pure 20, .pure 21, .held 22, .pure 23, .pure 24, .pure 25, .pure 26] rfl (by kernel_rfl) rfl (by kernel_rfl) rfl (by repeat (first | exact subB.nil _ | refine subB.cons rfl ?_)) rfl ?_)
      | ((with_reducible refine (atDrawnN 9) ?_); refine Nx.drawn0 [0] [.pure 0, .pure 1, .pure 2, .held 3, .pure 4, .pure 5, .pure 6, .held 7, .pure 8, .pure 9, .pure 10, .held 11, .pure 12, .pure 13, .pure 14, .pure 15, .pure 16, .held 17, .pure 18, .pure 19, .pure 20, .held 21, .pure 22, .pure 23, .pure 24, .pure 25, .pure 26] rfl (by kernel_rfl) rfl (by kernel_rfl) rfl (by repeat (first | exact subB.nil _ | refine subB.cons rfl ?_)) rfl ?_)
      | ((with_reducible refine (atDrawnN 11) ?_); refine Nx.drawn0 [0] [.pure 0, .pure 1, .pure 2, .pure 3, .held 4, .pure 5, .held 6, .ex 7 true, .pure 8] rfl (by kernel_rfl) rfl (by kernel_rfl) rfl (by repeat (first | exact subB.nil _ | refine subB.cons rfl ?_)) rfl ?_)
      | ((with_reducible refine atHoLoad ?_); first | (refine Nx.hoLoad1 rfl rfl rfl rfl List.mem_cons_self (SeesAt.sub (by assumption) _ rfl) rfl ?_) | (refine Nx.hoLoad1 rfl rfl rfl rfl List.mem_cons_self (by assumption) rfl ?_) | (refine Nx.hoLoad rfl rfl rfl rfl List.mem_cons_self (by assumption) rfl rfl ?_) | (refine Nx.hoLoad1 rfl rfl rfl rfl (List.mem_cons_of_mem _ List.mem_cons_self) (SeesAt.sub (by assumption) _ rfl) rfl ?_) | (refine Nx.hoLoad1 rfl rfl rfl rfl (List.mem_cons_of_mem _ List.mem_cons_self) (by assumption) rfl ?_) | (refine Nx.hoLoad rfl rfl rfl rfl (List.mem_cons_of_mem _ List.mem_cons_self) (by assumption) rfl rfl ?_) | (refine Nx.hoLoad1 rfl rfl rfl rfl (List.mem_cons_of_mem _ (List.mem_cons_of_mem _ List.mem_cons_self)) (SeesAt.sub (by assumption) _ rfl) rfl ?_) | (refine Nx.hoLoad1 rfl rfl rfl rfl (List.mem_cons_of_mem _ (List.mem_cons_of_mem _ List.mem_cons_self)) (by assumption) rfl ?_) | (refine Nx.hoLoad rfl rfl rfl rfl (List.mem_cons_of_mem _ (List.mem_cons_of_mem _ List.mem_cons_self)) (by assumption) rfl rfl ?_) | (refine Nx.hoLoad1 rfl rfl rfl rfl (List.mem_cons_of_mem _ (List.mem_cons_of_mem _ (List.mem_cons_of_mem _ List.mem_cons_self))) (SeesAt.sub (by assumption) _ rfl) rfl ?_) | (refine Nx.hoLoad1 rfl rfl rfl rfl (List.mem_cons_of_mem _ (List.mem_cons_of_mem _ (List.mem_cons_of_mem _ List.mem_cons_self))) (by assumption) rfl ?_) | (refine Nx.hoLoad rfl rfl rfl rfl (List.mem_cons_of_mem _ (List.mem_cons_of_mem _ (List.mem_cons_of_mem _ List.mem_cons_self))) (by assumption) rfl rfl ?_))
      | ((with_reducible refine atLoad ?_); refine Nx.load1 0 rfl rfl rfl rfl (g1) rfl ?_)
      | ((with_reducible refine (atCall 37) ?_); refine Nx.call [] [9] rfl rfl rfl rfl rfl ((wrong_ok _ _ 5)) rfl fun v Q hQ => ?_; obtain ⟨b,rfl,rfl⟩ := hQ)
      | ((with_reducible refine atRet ?_); refine Nx.ret [0,9] Try.func60 rfl rfl ?_; (exact MdQ.yes rfl (by decide)))
      | ((with_reducible refine atOps ?_); refine go 200 ?_; conv => whnf)
      | ((with_reducible refine atPlan ?_); refine Nx.runP (n := 200) rfl (by repeat (first | exact subB.nil _ | refine subB.cons rfl ?_)) ?_; conv => whnf)
      | ((with_reducible refine atAftL ?_); refine Nx.late ?_)
      | ((fail_if_success (with_reducible refine atRet ?_)); (fail_if_success (with_reducible refine atLoop ?_)); (fail_if_success (with_reducible refine atIn ?_)); (fail_if_success (with_reducible refine atDrawn ?_)); (fail_if_success (with_reducible refine atEnd ?_)); (with_reducible refine atRun ?_); refine go 200 ?_; conv => whnf))
  rw [if_neg d1]
  replace hheld := hheld (by omega)
  have exs : x.p.shown = x.shown := rfl
  have exf : x.p.first = x.first := rfl
  have exr : x.p.ring = q := hq
  rw [exs, exf, exr]
  by_cases d2 : (0 < x.shown ∧ n.lo ≠ x.first + x.shown) ∨ (c.l.length : Int) - x.shown ≤ n.seq - n.lo
  · rw [if_pos d2]
    repeat' (first
      | ((with_reducible refine atBr ?_); refine BrM.yes (by omega) ?_; conv => whnf)
      | ((with_reducible refine atBr ?_); refine BrM.not (by omega) ?_; conv => whnf)
      | ((with_reducible refine atBr ?_); (first | refine BrM.t rfl ?_ | refine BrM.f rfl ?_ | refine BrM.dec (fun _ => ?_) (fun _ => ?_) | refine BrM.mk (fun _ => ?_) (fun _ => ?_)) <;> conv => whnf)
      | ((with_reducible refine atAr ?_); refine Ar.i64 (by omega) (by omega) ?_; conv => whnf)
      | ((with_reducible refine (atDrawnN 5) ?_); refine Nx.drawn0 [0] [.pure 0, .pure 1, .pure 2, .held 3, .pure 4, .pure 5, .pure 6, .held 7, .pure 8, .pure 9, .pure 10, .pure 11, .pure 12, .held 13, .pure 14, .held 15, .pure 16, .pure 17, .pure 18, .pure 19, .pure 20, .pure 21, .held 22, .pure 23, .pure 24, .pure 25, .pure 26] rfl (by kernel_rfl) rfl (by kernel_rfl) rfl (by repeat (first | exact subB.nil _ | refine subB.cons rfl ?_)) rfl ?_)
      | ((with_reducible refine (atDrawnN 9) ?_); refine Nx.drawn0 [0] [.pure 0, .pure 1, .pure 2, .held 3, .pure 4, .pure 5, .pure 6, .held 7, .pure 8, .pure 9, .pure 10, .held 11, .pure 12, .pure 13, .pure 14, .pure 15, .pure 16, .held 17, .pure 18, .pure 19, .pure 20, .held 21, .pure 22, .pure 23, .pure 24, .pure 25, .pure 26] rfl (by kernel_rfl) rfl (by kernel_rfl) rfl (by repeat (first | exact subB.nil _ | refine subB.cons rfl ?_)) rfl ?_)
      | ((with_reducible refine (atDrawnN 11) ?_); refine Nx.drawn0 [0] [.pure 0, .pure 1, .pure 2, .pure 3, .held 4, .pure 5, .held 6, .ex 7 true, .pure 8] rfl (by kernel_rfl) rfl (by kernel_rfl) rfl (by repeat (first | exact subB.nil _ | refine subB.cons rfl ?_)) rfl ?_)
      | ((with_reducible refine atHoLoad ?_); first | (refine Nx.hoLoad1 rfl rfl rfl rfl List.mem_cons_self (SeesAt.sub (by assumption) _ rfl) rfl ?_) | (refine Nx.hoLoad1 rfl rfl rfl rfl List.mem_cons_self (by assumption) rfl ?_) | (refine Nx.hoLoad rfl rfl rfl rfl List.mem_cons_self (by assumption) rfl rfl ?_) | (refine Nx.hoLoad1 rfl rfl rfl rfl (List.mem_cons_of_mem _ List.mem_cons_self) (SeesAt.sub (by assumption) _ rfl) rfl ?_) | (refine Nx.hoLoad1 rfl rfl rfl rfl (List.mem_cons_of_mem _ List.mem_cons_self) (by assumption) rfl ?_) | (refine Nx.hoLoad rfl rfl rfl rfl (List.mem_cons_of_mem _ List.mem_cons_self) (by assumption) rfl rfl ?_) | (refine Nx.hoLoad1 rfl rfl rfl rfl (List.mem_cons_of_mem _ (List.mem_cons_of_mem _ List.mem_cons_self)) (SeesAt.sub (by assumption) _ rfl) rfl ?_) | (refine Nx.hoLoad1 rfl rfl rfl rfl (List.mem_cons_of_mem _ (List.mem_cons_of_mem _ List.mem_cons_self)) (by assumption) rfl ?_) | (refine Nx.hoLoad rfl rfl rfl rfl (List.mem_cons_of_mem _ (List.mem_cons_of_mem _ List.mem_cons_self)) (by assumption) rfl rfl ?_) | (refine Nx.hoLoad1 rfl rfl rfl rfl (List.mem_cons_of_mem _ (List.mem_cons_of_mem _ (List.mem_cons_of_mem _ List.mem_cons_self))) (SeesAt.sub (by assumption) _ rfl) rfl ?_) | (refine Nx.hoLoad1 rfl rfl rfl rfl (List.mem_cons_of_mem _ (List.mem_cons_of_mem _ (List.mem_cons_of_mem _ List.mem_cons_self))) (by assumption) rfl ?_) | (refine Nx.hoLoad rfl rfl rfl rfl (List.mem_cons_of_mem _ (List.mem_cons_of_mem _ (List.mem_cons_of_mem _ List.mem_cons_self))) (by assumption) rfl rfl ?_))
      | ((with_reducible refine atLoad ?_); refine Nx.load1 0 rfl rfl rfl rfl (g1) rfl ?_)
      | ((with_reducible refine (atCall 37) ?_); refine Nx.call [] [9] rfl rfl rfl rfl rfl ((wrong_ok _ _ 1)) rfl fun v Q hQ => ?_; obtain ⟨b,rfl,rfl⟩ := hQ)
      | ((with_reducible refine atRet ?_); refine Nx.ret [0,9] Try.func60 rfl rfl ?_; (exact MdQ.yes rfl (by decide)))
      | ((with_reducible refine atOps ?_); refine go 200 ?_; conv => whnf)
      | ((with_reducible refine atPlan ?_); refine Nx.runP (n := 200) rfl (by repeat (first | exact subB.nil _ | refine subB.cons rfl ?_)) ?_; conv => whnf)
      | ((with_reducible refine atAftL ?_); refine Nx.late ?_)
      | ((fail_if_success (with_reducible refine atRet ?_)); (fail_if_success (with_reducible refine atLoop ?_)); (fail_if_success (with_reducible refine atIn ?_)); (fail_if_success (with_reducible refine atDrawn ?_)); (fail_if_success (with_reducible refine atEnd ?_)); (with_reducible refine atRun ?_); refine go 200 ?_; conv => whnf))
  rw [if_neg d2]
  by_cases d3 : (g.g.many = true ∧ n.seq ≠ n.lo) ∨ (g.g.many = false ∧ n.seq - n.lo ≠ (c.l.length : Int) - 1)
  · rw [if_pos d3]
    cases hmany : g.g.many with
    | true =>
      rw [hmany] at g1
      have d3' : n.seq ≠ n.lo := by rcases d3 with d | d; exact d.2; rw [hmany] at d; cases d.1
      repeat' (first
        | ((with_reducible refine atBr ?_); refine BrM.yes (by omega) ?_; conv => whnf)
        | ((with_reducible refine atBr ?_); refine BrM.not (by omega) ?_; conv => whnf)
        | ((with_reducible refine atBr ?_); (first | refine BrM.t rfl ?_ | refine BrM.f rfl ?_ | refine BrM.dec (fun _ => ?_) (fun _ => ?_) | refine BrM.mk (fun _ => ?_) (fun _ => ?_)) <;> conv => whnf)
        | ((with_reducible refine atAr ?_); refine Ar.i64 (by omega) (by omega) ?_; conv => whnf)
        | ((with_reducible refine (atDrawnN 5) ?_); refine Nx.drawn0 [0] [.pure 0, .pure 1, .pure 2, .held 3, .pure 4, .pure 5, .pure 6, .held 7, .pure 8, .pure 9, .pure 10, .pure 11, .pure 12, .held 13, .pure 14, .held 15, .pure 16, .pure 17, .pure 18, .pure 19, .pure 20, .pure 21, .held 22, .pure 23, .pure 24, .pure 25, .pure 26] rfl (by kernel_rfl) rfl (by kernel_rfl) rfl (by repeat (first | exact subB.nil _ | refine subB.cons rfl ?_)) rfl ?_)
        | ((with_reducible refine (atDrawnN 9) ?_); refine Nx.drawn0 [0] [.pure 0, .pure 1, .pure 2, .held 3, .pure 4, .pure 5, .pure 6, .held 7, .pure 8, .pure 9, .pure 10, .held 11, .pure 12, .pure 13, .pure 14, .pure 15, .pure 16, .held 17, .pure 18, .pure 19, .pure 20, .held 21, .pure 22, .pure 23, .pure 24, .pure 25, .pure 26] rfl (by kernel_rfl) rfl (by kernel_rfl) rfl (by repeat (first | exact subB.nil _ | refine subB.cons rfl ?_)) rfl ?_)
        | ((with_reducible refine (atDrawnN 11) ?_); refine Nx.drawn0 [0] [.pure 0, .pure 1, .pure 2, .pure 3, .held 4, .pure 5, .held 6, .ex 7 true, .pure 8] rfl (by kernel_rfl) rfl (by kernel_rfl) rfl (by repeat (first | exact subB.nil _ | refine subB.cons rfl ?_)) rfl ?_)
        | ((with_reducible refine atHoLoad ?_); first | (refine Nx.hoLoad1 rfl rfl rfl rfl List.mem_cons_self (SeesAt.sub (by assumption) _ rfl) rfl ?_) | (refine Nx.hoLoad1 rfl rfl rfl rfl List.mem_cons_self (by assumption) rfl ?_) | (refine Nx.hoLoad rfl rfl rfl rfl List.mem_cons_self (by assumption) rfl rfl ?_) | (refine Nx.hoLoad1 rfl rfl rfl rfl (List.mem_cons_of_mem _ List.mem_cons_self) (SeesAt.sub (by assumption) _ rfl) rfl ?_) | (refine Nx.hoLoad1 rfl rfl rfl rfl (List.mem_cons_of_mem _ List.mem_cons_self) (by assumption) rfl ?_) | (refine Nx.hoLoad rfl rfl rfl rfl (List.mem_cons_of_mem _ List.mem_cons_self) (by assumption) rfl rfl ?_) | (refine Nx.hoLoad1 rfl rfl rfl rfl (List.mem_cons_of_mem _ (List.mem_cons_of_mem _ List.mem_cons_self)) (SeesAt.sub (by assumption) _ rfl) rfl ?_) | (refine Nx.hoLoad1 rfl rfl rfl rfl (List.mem_cons_of_mem _ (List.mem_cons_of_mem _ List.mem_cons_self)) (by assumption) rfl ?_) | (refine Nx.hoLoad rfl rfl rfl rfl (List.mem_cons_of_mem _ (List.mem_cons_of_mem _ List.mem_cons_self)) (by assumption) rfl rfl ?_) | (refine Nx.hoLoad1 rfl rfl rfl rfl (List.mem_cons_of_mem _ (List.mem_cons_of_mem _ (List.mem_cons_of_mem _ List.mem_cons_self))) (SeesAt.sub (by assumption) _ rfl) rfl ?_) | (refine Nx.hoLoad1 rfl rfl rfl rfl (List.mem_cons_of_mem _ (List.mem_cons_of_mem _ (List.mem_cons_of_mem _ List.mem_cons_self))) (by assumption) rfl ?_) | (refine Nx.hoLoad rfl rfl rfl rfl (List.mem_cons_of_mem _ (List.mem_cons_of_mem _ (List.mem_cons_of_mem _ List.mem_cons_self))) (by assumption) rfl rfl ?_))
        | ((with_reducible refine atLoad ?_); refine Nx.load1 0 rfl rfl rfl rfl (g1) rfl ?_)
        | ((with_reducible refine (atCall 37) ?_); refine Nx.call [] [9] rfl rfl rfl rfl rfl ((wrong_ok _ _ 1)) rfl fun v Q hQ => ?_; obtain ⟨b,rfl,rfl⟩ := hQ)
        | ((with_reducible refine atRet ?_); refine Nx.ret [0,9] Try.func60 rfl rfl ?_; (exact MdQ.yes rfl (by decide)))
        | ((with_reducible refine atOps ?_); refine go 200 ?_; conv => whnf)
        | ((with_reducible refine atPlan ?_); refine Nx.runP (n := 200) rfl (by repeat (first | exact subB.nil _ | refine subB.cons rfl ?_)) ?_; conv => whnf)
        | ((with_reducible refine atAftL ?_); refine Nx.late ?_)
        | ((fail_if_success (with_reducible refine atRet ?_)); (fail_if_success (with_reducible refine atLoop ?_)); (fail_if_success (with_reducible refine atIn ?_)); (fail_if_success (with_reducible refine atDrawn ?_)); (fail_if_success (with_reducible refine atEnd ?_)); (with_reducible refine atRun ?_); refine go 200 ?_; conv => whnf))
    | false =>
      rw [hmany] at g1
      have d3' : n.seq - n.lo ≠ (c.l.length : Int) - 1 := by rcases d3 with d | d; rw [hmany] at d; cases d.1; exact d.2
      repeat' (first
        | ((with_reducible refine atBr ?_); refine BrM.yes (by omega) ?_; conv => whnf)
        | ((with_reducible refine atBr ?_); refine BrM.not (by omega) ?_; conv => whnf)
        | ((with_reducible refine atBr ?_); (first | refine BrM.t rfl ?_ | refine BrM.f rfl ?_ | refine BrM.dec (fun _ => ?_) (fun _ => ?_) | refine BrM.mk (fun _ => ?_) (fun _ => ?_)) <;> conv => whnf)
        | ((with_reducible refine atAr ?_); refine Ar.i64 (by omega) (by omega) ?_; conv => whnf)
        | ((with_reducible refine (atDrawnN 5) ?_); refine Nx.drawn0 [0] [.pure 0, .pure 1, .pure 2, .held 3, .pure 4, .pure 5, .pure 6, .held 7, .pure 8, .pure 9, .pure 10, .pure 11, .pure 12, .held 13, .pure 14, .held 15, .pure 16, .pure 17, .pure 18, .pure 19, .pure 20, .pure 21, .held 22, .pure 23, .pure 24, .pure 25, .pure 26] rfl (by kernel_rfl) rfl (by kernel_rfl) rfl (by repeat (first | exact subB.nil _ | refine subB.cons rfl ?_)) rfl ?_)
        | ((with_reducible refine (atDrawnN 9) ?_); refine Nx.drawn0 [0] [.pure 0, .pure 1, .pure 2, .held 3, .pure 4, .pure 5, .pure 6, .held 7, .pure 8, .pure 9, .pure 10, .held 11, .pure 12, .pure 13, .pure 14, .pure 15, .pure 16, .held 17, .pure 18, .pure 19, .pure 20, .held 21, .pure 22, .pure 23, .pure 24, .pure 25, .pure 26] rfl (by kernel_rfl) rfl (by kernel_rfl) rfl (by repeat (first | exact subB.nil _ | refine subB.cons rfl ?_)) rfl ?_)
        | ((with_reducible refine (atDrawnN 11) ?_); refine Nx.drawn0 [0] [.pure 0, .pure 1, .pure 2, .pure 3, .held 4, .pure 5, .held 6, .ex 7 true, .pure 8] rfl (by kernel_rfl) rfl (by kernel_rfl) rfl (by repeat (first | exact subB.nil _ | refine subB.cons rfl ?_)) rfl ?_)
        | ((with_reducible refine atHoLoad ?_); first | (refine Nx.hoLoad1 rfl rfl rfl rfl List.mem_cons_self (SeesAt.sub (by assumption) _ rfl) rfl ?_) | (refine Nx.hoLoad1 rfl rfl rfl rfl List.mem_cons_self (by assumption) rfl ?_) | (refine Nx.hoLoad rfl rfl rfl rfl List.mem_cons_self (by assumption) rfl rfl ?_) | (refine Nx.hoLoad1 rfl rfl rfl rfl (List.mem_cons_of_mem _ List.mem_cons_self) (SeesAt.sub (by assumption) _ rfl) rfl ?_) | (refine Nx.hoLoad1 rfl rfl rfl rfl (List.mem_cons_of_mem _ List.mem_cons_self) (by assumption) rfl ?_) | (refine Nx.hoLoad rfl rfl rfl rfl (List.mem_cons_of_mem _ List.mem_cons_self) (by assumption) rfl rfl ?_) | (refine Nx.hoLoad1 rfl rfl rfl rfl (List.mem_cons_of_mem _ (List.mem_cons_of_mem _ List.mem_cons_self)) (SeesAt.sub (by assumption) _ rfl) rfl ?_) | (refine Nx.hoLoad1 rfl rfl rfl rfl (List.mem_cons_of_mem _ (List.mem_cons_of_mem _ List.mem_cons_self)) (by assumption) rfl ?_) | (refine Nx.hoLoad rfl rfl rfl rfl (List.mem_cons_of_mem _ (List.mem_cons_of_mem _ List.mem_cons_self)) (by assumption) rfl rfl ?_) | (refine Nx.hoLoad1 rfl rfl rfl rfl (List.mem_cons_of_mem _ (List.mem_cons_of_mem _ (List.mem_cons_of_mem _ List.mem_cons_self))) (SeesAt.sub (by assumption) _ rfl) rfl ?_) | (refine Nx.hoLoad1 rfl rfl rfl rfl (List.mem_cons_of_mem _ (List.mem_cons_of_mem _ (List.mem_cons_of_mem _ List.mem_cons_self))) (by assumption) rfl ?_) | (refine Nx.hoLoad rfl rfl rfl rfl (List.mem_cons_of_mem _ (List.mem_cons_of_mem _ (List.mem_cons_of_mem _ List.mem_cons_self))) (by assumption) rfl rfl ?_))
        | ((with_reducible refine atLoad ?_); refine Nx.load1 0 rfl rfl rfl rfl (g1) rfl ?_)
        | ((with_reducible refine (atCall 37) ?_); refine Nx.call [] [9] rfl rfl rfl rfl rfl ((wrong_ok _ _ 1)) rfl fun v Q hQ => ?_; obtain ⟨b,rfl,rfl⟩ := hQ)
        | ((with_reducible refine atRet ?_); refine Nx.ret [0,9] Try.func60 rfl rfl ?_; (exact MdQ.yes rfl (by decide)))
        | ((with_reducible refine atOps ?_); refine go 200 ?_; conv => whnf)
        | ((with_reducible refine atPlan ?_); refine Nx.runP (n := 200) rfl (by repeat (first | exact subB.nil _ | refine subB.cons rfl ?_)) ?_; conv => whnf)
        | ((with_reducible refine atAftL ?_); refine Nx.late ?_)
        | ((fail_if_success (with_reducible refine atRet ?_)); (fail_if_success (with_reducible refine atLoop ?_)); (fail_if_success (with_reducible refine atIn ?_)); (fail_if_success (with_reducible refine atDrawn ?_)); (fail_if_success (with_reducible refine atEnd ?_)); (with_reducible refine atRun ?_); refine go 200 ?_; conv => whnf))
  rw [if_neg d3]
  have many3 : (g.g.many = true → n.seq = n.lo) ∧ (g.g.many = false → n.seq - n.lo = (c.l.length : Int) - 1) := by
    refine ⟨fun h => Decidable.byContradiction fun e => d3 (.inl ⟨h, e⟩), fun h => Decidable.byContradiction fun e => d3 (.inr ⟨h, e⟩)⟩
  by_cases d4 : (g.g.many = false ∧ n.lo ≠ g.g.l.length) ∨ (g.g.l.length : Int) + 8192 < n.lo
  · rw [if_pos d4]
    cases hmany : g.g.many with
    | true =>
      have d3' := many3.1 hmany
      rw [hmany] at g1
      have d4' : (g.g.l.length : Int) + 8192 < n.lo := by rcases d4 with d | d; rw [hmany] at d; cases d.1; exact d
      repeat' (first
        | ((with_reducible refine atBr ?_); refine BrM.yes (by omega) ?_; conv => whnf)
        | ((with_reducible refine atBr ?_); refine BrM.not (by omega) ?_; conv => whnf)
        | ((with_reducible refine atBr ?_); (first | refine BrM.t rfl ?_ | refine BrM.f rfl ?_ | refine BrM.dec (fun _ => ?_) (fun _ => ?_) | refine BrM.mk (fun _ => ?_) (fun _ => ?_)) <;> conv => whnf)
        | ((with_reducible refine atAr ?_); refine Ar.i64 (by omega) (by omega) ?_; conv => whnf)
        | ((with_reducible refine (atDrawnN 5) ?_); refine Nx.drawn0 [0] [.pure 0, .pure 1, .pure 2, .held 3, .pure 4, .pure 5, .pure 6, .held 7, .pure 8, .pure 9, .pure 10, .pure 11, .pure 12, .held 13, .pure 14, .held 15, .pure 16, .pure 17, .pure 18, .pure 19, .pure 20, .pure 21, .held 22, .pure 23, .pure 24, .pure 25, .pure 26] rfl (by kernel_rfl) rfl (by kernel_rfl) rfl (by repeat (first | exact subB.nil _ | refine subB.cons rfl ?_)) rfl ?_)
        | ((with_reducible refine (atDrawnN 9) ?_); refine Nx.drawn0 [0] [.pure 0, .pure 1, .pure 2, .held 3, .pure 4, .pure 5, .pure 6, .held 7, .pure 8, .pure 9, .pure 10, .held 11, .pure 12, .pure 13, .pure 14, .pure 15, .pure 16, .held 17, .pure 18, .pure 19, .pure 20, .held 21, .pure 22, .pure 23, .pure 24, .pure 25, .pure 26] rfl (by kernel_rfl) rfl (by kernel_rfl) rfl (by repeat (first | exact subB.nil _ | refine subB.cons rfl ?_)) rfl ?_)
        | ((with_reducible refine (atDrawnN 11) ?_); refine Nx.drawn0 [0] [.pure 0, .pure 1, .pure 2, .pure 3, .held 4, .pure 5, .held 6, .ex 7 true, .pure 8] rfl (by kernel_rfl) rfl (by kernel_rfl) rfl (by repeat (first | exact subB.nil _ | refine subB.cons rfl ?_)) rfl ?_)
        | ((with_reducible refine atHoLoad ?_); first | (refine Nx.hoLoad1 rfl rfl rfl rfl List.mem_cons_self (SeesAt.sub (by assumption) _ rfl) rfl ?_) | (refine Nx.hoLoad1 rfl rfl rfl rfl List.mem_cons_self (by assumption) rfl ?_) | (refine Nx.hoLoad rfl rfl rfl rfl List.mem_cons_self (by assumption) rfl rfl ?_) | (refine Nx.hoLoad1 rfl rfl rfl rfl (List.mem_cons_of_mem _ List.mem_cons_self) (SeesAt.sub (by assumption) _ rfl) rfl ?_) | (refine Nx.hoLoad1 rfl rfl rfl rfl (List.mem_cons_of_mem _ List.mem_cons_self) (by assumption) rfl ?_) | (refine Nx.hoLoad rfl rfl rfl rfl (List.mem_cons_of_mem _ List.mem_cons_self) (by assumption) rfl rfl ?_) | (refine Nx.hoLoad1 rfl rfl rfl rfl (List.mem_cons_of_mem _ (List.mem_cons_of_mem _ List.mem_cons_self)) (SeesAt.sub (by assumption) _ rfl) rfl ?_) | (refine Nx.hoLoad1 rfl rfl rfl rfl (List.mem_cons_of_mem _ (List.mem_cons_of_mem _ List.mem_cons_self)) (by assumption) rfl ?_) | (refine Nx.hoLoad rfl rfl rfl rfl (List.mem_cons_of_mem _ (List.mem_cons_of_mem _ List.mem_cons_self)) (by assumption) rfl rfl ?_) | (refine Nx.hoLoad1 rfl rfl rfl rfl (List.mem_cons_of_mem _ (List.mem_cons_of_mem _ (List.mem_cons_of_mem _ List.mem_cons_self))) (SeesAt.sub (by assumption) _ rfl) rfl ?_) | (refine Nx.hoLoad1 rfl rfl rfl rfl (List.mem_cons_of_mem _ (List.mem_cons_of_mem _ (List.mem_cons_of_mem _ List.mem_cons_self))) (by assumption) rfl ?_) | (refine Nx.hoLoad rfl rfl rfl rfl (List.mem_cons_of_mem _ (List.mem_cons_of_mem _ (List.mem_cons_of_mem _ List.mem_cons_self))) (by assumption) rfl rfl ?_))
        | ((with_reducible refine atLoad ?_); refine Nx.load1 0 rfl rfl rfl rfl (g1) rfl ?_)
        | ((with_reducible refine (atCall 37) ?_); refine Nx.call [] [9] rfl rfl rfl rfl rfl ((wrong_ok _ _ 12)) rfl fun v Q hQ => ?_; obtain ⟨b,rfl,rfl⟩ := hQ)
        | ((with_reducible refine atRet ?_); refine Nx.ret [0,9] Try.func60 rfl rfl ?_; (exact MdQ.yes rfl (by decide)))
        | ((with_reducible refine atOps ?_); refine go 200 ?_; conv => whnf)
        | ((with_reducible refine atPlan ?_); refine Nx.runP (n := 200) rfl (by repeat (first | exact subB.nil _ | refine subB.cons rfl ?_)) ?_; conv => whnf)
        | ((with_reducible refine atAftL ?_); refine Nx.late ?_)
        | ((fail_if_success (with_reducible refine atRet ?_)); (fail_if_success (with_reducible refine atLoop ?_)); (fail_if_success (with_reducible refine atIn ?_)); (fail_if_success (with_reducible refine atDrawn ?_)); (fail_if_success (with_reducible refine atEnd ?_)); (with_reducible refine atRun ?_); refine go 200 ?_; conv => whnf))
    | false =>
      have d3' := many3.2 hmany
      rw [hmany] at g1
      have d4' : n.lo ≠ g.g.l.length ∨ (g.g.l.length : Int) + 8192 < n.lo := by rcases d4 with d | d; exact .inl d.2; exact .inr d
      repeat' (first
        | ((with_reducible refine atBr ?_); refine BrM.yes (by omega) ?_; conv => whnf)
        | ((with_reducible refine atBr ?_); refine BrM.not (by omega) ?_; conv => whnf)
        | ((with_reducible refine atBr ?_); (first | refine BrM.t rfl ?_ | refine BrM.f rfl ?_ | refine BrM.dec (fun _ => ?_) (fun _ => ?_) | refine BrM.mk (fun _ => ?_) (fun _ => ?_)) <;> conv => whnf)
        | ((with_reducible refine atAr ?_); refine Ar.i64 (by omega) (by omega) ?_; conv => whnf)
        | ((with_reducible refine (atDrawnN 5) ?_); refine Nx.drawn0 [0] [.pure 0, .pure 1, .pure 2, .held 3, .pure 4, .pure 5, .pure 6, .held 7, .pure 8, .pure 9, .pure 10, .pure 11, .pure 12, .held 13, .pure 14, .held 15, .pure 16, .pure 17, .pure 18, .pure 19, .pure 20, .pure 21, .held 22, .pure 23, .pure 24, .pure 25, .pure 26] rfl (by kernel_rfl) rfl (by kernel_rfl) rfl (by repeat (first | exact subB.nil _ | refine subB.cons rfl ?_)) rfl ?_)
        | ((with_reducible refine (atDrawnN 9) ?_); refine Nx.drawn0 [0] [.pure 0, .pure 1, .pure 2, .held 3, .pure 4, .pure 5, .pure 6, .held 7, .pure 8, .pure 9, .pure 10, .held 11, .pure 12, .pure 13, .pure 14, .pure 15, .pure 16, .held 17, .pure 18, .pure 19, .pure 20, .held 21, .pure 22, .pure 23, .pure 24, .pure 25, .pure 26] rfl (by kernel_rfl) rfl (by kernel_rfl) rfl (by repeat (first | exact subB.nil _ | refine subB.cons rfl ?_)) rfl ?_)
        | ((with_reducible refine (atDrawnN 11) ?_); refine Nx.drawn0 [0] [.pure 0, .pure 1, .pure 2, .pure 3, .held 4, .pure 5, .held 6, .ex 7 true, .pure 8] rfl (by kernel_rfl) rfl (by kernel_rfl) rfl (by repeat (first | exact subB.nil _ | refine subB.cons rfl ?_)) rfl ?_)
        | ((with_reducible refine atHoLoad ?_); first | (refine Nx.hoLoad1 rfl rfl rfl rfl List.mem_cons_self (SeesAt.sub (by assumption) _ rfl) rfl ?_) | (refine Nx.hoLoad1 rfl rfl rfl rfl List.mem_cons_self (by assumption) rfl ?_) | (refine Nx.hoLoad rfl rfl rfl rfl List.mem_cons_self (by assumption) rfl rfl ?_) | (refine Nx.hoLoad1 rfl rfl rfl rfl (List.mem_cons_of_mem _ List.mem_cons_self) (SeesAt.sub (by assumption) _ rfl) rfl ?_) | (refine Nx.hoLoad1 rfl rfl rfl rfl (List.mem_cons_of_mem _ List.mem_cons_self) (by assumption) rfl ?_) | (refine Nx.hoLoad rfl rfl rfl rfl (List.mem_cons_of_mem _ List.mem_cons_self) (by assumption) rfl rfl ?_) | (refine Nx.hoLoad1 rfl rfl rfl rfl (List.mem_cons_of_mem _ (List.mem_cons_of_mem _ List.mem_cons_self)) (SeesAt.sub (by assumption) _ rfl) rfl ?_) | (refine Nx.hoLoad1 rfl rfl rfl rfl (List.mem_cons_of_mem _ (List.mem_cons_of_mem _ List.mem_cons_self)) (by assumption) rfl ?_) | (refine Nx.hoLoad rfl rfl rfl rfl (List.mem_cons_of_mem _ (List.mem_cons_of_mem _ List.mem_cons_self)) (by assumption) rfl rfl ?_) | (refine Nx.hoLoad1 rfl rfl rfl rfl (List.mem_cons_of_mem _ (List.mem_cons_of_mem _ (List.mem_cons_of_mem _ List.mem_cons_self))) (SeesAt.sub (by assumption) _ rfl) rfl ?_) | (refine Nx.hoLoad1 rfl rfl rfl rfl (List.mem_cons_of_mem _ (List.mem_cons_of_mem _ (List.mem_cons_of_mem _ List.mem_cons_self))) (by assumption) rfl ?_) | (refine Nx.hoLoad rfl rfl rfl rfl (List.mem_cons_of_mem _ (List.mem_cons_of_mem _ (List.mem_cons_of_mem _ List.mem_cons_self))) (by assumption) rfl rfl ?_))
        | ((with_reducible refine atLoad ?_); refine Nx.load1 0 rfl rfl rfl rfl (g1) rfl ?_)
        | ((with_reducible refine (atCall 37) ?_); refine Nx.call [] [9] rfl rfl rfl rfl rfl ((wrong_ok _ _ 12)) rfl fun v Q hQ => ?_; obtain ⟨b,rfl,rfl⟩ := hQ)
        | ((with_reducible refine atRet ?_); refine Nx.ret [0,9] Try.func60 rfl rfl ?_; (exact MdQ.yes rfl (by decide)))
        | ((with_reducible refine atOps ?_); refine go 200 ?_; conv => whnf)
        | ((with_reducible refine atPlan ?_); refine Nx.runP (n := 200) rfl (by repeat (first | exact subB.nil _ | refine subB.cons rfl ?_)) ?_; conv => whnf)
        | ((with_reducible refine atAftL ?_); refine Nx.late ?_)
        | ((fail_if_success (with_reducible refine atRet ?_)); (fail_if_success (with_reducible refine atLoop ?_)); (fail_if_success (with_reducible refine atIn ?_)); (fail_if_success (with_reducible refine atDrawn ?_)); (fail_if_success (with_reducible refine atEnd ?_)); (with_reducible refine atRun ?_); refine go 200 ?_; conv => whnf))
  rw [if_neg d4]
  have many4 : g.g.many = false → n.lo = g.g.l.length := fun h => Decidable.byContradiction fun e => d4 (.inl ⟨h, e⟩)
  have d4n : n.lo ≤ (g.g.l.length : Int) + 8192 := by
    by_cases e : (g.g.l.length : Int) + 8192 < n.lo
    · exact absurd (.inr e) d4
    · omega
  cases d5 : M.p.held q n.seq with
  | true =>
    rw [if_pos rfl]
    rw [d5] at hheld
    cases hmany : g.g.many with
    | true =>
      have d3' := many3.1 hmany
      rw [hmany] at g1
      repeat' (first
        | ((with_reducible refine atBr ?_); refine BrM.yes (by omega) ?_; conv => whnf)
        | ((with_reducible refine atBr ?_); refine BrM.not (by omega) ?_; conv => whnf)
        | ((with_reducible refine atBr ?_); (first | refine BrM.t rfl ?_ | refine BrM.f rfl ?_ | refine BrM.dec (fun _ => ?_) (fun _ => ?_) | refine BrM.mk (fun _ => ?_) (fun _ => ?_)) <;> conv => whnf)
        | ((with_reducible refine atAr ?_); refine Ar.i64 (by omega) (by omega) ?_; conv => whnf)
        | ((with_reducible refine (atDrawnN 5) ?_); refine Nx.drawn0 [0] [.pure 0, .pure 1, .pure 2, .held 3, .pure 4, .pure 5, .pure 6, .held 7, .pure 8, .pure 9, .pure 10, .pure 11, .pure 12, .held 13, .pure 14, .held 15, .pure 16, .pure 17, .pure 18, .pure 19, .pure 20, .pure 21, .held 22, .pure 23, .pure 24, .pure 25, .pure 26] rfl (by kernel_rfl) rfl (by kernel_rfl) rfl (by repeat (first | exact subB.nil _ | refine subB.cons rfl ?_)) rfl ?_)
        | ((with_reducible refine (atDrawnN 9) ?_); refine Nx.drawn0 [0] [.pure 0, .pure 1, .pure 2, .held 3, .pure 4, .pure 5, .pure 6, .held 7, .pure 8, .pure 9, .pure 10, .held 11, .pure 12, .pure 13, .pure 14, .pure 15, .pure 16, .held 17, .pure 18, .pure 19, .pure 20, .held 21, .pure 22, .pure 23, .pure 24, .pure 25, .pure 26] rfl (by kernel_rfl) rfl (by kernel_rfl) rfl (by repeat (first | exact subB.nil _ | refine subB.cons rfl ?_)) rfl ?_)
        | ((with_reducible refine (atDrawnN 11) ?_); refine Nx.drawn0 [0] [.pure 0, .pure 1, .pure 2, .pure 3, .held 4, .pure 5, .held 6, .ex 7 true, .pure 8] rfl (by kernel_rfl) rfl (by kernel_rfl) rfl (by repeat (first | exact subB.nil _ | refine subB.cons rfl ?_)) rfl ?_)
        | ((with_reducible refine atHoLoad ?_); first | (refine Nx.hoLoad1 rfl rfl rfl rfl List.mem_cons_self (SeesAt.sub (by assumption) _ rfl) rfl ?_) | (refine Nx.hoLoad1 rfl rfl rfl rfl List.mem_cons_self (by assumption) rfl ?_) | (refine Nx.hoLoad rfl rfl rfl rfl List.mem_cons_self (by assumption) rfl rfl ?_) | (refine Nx.hoLoad1 rfl rfl rfl rfl (List.mem_cons_of_mem _ List.mem_cons_self) (SeesAt.sub (by assumption) _ rfl) rfl ?_) | (refine Nx.hoLoad1 rfl rfl rfl rfl (List.mem_cons_of_mem _ List.mem_cons_self) (by assumption) rfl ?_) | (refine Nx.hoLoad rfl rfl rfl rfl (List.mem_cons_of_mem _ List.mem_cons_self) (by assumption) rfl rfl ?_) | (refine Nx.hoLoad1 rfl rfl rfl rfl (List.mem_cons_of_mem _ (List.mem_cons_of_mem _ List.mem_cons_self)) (SeesAt.sub (by assumption) _ rfl) rfl ?_) | (refine Nx.hoLoad1 rfl rfl rfl rfl (List.mem_cons_of_mem _ (List.mem_cons_of_mem _ List.mem_cons_self)) (by assumption) rfl ?_) | (refine Nx.hoLoad rfl rfl rfl rfl (List.mem_cons_of_mem _ (List.mem_cons_of_mem _ List.mem_cons_self)) (by assumption) rfl rfl ?_) | (refine Nx.hoLoad1 rfl rfl rfl rfl (List.mem_cons_of_mem _ (List.mem_cons_of_mem _ (List.mem_cons_of_mem _ List.mem_cons_self))) (SeesAt.sub (by assumption) _ rfl) rfl ?_) | (refine Nx.hoLoad1 rfl rfl rfl rfl (List.mem_cons_of_mem _ (List.mem_cons_of_mem _ (List.mem_cons_of_mem _ List.mem_cons_self))) (by assumption) rfl ?_) | (refine Nx.hoLoad rfl rfl rfl rfl (List.mem_cons_of_mem _ (List.mem_cons_of_mem _ (List.mem_cons_of_mem _ List.mem_cons_self))) (by assumption) rfl rfl ?_))
        | ((with_reducible refine atLoad ?_); refine Nx.load1 0 rfl rfl rfl rfl (g1) rfl ?_)
        | ((with_reducible refine (atCall 14) ?_); refine Nx.call [0] [0] rfl rfl rfl rfl rfl (hheld) rfl fun v Q hQ => ?_; obtain ⟨rfl, rfl⟩ := hQ)
        | ((with_reducible refine atAftK ?_); refine Nx.keepN [0] rfl (by repeat (first | exact subB.nil _ | refine subB.cons rfl ?_)) (by repeat (first | exact subM.nil _ | refine subM.cons rfl rfl rfl ?_)) rfl ?_)
        | ((with_reducible refine (atCall 37) ?_); refine Nx.call [] [9] rfl rfl rfl rfl rfl ((wrong_ok _ _ 10)) rfl fun v Q hQ => ?_; obtain ⟨b,rfl,rfl⟩ := hQ)
        | ((with_reducible refine atRet ?_); refine Nx.ret [0,9] Try.func60 rfl rfl ?_; (exact MdQ.yes rfl (by decide)))
        | ((with_reducible refine atOps ?_); refine go 200 ?_; conv => whnf)
        | ((with_reducible refine atPlan ?_); refine Nx.runP (n := 200) rfl (by repeat (first | exact subB.nil _ | refine subB.cons rfl ?_)) ?_; conv => whnf)
        | ((with_reducible refine atAftL ?_); refine Nx.late ?_)
        | ((fail_if_success (with_reducible refine atRet ?_)); (fail_if_success (with_reducible refine atLoop ?_)); (fail_if_success (with_reducible refine atIn ?_)); (fail_if_success (with_reducible refine atDrawn ?_)); (fail_if_success (with_reducible refine atEnd ?_)); (with_reducible refine atRun ?_); refine go 200 ?_; conv => whnf))
    | false =>
      have d3' := many3.2 hmany
      have d4' := many4 hmany
      rw [hmany] at g1
      repeat' (first
        | ((with_reducible refine atBr ?_); refine BrM.yes (by omega) ?_; conv => whnf)
        | ((with_reducible refine atBr ?_); refine BrM.not (by omega) ?_; conv => whnf)
        | ((with_reducible refine atBr ?_); (first | refine BrM.t rfl ?_ | refine BrM.f rfl ?_ | refine BrM.dec (fun _ => ?_) (fun _ => ?_) | refine BrM.mk (fun _ => ?_) (fun _ => ?_)) <;> conv => whnf)
        | ((with_reducible refine atAr ?_); refine Ar.i64 (by omega) (by omega) ?_; conv => whnf)
        | ((with_reducible refine (atDrawnN 5) ?_); refine Nx.drawn0 [0] [.pure 0, .pure 1, .pure 2, .held 3, .pure 4, .pure 5, .pure 6, .held 7, .pure 8, .pure 9, .pure 10, .pure 11, .pure 12, .held 13, .pure 14, .held 15, .pure 16, .pure 17, .pure 18, .pure 19, .pure 20, .pure 21, .held 22, .pure 23, .pure 24, .pure 25, .pure 26] rfl (by kernel_rfl) rfl (by kernel_rfl) rfl (by repeat (first | exact subB.nil _ | refine subB.cons rfl ?_)) rfl ?_)
        | ((with_reducible refine (atDrawnN 9) ?_); refine Nx.drawn0 [0] [.pure 0, .pure 1, .pure 2, .held 3, .pure 4, .pure 5, .pure 6, .held 7, .pure 8, .pure 9, .pure 10, .held 11, .pure 12, .pure 13, .pure 14, .pure 15, .pure 16, .held 17, .pure 18, .pure 19, .pure 20, .held 21, .pure 22, .pure 23, .pure 24, .pure 25, .pure 26] rfl (by kernel_rfl) rfl (by kernel_rfl) rfl (by repeat (first | exact subB.nil _ | refine subB.cons rfl ?_)) rfl ?_)
        | ((with_reducible refine (atDrawnN 11) ?_); refine Nx.drawn0 [0] [.pure 0, .pure 1, .pure 2, .pure 3, .held 4, .pure 5, .held 6, .ex 7 true, .pure 8] rfl (by kernel_rfl) rfl (by kernel_rfl) rfl (by repeat (first | exact subB.nil _ | refine subB.cons rfl ?_)) rfl ?_)
        | ((with_reducible refine atHoLoad ?_); first | (refine Nx.hoLoad1 rfl rfl rfl rfl List.mem_cons_self (SeesAt.sub (by assumption) _ rfl) rfl ?_) | (refine Nx.hoLoad1 rfl rfl rfl rfl List.mem_cons_self (by assumption) rfl ?_) | (refine Nx.hoLoad rfl rfl rfl rfl List.mem_cons_self (by assumption) rfl rfl ?_) | (refine Nx.hoLoad1 rfl rfl rfl rfl (List.mem_cons_of_mem _ List.mem_cons_self) (SeesAt.sub (by assumption) _ rfl) rfl ?_) | (refine Nx.hoLoad1 rfl rfl rfl rfl (List.mem_cons_of_mem _ List.mem_cons_self) (by assumption) rfl ?_) | (refine Nx.hoLoad rfl rfl rfl rfl (List.mem_cons_of_mem _ List.mem_cons_self) (by assumption) rfl rfl ?_) | (refine Nx.hoLoad1 rfl rfl rfl rfl (List.mem_cons_of_mem _ (List.mem_cons_of_mem _ List.mem_cons_self)) (SeesAt.sub (by assumption) _ rfl) rfl ?_) | (refine Nx.hoLoad1 rfl rfl rfl rfl (List.mem_cons_of_mem _ (List.mem_cons_of_mem _ List.mem_cons_self)) (by assumption) rfl ?_) | (refine Nx.hoLoad rfl rfl rfl rfl (List.mem_cons_of_mem _ (List.mem_cons_of_mem _ List.mem_cons_self)) (by assumption) rfl rfl ?_) | (refine Nx.hoLoad1 rfl rfl rfl rfl (List.mem_cons_of_mem _ (List.mem_cons_of_mem _ (List.mem_cons_of_mem _ List.mem_cons_self))) (SeesAt.sub (by assumption) _ rfl) rfl ?_) | (refine Nx.hoLoad1 rfl rfl rfl rfl (List.mem_cons_of_mem _ (List.mem_cons_of_mem _ (List.mem_cons_of_mem _ List.mem_cons_self))) (by assumption) rfl ?_) | (refine Nx.hoLoad rfl rfl rfl rfl (List.mem_cons_of_mem _ (List.mem_cons_of_mem _ (List.mem_cons_of_mem _ List.mem_cons_self))) (by assumption) rfl rfl ?_))
        | ((with_reducible refine atLoad ?_); refine Nx.load1 0 rfl rfl rfl rfl (g1) rfl ?_)
        | ((with_reducible refine (atCall 14) ?_); refine Nx.call [0] [0] rfl rfl rfl rfl rfl (hheld) rfl fun v Q hQ => ?_; obtain ⟨rfl, rfl⟩ := hQ)
        | ((with_reducible refine atAftK ?_); refine Nx.keepN [0] rfl (by repeat (first | exact subB.nil _ | refine subB.cons rfl ?_)) (by repeat (first | exact subM.nil _ | refine subM.cons rfl rfl rfl ?_)) rfl ?_)
        | ((with_reducible refine (atCall 37) ?_); refine Nx.call [] [9] rfl rfl rfl rfl rfl ((wrong_ok _ _ 10)) rfl fun v Q hQ => ?_; obtain ⟨b,rfl,rfl⟩ := hQ)
        | ((with_reducible refine atRet ?_); refine Nx.ret [0,9] Try.func60 rfl rfl ?_; (exact MdQ.yes rfl (by decide)))
        | ((with_reducible refine atOps ?_); refine go 200 ?_; conv => whnf)
        | ((with_reducible refine atPlan ?_); refine Nx.runP (n := 200) rfl (by repeat (first | exact subB.nil _ | refine subB.cons rfl ?_)) ?_; conv => whnf)
        | ((with_reducible refine atAftL ?_); refine Nx.late ?_)
        | ((fail_if_success (with_reducible refine atRet ?_)); (fail_if_success (with_reducible refine atLoop ?_)); (fail_if_success (with_reducible refine atIn ?_)); (fail_if_success (with_reducible refine atDrawn ?_)); (fail_if_success (with_reducible refine atEnd ?_)); (with_reducible refine atRun ?_); refine go 200 ?_; conv => whnf))
  | false =>
  rw [if_neg (by decide)]
  rw [d5] at hheld
  refine Nx.joinR (E := [(0, .c (.v (ptr M.b))), (1, .c (.v (ptr x.b))), (5, .c (.loc 5 0)), (6, .c (.v .nilIface)), (7, .c (.v (ptr g.b))), (8, sl c.A c.l.length c.c)]) (M := [(5, 42, [.v (.int .i64 n.who), .v (.int .i64 n.ring), .v (.int .i64 n.deed), .v (.int .i64 n.lo), .v (.int .i64 n.seq), .v (.int .i64 n.x.key), .v (.int .i64 n.x.val), .v (.int .i64 n.code)])]) (B := [(5, b5)]) (R := [(0, M.sp)]) (fun K => ?_) ?_
  · cases hmany : g.g.many with
    | true =>
      have d3' := many3.1 hmany
      rw [hmany] at g1
      repeat' (first
        | ((with_reducible refine Nx.weak K ?_ ?_ ?_ ?_) <;> (first | exact subM.nil _ | exact subB.nil _ | exact subR.nil _ | ((repeat (first | exact subE.nil _ | refine subE.cons rfl rfl ?_ | refine subE.cons' rfl (fun _ => rfl) ?_ | (refine subE.cons rfl ?_ ?_; · (simp; done)))); done) | ((repeat (first | exact subM.nil _ | refine subM.cons rfl rfl rfl ?_)); done) | ((repeat (first | exact subB.nil _ | refine subB.cons rfl ?_)); done) | ((repeat (first | exact subR.nil _ | refine subR.cons rfl rfl ?_)); done) | omega | (dsimp only; omega) | skip))
        | ((with_reducible refine atBr ?_); refine BrM.yes (by omega) ?_; conv => whnf)
        | ((with_reducible refine atBr ?_); refine BrM.not (by omega) ?_; conv => whnf)
        | ((with_reducible refine atBr ?_); (first | refine BrM.t rfl ?_ | refine BrM.f rfl ?_ | refine BrM.dec (fun _ => ?_) (fun _ => ?_) | refine BrM.mk (fun _ => ?_) (fun _ => ?_)) <;> conv => whnf)
        | ((with_reducible refine atAr ?_); refine Ar.i64 (by omega) (by omega) ?_; conv => whnf)
        | ((with_reducible refine (atDrawnN 5) ?_); refine Nx.drawn0 [0] [.pure 0, .pure 1, .pure 2, .held 3, .pure 4, .pure 5, .pure 6, .held 7, .pure 8, .pure 9, .pure 10, .pure 11, .pure 12, .held 13, .pure 14, .held 15, .pure 16, .pure 17, .pure 18, .pure 19, .pure 20, .pure 21, .held 22, .pure 23, .pure 24, .pure 25, .pure 26] rfl (by kernel_rfl) rfl (by kernel_rfl) rfl (by repeat (first | exact subB.nil _ | refine subB.cons rfl ?_)) rfl ?_)
        | ((with_reducible refine (atDrawnN 9) ?_); refine Nx.drawn0 [0] [.pure 0, .pure 1, .pure 2, .held 3, .pure 4, .pure 5, .pure 6, .held 7, .pure 8, .pure 9, .pure 10, .held 11, .pure 12, .pure 13, .pure 14, .pure 15, .pure 16, .held 17, .pure 18, .pure 19, .pure 20, .held 21, .pure 22, .pure 23, .pure 24, .pure 25, .pure 26] rfl (by kernel_rfl) rfl (by kernel_rfl) rfl (by repeat (first | exact subB.nil _ | refine subB.cons rfl ?_)) rfl ?_)
        | ((with_reducible refine (atDrawnN 11) ?_); refine Nx.drawn0 [0] [.pure 0, .pure 1, .pure 2, .pure 3, .held 4, .pure 5, .held 6, .ex 7 true, .pure 8] rfl (by kernel_rfl) rfl (by kernel_rfl) rfl (by repeat (first | exact subB.nil _ | refine subB.cons rfl ?_)) rfl ?_)
        | ((with_reducible refine atHoLoad ?_); first | (refine Nx.hoLoad1 rfl rfl rfl rfl List.mem_cons_self (SeesAt.sub (by assumption) _ rfl) rfl ?_) | (refine Nx.hoLoad1 rfl rfl rfl rfl List.mem_cons_self (by assumption) rfl ?_) | (refine Nx.hoLoad rfl rfl rfl rfl List.mem_cons_self (by assumption) rfl rfl ?_) | (refine Nx.hoLoad1 rfl rfl rfl rfl (List.mem_cons_of_mem _ List.mem_cons_self) (SeesAt.sub (by assumption) _ rfl) rfl ?_) | (refine Nx.hoLoad1 rfl rfl rfl rfl (List.mem_cons_of_mem _ List.mem_cons_self) (by assumption) rfl ?_) | (refine Nx.hoLoad rfl rfl rfl rfl (List.mem_cons_of_mem _ List.mem_cons_self) (by assumption) rfl rfl ?_) | (refine Nx.hoLoad1 rfl rfl rfl rfl (List.mem_cons_of_mem _ (List.mem_cons_of_mem _ List.mem_cons_self)) (SeesAt.sub (by assumption) _ rfl) rfl ?_) | (refine Nx.hoLoad1 rfl rfl rfl rfl (List.mem_cons_of_mem _ (List.mem_cons_of_mem _ List.mem_cons_self)) (by assumption) rfl ?_) | (refine Nx.hoLoad rfl rfl rfl rfl (List.mem_cons_of_mem _ (List.mem_cons_of_mem _ List.mem_cons_self)) (by assumption) rfl rfl ?_) | (refine Nx.hoLoad1 rfl rfl rfl rfl (List.mem_cons_of_mem _ (List.mem_cons_of_mem _ (List.mem_cons_of_mem _ List.mem_cons_self))) (SeesAt.sub (by assumption) _ rfl) rfl ?_) | (refine Nx.hoLoad1 rfl rfl rfl rfl (List.mem_cons_of_mem _ (List.mem_cons_of_mem _ (List.mem_cons_of_mem _ List.mem_cons_self))) (by assumption) rfl ?_) | (refine Nx.hoLoad rfl rfl rfl rfl (List.mem_cons_of_mem _ (List.mem_cons_of_mem _ (List.mem_cons_of_mem _ List.mem_cons_self))) (by assumption) rfl rfl ?_))
        | ((with_reducible refine atLoad ?_); refine Nx.load1 0 rfl rfl rfl rfl (g1) rfl ?_)
        | ((with_reducible refine (atCall 14) ?_); refine Nx.call [0] [0] rfl rfl rfl rfl rfl (hheld) rfl fun v Q hQ => ?_; obtain ⟨rfl, rfl⟩ := hQ)
        | ((with_reducible refine atAftK ?_); refine Nx.keepN [0] rfl (by repeat (first | exact subB.nil _ | refine subB.cons rfl ?_)) (by repeat (first | exact subM.nil _ | refine subM.cons rfl rfl rfl ?_)) rfl ?_)
        | ((with_reducible refine atOps ?_); refine goR 200 ?_; conv => whnf)
        | ((with_reducible refine atPlan ?_); refine Nx.runP (n := 200) rfl (by repeat (first | exact subB.nil _ | refine subB.cons rfl ?_)) ?_; conv => whnf)
        | ((with_reducible refine atAftL ?_); refine Nx.late ?_)
        | ((fail_if_success (with_reducible refine atRet ?_)); (fail_if_success (with_reducible refine atLoop ?_)); (fail_if_success (with_reducible refine atIn ?_)); (fail_if_success (with_reducible refine atDrawn ?_)); (fail_if_success (with_reducible refine atEnd ?_)); (with_reducible refine atRun ?_); refine goR 1 ?_; conv => whnf))
    | false =>
      have d3' := many3.2 hmany
      have d4' := many4 hmany
      rw [hmany] at g1
      repeat' (first
        | ((with_reducible refine Nx.weak K ?_ ?_ ?_ ?_) <;> (first | exact subM.nil _ | exact subB.nil _ | exact subR.nil _ | ((repeat (first | exact subE.nil _ | refine subE.cons rfl rfl ?_ | refine subE.cons' rfl (fun _ => rfl) ?_ | (refine subE.cons rfl ?_ ?_; · (simp; done)))); done) | ((repeat (first | exact subM.nil _ | refine subM.cons rfl rfl rfl ?_)); done) | ((repeat (first | exact subB.nil _ | refine subB.cons rfl ?_)); done) | ((repeat (first | exact subR.nil _ | refine subR.cons rfl rfl ?_)); done) | omega | (dsimp only; omega) | skip))
        | ((with_reducible refine atBr ?_); refine BrM.yes (by omega) ?_; conv => whnf)
        | ((with_reducible refine atBr ?_); refine BrM.not (by omega) ?_; conv => whnf)
        | ((with_reducible refine atBr ?_); (first | refine BrM.t rfl ?_ | refine BrM.f rfl ?_ | refine BrM.dec (fun _ => ?_) (fun _ => ?_) | refine BrM.mk (fun _ => ?_) (fun _ => ?_)) <;> conv => whnf)
        | ((with_reducible refine atAr ?_); refine Ar.i64 (by omega) (by omega) ?_; conv => whnf)
        | ((with_reducible refine (atDrawnN 5) ?_); refine Nx.drawn0 [0] [.pure 0, .pure 1, .pure 2, .held 3, .pure 4, .pure 5, .pure 6, .held 7, .pure 8, .pure 9, .pure 10, .pure 11, .pure 12, .held 13, .pure 14, .held 15, .pure 16, .pure 17, .pure 18, .pure 19, .pure 20, .pure 21, .held 22, .pure 23, .pure 24, .pure 25, .pure 26] rfl (by kernel_rfl) rfl (by kernel_rfl) rfl (by repeat (first | exact subB.nil _ | refine subB.cons rfl ?_)) rfl ?_)
        | ((with_reducible refine (atDrawnN 9) ?_); refine Nx.drawn0 [0] [.pure 0, .pure 1, .pure 2, .held 3, .pure 4, .pure 5, .pure 6, .held 7, .pure 8, .pure 9, .pure 10, .held 11, .pure 12, .pure 13, .pure 14, .pure 15, .pure 16, .held 17, .pure 18, .pure 19, .pure 20, .held 21, .pure 22, .pure 23, .pure 24, .pure 25, .pure 26] rfl (by kernel_rfl) rfl (by kernel_rfl) rfl (by repeat (first | exact subB.nil _ | refine subB.cons rfl ?_)) rfl ?_)
        | ((with_reducible refine (atDrawnN 11) ?_); refine Nx.drawn0 [0] [.pure 0, .pure 1, .pure 2, .pure 3, .held 4, .pure 5, .held 6, .ex 7 true, .pure 8] rfl (by kernel_rfl) rfl (by kernel_rfl) rfl (by repeat (first | exact subB.nil _ | refine subB.cons rfl ?_)) rfl ?_)
        | ((with_reducible refine atHoLoad ?_); first | (refine Nx.hoLoad1 rfl rfl rfl rfl List.mem_cons_self (SeesAt.sub (by assumption) _ rfl) rfl ?_) | (refine Nx.hoLoad1 rfl rfl rfl rfl List.mem_cons_self (by assumption) rfl ?_) | (refine Nx.hoLoad rfl rfl rfl rfl List.mem_cons_self (by assumption) rfl rfl ?_) | (refine Nx.hoLoad1 rfl rfl rfl rfl (List.mem_cons_of_mem _ List.mem_cons_self) (SeesAt.sub (by assumption) _ rfl) rfl ?_) | (refine Nx.hoLoad1 rfl rfl rfl rfl (List.mem_cons_of_mem _ List.mem_cons_self) (by assumption) rfl ?_) | (refine Nx.hoLoad rfl rfl rfl rfl (List.mem_cons_of_mem _ List.mem_cons_self) (by assumption) rfl rfl ?_) | (refine Nx.hoLoad1 rfl rfl rfl rfl (List.mem_cons_of_mem _ (List.mem_cons_of_mem _ List.mem_cons_self)) (SeesAt.sub (by assumption) _ rfl) rfl ?_) | (refine Nx.hoLoad1 rfl rfl rfl rfl (List.mem_cons_of_mem _ (List.mem_cons_of_mem _ List.mem_cons_self)) (by assumption) rfl ?_) | (refine Nx.hoLoad rfl rfl rfl rfl (List.mem_cons_of_mem _ (List.mem_cons_of_mem _ List.mem_cons_self)) (by assumption) rfl rfl ?_) | (refine Nx.hoLoad1 rfl rfl rfl rfl (List.mem_cons_of_mem _ (List.mem_cons_of_mem _ (List.mem_cons_of_mem _ List.mem_cons_self))) (SeesAt.sub (by assumption) _ rfl) rfl ?_) | (refine Nx.hoLoad1 rfl rfl rfl rfl (List.mem_cons_of_mem _ (List.mem_cons_of_mem _ (List.mem_cons_of_mem _ List.mem_cons_self))) (by assumption) rfl ?_) | (refine Nx.hoLoad rfl rfl rfl rfl (List.mem_cons_of_mem _ (List.mem_cons_of_mem _ (List.mem_cons_of_mem _ List.mem_cons_self))) (by assumption) rfl rfl ?_))
        | ((with_reducible refine atLoad ?_); refine Nx.load1 0 rfl rfl rfl rfl (g1) rfl ?_)
        | ((with_reducible refine (atCall 14) ?_); refine Nx.call [0] [0] rfl rfl rfl rfl rfl (hheld) rfl fun v Q hQ => ?_; obtain ⟨rfl, rfl⟩ := hQ)
        | ((with_reducible refine atAftK ?_); refine Nx.keepN [0] rfl (by repeat (first | exact subB.nil _ | refine subB.cons rfl ?_)) (by repeat (first | exact subM.nil _ | refine subM.cons rfl rfl rfl ?_)) rfl ?_)
        | ((with_reducible refine atOps ?_); refine goR 200 ?_; conv => whnf)
        | ((with_reducible refine atPlan ?_); refine Nx.runP (n := 200) rfl (by repeat (first | exact subB.nil _ | refine subB.cons rfl ?_)) ?_; conv => whnf)
        | ((with_reducible refine atAftL ?_); refine Nx.late ?_)
        | ((fail_if_success (with_reducible refine atRet ?_)); (fail_if_success (with_reducible refine atLoop ?_)); (fail_if_success (with_reducible refine atIn ?_)); (fail_if_success (with_reducible refine atDrawn ?_)); (fail_if_success (with_reducible refine atEnd ?_)); (with_reducible refine atRun ?_); refine goR 1 ?_; conv => whnf))
  refine go 1 ?_
  conv => whnf
  obtain ⟨cnt, hcnt⟩ : ∃ cnt : Nat, n.seq - n.lo + 1 = cnt := ⟨(n.seq - n.lo + 1).toNat, by omega⟩
  have ecnt : (n.seq - n.lo + 1).toNat = cnt := by omega
  obtain ⟨lo, hlo⟩ : ∃ lo : Nat, n.lo = lo := ⟨n.lo.toNat, by omega⟩
  have elo : n.lo.toNat = lo := by omega
  rw [ecnt, elo]
  have hcs : x.shown + cnt ≤ c.l.length := by
    by_cases e : (c.l.length : Int) - x.shown ≤ n.seq - n.lo
    · exact absurd (.inr e) d2
    · omega
  refine Nx.joinX (X := PLift (∀ p : Nat, p < cnt → g.g.pub (n.lo + p) = false)) (E := fun _ => [(0, .c (.v (ptr M.b))), (1, .c (.v (ptr x.b))), (5, .c (.loc 5 0)), (7, .c (.v (ptr g.b))), (8, sl c.A c.l.length c.c)]) (M := fun _ => [(5, 42, [.v (.int .i64 n.who), .v (.int .i64 n.ring), .v (.int .i64 n.deed), .v (.int .i64 n.lo), .v (.int .i64 n.seq), .v (.int .i64 n.x.key), .v (.int .i64 n.x.val), .v (.int .i64 n.code)])]) (B := [(5, b5)]) (R := fun _ => [(0, M.sp)]) (fun K => ?_) (fun hpub => ?_)
  · repeat' (first
      | ((with_reducible refine Nx.weak K ?_ ?_ ?_ ?_) <;> (first | exact subM.nil _ | exact subB.nil _ | exact subR.nil _ | ((repeat (first | exact subE.nil _ | refine subE.cons rfl rfl ?_ | refine subE.cons' rfl (fun _ => rfl) ?_ | (refine subE.cons rfl ?_ ?_; · (simp; done)))); done) | ((repeat (first | exact subM.nil _ | refine subM.cons rfl rfl rfl ?_)); done) | ((repeat (first | exact subB.nil _ | refine subB.cons rfl ?_)); done) | ((repeat (first | exact subR.nil _ | refine subR.cons rfl rfl ?_)); done) | omega | (dsimp only; omega) | skip))
      | ((with_reducible refine atBr ?_); (first | refine BrM.t rfl ?_ | refine BrM.f rfl ?_ | refine BrM.dec (fun _ => ?_) (fun _ => ?_) | refine BrM.mk (fun _ => ?_) (fun _ => ?_)) <;> conv => whnf)
      | ((with_reducible refine atAr ?_); refine Ar.i64 (by omega) (by omega) ?_; conv => whnf)
      | (fail)
      | ((with_reducible refine atOps ?_); refine goR 200 ?_; conv => whnf)
      | ((with_reducible refine atPlan ?_); refine Nx.runP (n := 200) rfl (by repeat (first | exact subB.nil _ | refine subB.cons rfl ?_)) ?_; conv => whnf)
      | ((with_reducible refine atAftL ?_); refine Nx.late ?_)
      | ((fail_if_success (with_reducible refine atRet ?_)); (fail_if_success (with_reducible refine atLoop ?_)); (fail_if_success (with_reducible refine atIn ?_)); (fail_if_success (with_reducible refine atDrawn ?_)); (fail_if_success (with_reducible refine atEnd ?_)); (with_reducible refine atRun ?_); refine goR 1 ?_; conv => whnf))
    refine Nx.loop (X := Nat) (fun i => i ≤ cnt ∧ ∀ p : Nat, p < i → g.g.pub (n.lo + p) = false) (fun i => cnt - i)
      (fun i => [(0, .c (.v (ptr M.b))), (1, .c (.v (ptr x.b))), (5, .c (.loc 5 0)), (7, .c (.v (ptr g.b))), (8, sl c.A c.l.length c.c), (10, iv (n.lo + i))]) (fun _ => [(5, 42, [.v (.int .i64 n.who), .v (.int .i64 n.ring), .v (.int .i64 n.deed), .v (.int .i64 n.lo), .v (.int .i64 n.seq), .v (.int .i64 n.x.key), .v (.int .i64 n.x.val), .v (.int .i64 n.code)])]) [(5, b5)] (fun _ => [(0, M.sp)]) 0 ⟨Nat.zero_le _, fun i hi => by omega⟩ ?_ ?_ ?_ ?_ ?_
    · exact .cons rfl rfl (.cons rfl rfl (.cons rfl rfl (.cons rfl rfl (.cons rfl rfl (.cons rfl (by simp) (.nil _))))))
    · repeat (first | exact subM.nil _ | refine subM.cons rfl rfl rfl ?_)
    · repeat (first | exact subB.nil _ | refine subB.cons rfl ?_)
    · repeat (first | exact subR.nil _ | refine subR.cons rfl rfl ?_)
    intro i ⟨hi, hno⟩ ih
    by_cases hlt : i < cnt
    · have hp := published_ok M hgm ⟨hgp.1, hgp.2.1⟩ (n.lo + i)
      cases hpub : g.g.pub (n.lo + i) with
      | true =>
        rw [hpub] at hp
        rw [anyPub_yes hlt hpub, if_pos rfl]
        repeat' (first
          | ((with_reducible refine atBr ?_); refine BrM.yes (by omega) ?_; conv => whnf)
          | ((with_reducible refine atBr ?_); (first | refine BrM.t rfl ?_ | refine BrM.f rfl ?_ | refine BrM.dec (fun _ => ?_) (fun _ => ?_) | refine BrM.mk (fun _ => ?_) (fun _ => ?_)) <;> conv => whnf)
          | ((with_reducible refine atAr ?_); refine Ar.i64 (by omega) (by omega) ?_; conv => whnf)
          | ((with_reducible refine (atCall 34) ?_); refine Nx.call [0] [0] rfl rfl rfl rfl rfl (hp) rfl fun v Q hQ => ?_; obtain ⟨rfl, rfl⟩ := hQ)
          | ((with_reducible refine (atCall 37) ?_); refine Nx.call [] [9] rfl rfl rfl rfl rfl ((wrong_ok _ _ 4)) rfl fun v Q hQ => ?_; obtain ⟨b,rfl,rfl⟩ := hQ)
          | ((with_reducible refine atRet ?_); refine Nx.ret [0,9] Try.func60 rfl rfl ?_; (exact MdQ.yes rfl (by decide)))
          | ((with_reducible refine atOps ?_); refine go 200 ?_; conv => whnf)
          | ((with_reducible refine atPlan ?_); refine Nx.runP (n := 200) rfl (by repeat (first | exact subB.nil _ | refine subB.cons rfl ?_)) ?_; conv => whnf)
          | ((with_reducible refine atAftL ?_); refine Nx.late ?_)
          | ((fail_if_success (with_reducible refine atRet ?_)); (fail_if_success (with_reducible refine atLoop ?_)); (fail_if_success (with_reducible refine atIn ?_)); (fail_if_success (with_reducible refine atDrawn ?_)); (fail_if_success (with_reducible refine atEnd ?_)); (with_reducible refine atRun ?_); refine go 200 ?_; conv => whnf))
      | false =>
        rw [hpub] at hp
        repeat' (first
          | ((with_reducible refine atBr ?_); refine BrM.yes (by omega) ?_; conv => whnf)
          | ((with_reducible refine atBr ?_); (first | refine BrM.t rfl ?_ | refine BrM.f rfl ?_ | refine BrM.dec (fun _ => ?_) (fun _ => ?_) | refine BrM.mk (fun _ => ?_) (fun _ => ?_)) <;> conv => whnf)
          | ((with_reducible refine atAr ?_); refine Ar.i64 (by omega) (by omega) ?_; conv => whnf)
          | ((with_reducible refine (atCall 34) ?_); refine Nx.call [0] [0] rfl rfl rfl rfl rfl (hp) rfl fun v Q hQ => ?_; obtain ⟨rfl, rfl⟩ := hQ)
          | ((with_reducible refine atOps ?_); refine go 200 ?_; conv => whnf)
          | ((with_reducible refine atPlan ?_); refine Nx.runP (n := 200) rfl (by repeat (first | exact subB.nil _ | refine subB.cons rfl ?_)) ?_; conv => whnf)
          | ((with_reducible refine atAftL ?_); refine Nx.late ?_)
          | ((fail_if_success (with_reducible refine atRet ?_)); (fail_if_success (with_reducible refine atLoop ?_)); (fail_if_success (with_reducible refine atIn ?_)); (fail_if_success (with_reducible refine atDrawn ?_)); (fail_if_success (with_reducible refine atEnd ?_)); (with_reducible refine atRun ?_); refine go 200 ?_; conv => whnf))
        refine (ih (i + 1) ⟨by omega, fun p hp => ?_⟩ (by omega)).weak ?_ ?_ ?_ ?_
        · by_cases e : p = i
          · subst e; exact hpub
          · exact hno p (by omega)
        · exact .cons rfl rfl (.cons rfl rfl (.cons rfl rfl (.cons rfl rfl (.cons rfl rfl (.cons rfl (by simp; omega) (.nil _))))))
        · repeat (first | exact subM.nil _ | refine subM.cons rfl rfl rfl ?_)
        · repeat (first | exact subB.nil _ | refine subB.cons rfl ?_)
        · repeat (first | exact subR.nil _ | refine subR.cons rfl rfl ?_)
    · repeat' (first
        | ((with_reducible refine Nx.weak K ?_ ?_ ?_ ?_) <;> (first | exact subM.nil _ | exact subB.nil _ | exact subR.nil _ | ((repeat (first | exact subE.nil _ | refine subE.cons rfl rfl ?_ | refine subE.cons' rfl (fun _ => rfl) ?_ | (refine subE.cons rfl ?_ ?_; · (simp; done)))); done) | ((repeat (first | exact subM.nil _ | refine subM.cons rfl rfl rfl ?_)); done) | ((repeat (first | exact subB.nil _ | refine subB.cons rfl ?_)); done) | ((repeat (first | exact subR.nil _ | refine subR.cons rfl rfl ?_)); done) | omega | (dsimp only; omega) | skip))
        | ((with_reducible refine Nx.weak (K ?_) ?_ ?_ ?_ ?_) <;> (first | exact ⟨fun p hp => hno p (by omega)⟩ | (first | exact subM.nil _ | exact subB.nil _ | exact subR.nil _ | ((repeat (first | exact subE.nil _ | refine subE.cons rfl rfl ?_ | refine subE.cons' rfl (fun _ => rfl) ?_ | (refine subE.cons rfl ?_ ?_; · (simp; done)))); done) | ((repeat (first | exact subM.nil _ | refine subM.cons rfl rfl rfl ?_)); done) | ((repeat (first | exact subB.nil _ | refine subB.cons rfl ?_)); done) | ((repeat (first | exact subR.nil _ | refine subR.cons rfl rfl ?_)); done) | omega | (dsimp only; omega)) | skip))
        | ((with_reducible refine atBr ?_); refine BrM.not (by omega) ?_; conv => whnf)
        | ((with_reducible refine atBr ?_); (first | refine BrM.t rfl ?_ | refine BrM.f rfl ?_ | refine BrM.dec (fun _ => ?_) (fun _ => ?_) | refine BrM.mk (fun _ => ?_) (fun _ => ?_)) <;> conv => whnf)
        | ((with_reducible refine atAr ?_); refine Ar.i64 (by omega) (by omega) ?_; conv => whnf)
        | ((with_reducible refine atOps ?_); refine goR 200 ?_; conv => whnf)
        | ((with_reducible refine atPlan ?_); refine Nx.runP (n := 200) rfl (by repeat (first | exact subB.nil _ | refine subB.cons rfl ?_)) ?_; conv => whnf)
        | ((with_reducible refine atAftL ?_); refine Nx.late ?_)
        | ((fail_if_success (with_reducible refine atRet ?_)); (fail_if_success (with_reducible refine atLoop ?_)); (fail_if_success (with_reducible refine atIn ?_)); (fail_if_success (with_reducible refine atDrawn ?_)); (fail_if_success (with_reducible refine atEnd ?_)); (with_reducible refine atRun ?_); refine goR 1 ?_; conv => whnf))
  obtain ⟨hpub⟩ := hpub
  rw [anyPub_nil hpub, if_neg (by decide)]
  refine go 1 ?_
  conv => whnf
  obtain ⟨f0, hf0⟩ : ∃ f : Int, f = if x.shown = 0 then n.lo else x.first := ⟨_, rfl⟩
  obtain ⟨yA, hyA⟩ : ∃ yA : Nat → WrH, ∀ i, yA i = { x with first := f0, shown := x.shown + i } := ⟨_, fun _ => rfl⟩
  refine Nx.joinR (E := [(0, .c (.v (ptr M.b))), (1, .c (.v (ptr x.b))), (5, .c (.loc 5 0)), (7, .c (.v (ptr g.b))), (8, sl c.A c.l.length c.c)]) (M := [(5, 42, [.v (.int .i64 n.who), .v (.int .i64 n.ring), .v (.int .i64 n.deed), .v (.int .i64 n.lo), .v (.int .i64 n.seq), .v (.int .i64 n.x.key), .v (.int .i64 n.x.val), .v (.int .i64 n.code)])]) (B := [(5, b5)]) (R := [(0, (M.setW k (yA 0)).sp)]) (fun K => ?_) ?_
  · by_cases s0 : x.shown = 0
    · rw [if_pos s0] at hf0
      repeat' (first
        | ((with_reducible refine Nx.weak K ?_ ?_ ?_ ?_) <;> (first | exact subM.nil _ | exact subB.nil _ | exact subR.nil _ | ((repeat (first | exact subE.nil _ | refine subE.cons rfl rfl ?_ | refine subE.cons' rfl (fun _ => rfl) ?_ | (refine subE.cons rfl ?_ ?_; · (simp; done)))); done) | ((repeat (first | exact subM.nil _ | refine subM.cons rfl rfl rfl ?_)); done) | ((repeat (first | exact subB.nil _ | refine subB.cons rfl ?_)); done) | ((repeat (first | exact subR.nil _ | refine subR.cons rfl rfl ?_)); done) | omega | (dsimp only; omega) | skip))
        | ((with_reducible refine atBr ?_); refine BrM.yes (by omega) ?_; conv => whnf)
        | ((with_reducible refine atBr ?_); (first | refine BrM.t rfl ?_ | refine BrM.f rfl ?_ | refine BrM.dec (fun _ => ?_) (fun _ => ?_) | refine BrM.mk (fun _ => ?_) (fun _ => ?_)) <;> conv => whnf)
        | ((with_reducible refine atAr ?_); refine Ar.i64 (by omega) (by omega) ?_; conv => whnf)
        | ((with_reducible refine atLoad ?_); refine Nx.load1 0 rfl rfl rfl rfl (x4) rfl ?_)
        | ((with_reducible refine atStore ?_); refine Nx.storeW 0 (M.setW k (yA 0)).sp rfl rfl rfl rfl rfl rfl rfl rfl rfl (MdH.setW_sp hx (by decide) (by rw [hyA]) (by rw [hyA, hf0]; rfl) (by rw [hyA]) (by rw [hyA]) (by rw [hyA])) ?_)
        | ((with_reducible refine atOps ?_); refine goR 200 ?_; conv => whnf)
        | ((with_reducible refine atPlan ?_); refine Nx.runP (n := 200) rfl (by repeat (first | exact subB.nil _ | refine subB.cons rfl ?_)) ?_; conv => whnf)
        | ((with_reducible refine atAftL ?_); refine Nx.late ?_)
        | ((fail_if_success (with_reducible refine atRet ?_)); (fail_if_success (with_reducible refine atLoop ?_)); (fail_if_success (with_reducible refine atIn ?_)); (fail_if_success (with_reducible refine atDrawn ?_)); (fail_if_success (with_reducible refine atEnd ?_)); (with_reducible refine atRun ?_); refine goR 1 ?_; conv => whnf))
    · rw [if_neg s0] at hf0
      have e : M.setW k (yA 0) = M := by
        have e1 : yA 0 = x := by rw [hyA, hf0]; rfl
        unfold MdH.setW
        rw [e1]
        have e2 : M.writers.set k x = M.writers := by
          have := (List.getElem?_eq_some_iff.1 hx).2
          rw [← this]; exact List.set_getElem_self _
        rw [e2]
      rw [e] at K
      repeat' (first
        | ((with_reducible refine Nx.weak K ?_ ?_ ?_ ?_) <;> (first | exact subM.nil _ | exact subB.nil _ | exact subR.nil _ | ((repeat (first | exact subE.nil _ | refine subE.cons rfl rfl ?_ | refine subE.cons' rfl (fun _ => rfl) ?_ | (refine subE.cons rfl ?_ ?_; · (simp; done)))); done) | ((repeat (first | exact subM.nil _ | refine subM.cons rfl rfl rfl ?_)); done) | ((repeat (first | exact subB.nil _ | refine subB.cons rfl ?_)); done) | ((repeat (first | exact subR.nil _ | refine subR.cons rfl rfl ?_)); done) | omega | (dsimp only; omega) | skip))
        | ((with_reducible refine atBr ?_); refine BrM.not (by omega) ?_; conv => whnf)
        | ((with_reducible refine atBr ?_); (first | refine BrM.t rfl ?_ | refine BrM.f rfl ?_ | refine BrM.dec (fun _ => ?_) (fun _ => ?_) | refine BrM.mk (fun _ => ?_) (fun _ => ?_)) <;> conv => whnf)
        | ((with_reducible refine atAr ?_); refine Ar.i64 (by omega) (by omega) ?_; conv => whnf)
        | ((with_reducible refine atLoad ?_); refine Nx.load1 0 rfl rfl rfl rfl (x4) rfl ?_)
        | ((with_reducible refine atOps ?_); refine goR 200 ?_; conv => whnf)
        | ((with_reducible refine atPlan ?_); refine Nx.runP (n := 200) rfl (by repeat (first | exact subB.nil _ | refine subB.cons rfl ?_)) ?_; conv => whnf)
        | ((with_reducible refine atAftL ?_); refine Nx.late ?_)
        | ((fail_if_success (with_reducible refine atRet ?_)); (fail_if_success (with_reducible refine atLoop ?_)); (fail_if_success (with_reducible refine atIn ?_)); (fail_if_success (with_reducible refine atDrawn ?_)); (fail_if_success (with_reducible refine atEnd ?_)); (with_reducible refine atRun ?_); refine goR 1 ?_; conv => whnf))
  obtain ⟨xs, hxs⟩ : ∃ xs, xs = (c.l.drop x.shown).take cnt := ⟨_, rfl⟩
  have hxl : xs.length = cnt := by rw [hxs, List.length_take, List.length_drop]; omega
  rw [← hxs]
  have e0 : (M.setL q g).setW k (yA 0) = M.setW k (yA 0) := by
    unfold MdH.setL MdH.setW
    have e2 : M.logs.set q g = M.logs := by rw [← hgq]; exact List.set_getElem_self _
    rw [e2]
  rw [← e0]
  repeat' (first
    | ((with_reducible refine atBr ?_); (first | refine BrM.t rfl ?_ | refine BrM.f rfl ?_ | refine BrM.dec (fun _ => ?_) (fun _ => ?_) | refine BrM.mk (fun _ => ?_) (fun _ => ?_)) <;> conv => whnf)
    | ((with_reducible refine atAr ?_); refine Ar.i64 (by omega) (by omega) ?_; conv => whnf)
    | (fail)
    | ((with_reducible refine atOps ?_); refine go 200 ?_; conv => whnf)
    | ((with_reducible refine atPlan ?_); refine Nx.runP (n := 200) rfl (by repeat (first | exact subB.nil _ | refine subB.cons rfl ?_)) ?_; conv => whnf)
    | ((with_reducible refine atAftL ?_); refine Nx.late ?_)
    | ((fail_if_success (with_reducible refine atRet ?_)); (fail_if_success (with_reducible refine atLoop ?_)); (fail_if_success (with_reducible refine atIn ?_)); (fail_if_success (with_reducible refine atDrawn ?_)); (fail_if_success (with_reducible refine atEnd ?_)); (with_reducible refine atRun ?_); refine go 200 ?_; conv => whnf))
  refine Nx.loop (X := ShX) (fun s => s.i ≤ cnt ∧ s.gX.b = g.b ∧ s.gX.g = g.g.puts lo (xs.take s.i)) (fun s => cnt - s.i)
    (fun s => [(0, .c (.v (ptr M.b))), (1, .c (.v (ptr x.b))), (5, .c (.loc 5 0)), (7, .c (.v (ptr g.b))), (8, sl c.A c.l.length c.c), (11, iv (n.lo + s.i))]) (fun _ => [(5, 42, [.v (.int .i64 n.who), .v (.int .i64 n.ring), .v (.int .i64 n.deed), .v (.int .i64 n.lo), .v (.int .i64 n.seq), .v (.int .i64 n.x.key), .v (.int .i64 n.x.val), .v (.int .i64 n.code)])]) [(5, b5)] (fun s => [(0, ((M.setL q s.gX).setW k (yA s.i)).sp)]) ⟨g, 0⟩ ⟨Nat.zero_le _, rfl, rfl⟩ ?_ ?_ ?_ ?_ ?_
  · exact .cons rfl rfl (.cons rfl rfl (.cons rfl rfl (.cons rfl rfl (.cons rfl rfl (.cons rfl (by simp) (.nil _))))))
  · repeat (first | exact subM.nil _ | refine subM.cons rfl rfl rfl ?_)
  · repeat (first | exact subB.nil _ | refine subB.cons rfl ?_)
  · repeat (first | exact subR.nil _ | refine subR.cons rfl rfl ?_)
  intro ⟨gX, i⟩ ⟨hi, hgb, hgg⟩ ih
  dsimp only at hi hgb hgg ih ⊢
  obtain ⟨pa1, _, _, pa4, _⟩ := puts_all (xs.take i) g.g lo hgp.1
  rw [← hgg] at pa1 pa4
  have hgl : gX.g.l.length ≤ 2100000 := by
    by_cases he : xs.take i = []
    · have : gX.g = g.g := by rw [hgg, he]; rfl
      rw [this]; omega
    · rw [pa4 he, List.length_take]; omega
  by_cases hlt : i < cnt
  · obtain ⟨X, hX⟩ : ∃ X : MdH, X = (M.setL q gX).setW k (yA i) := ⟨_, rfl⟩
    rw [← hX]
    have hkl : k < M.writers.length := (List.getElem?_eq_some_iff.1 hx).1
    have hXg : X.logs[q]? = some gX := by rw [hX]; simp [MdH.setL, MdH.setW, List.getElem?_set, hql]
    have hXk : X.writers[k]? = some (yA i) := by rw [hX]; simp [MdH.setL, MdH.setW, List.getElem?_set, hkl]
    have y4 : SeesAt X.sp x.b (addN 0 4) [.int .i64 ((x.shown + i : Nat) : Int)] := by
      have h := (MdH.wat (M := X) (List.mem_of_getElem? hXk)).sub 4 rfl
      rw [hyA] at h
      exact h
    have hEv := MdH.wev (M := X) (List.mem_of_getElem? hXk) (c := c) (by rw [hyA]; exact hcm)
    have hjl : x.shown + i < c.l.length := by omega
    have hput := put_ok gX pa1 hgl (lo + i) (by omega) c.l[x.shown + i]
    rw [show ((lo + i : Nat) : Int) = n.lo + i by omega, hgb] at hput
    repeat' (first
      | ((with_reducible refine atBr ?_); refine BrM.yes (by omega) ?_; conv => whnf)
      | ((with_reducible refine atBr ?_); (first | refine BrM.t rfl ?_ | refine BrM.f rfl ?_ | refine BrM.dec (fun _ => ?_) (fun _ => ?_) | refine BrM.mk (fun _ => ?_) (fun _ => ?_)) <;> conv => whnf)
      | ((with_reducible refine atAr ?_); refine Ar.i64 (by omega) (by omega) ?_; conv => whnf)
      | ((with_reducible refine atLoad ?_); refine Nx.load1 0 rfl rfl rfl rfl (y4) rfl ?_)
      | ((with_reducible refine atIdx ?_); refine Nx.idx 0 (j := (x.shown + i)) rfl rfl rfl Try.underlying36 rfl rfl rfl evC_len hEv rfl (by omega) (by omega) fun _ _ _ => ?_)
      | ((with_reducible refine atLoad ?_); first | (refine Nx.load1 0 rfl rfl rfl rfl (SeesAt.sub (by assumption) _ rfl) rfl ?_) | (refine Nx.load1 0 rfl rfl rfl rfl (by assumption) rfl ?_) | (refine Nx.load 0 rfl rfl rfl rfl (by assumption) rfl rfl ?_))
      | ((with_reducible refine atOps ?_); refine go 200 ?_; conv => whnf)
      | ((with_reducible refine atPlan ?_); refine Nx.runP (n := 200) rfl (by repeat (first | exact subB.nil _ | refine subB.cons rfl ?_)) ?_; conv => whnf)
      | ((with_reducible refine atAftL ?_); refine Nx.late ?_)
      | ((fail_if_success (with_reducible refine atRet ?_)); (fail_if_success (with_reducible refine atLoop ?_)); (fail_if_success (with_reducible refine atIn ?_)); (fail_if_success (with_reducible refine atDrawn ?_)); (fail_if_success (with_reducible refine atEnd ?_)); (with_reducible refine atRun ?_); refine go 200 ?_; conv => whnf))
    refine Nx.turn [0] [20, 0] [gX.sp, X.holeL q] rfl (MdH.outL hXg) ?_
    refine Nx.call [20] [20] rfl rfl rfl rfl rfl hput rfl fun v Q hQ => ?_
    obtain ⟨g', egb, egg, rfl⟩ := hQ
    obtain ⟨X2, hX2⟩ : ∃ X2 : MdH, X2 = (M.setL q g').setW k (yA i) := ⟨_, rfl⟩
    have eX : X.setL q g' = X2 := by rw [hX, hX2]; simp [MdH.setL, MdH.setW]
    have hin := MdH.inL (M := X) hXg (y := g') (by rw [egb, hgb])
    rw [eX] at hin
    refine Nx.turn [20, 0] [0] [X2.sp] rfl hin ?_
    have hX2k : X2.writers[k]? = some (yA i) := by rw [hX2]; simp [MdH.setL, MdH.setW, List.getElem?_set, hkl]
    have z4 : SeesAt X2.sp x.b (addN 0 4) [.int .i64 ((x.shown + i : Nat) : Int)] := by
      have h := (MdH.wat (M := X2) (List.mem_of_getElem? hX2k)).sub 4 rfl
      rw [hyA] at h
      exact h
    have hset : SetAt X2.sp x.b 4 (.int .i64 (((x.shown + i : Nat) : Int) + 1)) ((M.setL q g').setW k (yA (i + 1))).sp := by
      have h := MdH.setW_sp (M := X2) hX2k (y := yA (i + 1)) (p := 4) (v := .int .i64 (((x.shown + i : Nat) : Int) + 1)) (by decide) (by rw [hyA, hyA]) (by
        rw [hyA, hyA]
        show [_, _, _, _, _, _] = [_, _, _, _, _, _]
        rfl) (by rw [hyA, hyA]) (by rw [hyA, hyA]) (by rw [hyA, hyA])
      have e1 : X2.setW k (yA (i + 1)) = (M.setL q g').setW k (yA (i + 1)) := by rw [hX2]; simp [MdH.setL, MdH.setW]
      have e2 : (yA i).b = x.b := by rw [hyA]
      rw [e1, e2] at h
      exact h
    repeat' (first
      | ((with_reducible refine atBr ?_); (first | refine BrM.t rfl ?_ | refine BrM.f rfl ?_ | refine BrM.dec (fun _ => ?_) (fun _ => ?_) | refine BrM.mk (fun _ => ?_) (fun _ => ?_)) <;> conv => whnf)
      | ((with_reducible refine atAr ?_); refine Ar.i64 (by omega) (by omega) ?_; conv => whnf)
      | ((with_reducible refine atLoad ?_); refine Nx.load1 0 rfl rfl rfl rfl (z4) rfl ?_)
      | ((with_reducible refine atStore ?_); refine Nx.storeW 0 ((M.setL q g').setW k (yA (i + 1))).sp rfl rfl rfl rfl rfl rfl rfl rfl rfl hset ?_)
      | ((with_reducible refine atOps ?_); refine go 200 ?_; conv => whnf)
      | ((with_reducible refine atPlan ?_); refine Nx.runP (n := 200) rfl (by repeat (first | exact subB.nil _ | refine subB.cons rfl ?_)) ?_; conv => whnf)
      | ((with_reducible refine atAftL ?_); refine Nx.late ?_)
      | ((fail_if_success (with_reducible refine atRet ?_)); (fail_if_success (with_reducible refine atLoop ?_)); (fail_if_success (with_reducible refine atIn ?_)); (fail_if_success (with_reducible refine atDrawn ?_)); (fail_if_success (with_reducible refine atEnd ?_)); (with_reducible refine atRun ?_); refine go 200 ?_; conv => whnf))
    refine (ih ⟨g', i + 1⟩ ⟨by dsimp only; omega, egb, ?_⟩ (by dsimp only; omega)).weak ?_ ?_ ?_ ?_
    · dsimp only
      have hix : i < xs.length := by omega
      have e1 : xs.take (i + 1) = xs.take i ++ [c.l[x.shown + i]] := by
        rw [List.take_add_one, List.getElem?_eq_getElem hix]
        have : xs[i] = c.l[x.shown + i] := by
          subst hxs
          rw [List.getElem_take, List.getElem_drop]
        rw [this]; rfl
      rw [egg, hgg, e1, puts_snoc]
      have : (xs.take i).length = i := by rw [List.length_take]; omega
      rw [this]
    · exact .cons rfl rfl (.cons rfl rfl (.cons rfl rfl (.cons rfl rfl (.cons rfl rfl (.cons rfl (by simp; omega) (.nil _))))))
    · repeat (first | exact subM.nil _ | refine subM.cons rfl rfl rfl ?_)
    · repeat (first | exact subB.nil _ | refine subB.cons rfl ?_)
    · repeat (first | exact subR.nil _ | refine subR.cons rfl rfl ?_)
  · have ei : i = cnt := by omega
    have e1 : xs.take i = xs := List.take_of_length_le (by omega)
    rw [e1] at hgg
    have ep : ((M.setL q gX).setW k (yA i)).p = { M.p with logs := M.p.logs.modify q fun g => g.puts lo xs, writers := M.p.writers.modify k fun w => { w with first := if w.shown = 0 then n.lo else w.first, shown := w.shown + cnt } } := by
      have a1 := map_set_modify (f := LogH.g) (u := fun g => g.puts lo xs) hg (y := gX) hgg
      have a2 := map_set_modify (f := WrH.p) (u := fun w => { w with first := if w.shown = 0 then n.lo else w.first, shown := w.shown + cnt }) hx (y := yA i) (by rw [hyA, hf0, ei]; rfl)
      simp only [MdH.setW, MdH.setL, MdH.p, a1, a2]
    repeat' (first
      | ((with_reducible refine atBr ?_); refine BrM.not (by omega) ?_; conv => whnf)
      | ((with_reducible refine atBr ?_); (first | refine BrM.t rfl ?_ | refine BrM.f rfl ?_ | refine BrM.dec (fun _ => ?_) (fun _ => ?_) | refine BrM.mk (fun _ => ?_) (fun _ => ?_)) <;> conv => whnf)
      | ((with_reducible refine atAr ?_); refine Ar.i64 (by omega) (by omega) ?_; conv => whnf)
      | ((with_reducible refine atRet ?_); refine Nx.ret [0] Try.func60 rfl rfl ?_; (exact MdQ.no (M := (M.setL q gX).setW k (yA i)) rfl ep))
      | ((with_reducible refine atOps ?_); refine go 200 ?_; conv => whnf)
      | ((with_reducible refine atPlan ?_); refine Nx.runP (n := 200) rfl (by repeat (first | exact subB.nil _ | refine subB.cons rfl ?_)) ?_; conv => whnf)
      | ((with_reducible refine atAftL ?_); refine Nx.late ?_)
      | ((fail_if_success (with_reducible refine atRet ?_)); (fail_if_success (with_reducible refine atLoop ?_)); (fail_if_success (with_reducible refine atIn ?_)); (fail_if_success (with_reducible refine atDrawn ?_)); (fail_if_success (with_reducible refine atEnd ?_)); (with_reducible refine atRun ?_); refine go 200 ?_; conv => whnf))
end Go.Proofs.Ytngfadijcpnblaa

/- The program's model: writes. -/
namespace Go.Proofs.Ytngfadijcpnblaa
open Go.RowKit
set_option maxRecDepth 20000
set_option maxHeartbeats 4000000
theorem MdH.fitW {M : MdH} {x : WrH} (hx : x ∈ M.writers) : ∀ r h, M.sp r h → x.calls.length ≤ x.cc := by
  intro r h hs
  obtain ⟨r1, h1, _, _, e1⟩ := Sat.mem (P := star (M.writers.map WrH.sp)) (show Sat M.parts r h from hs) (by simp [MdH.parts])
  obtain ⟨r2, h2, _, _, e2⟩ := Sat.mem (P := x.sp) (show Sat (M.writers.map WrH.sp) r1 h1 from e1) (List.mem_map_of_mem hx)
  obtain ⟨r3, h3, _, _, e3⟩ := Sat.mem (P := ownT 36 x.cA x.calls.length x.cc 1 (x.calls.flatMap CallH.enc)) (L := [blk x.b (.cells x.cells.toArray 104 (0, 0)), ownT 36 x.cA x.calls.length x.cc 1 (x.calls.flatMap CallH.enc), star (x.calls.map CallH.sp)]) e2 (by simp)
  exact (ownT_fit e3).1
attribute [local irreducible] Nx Ar BrM
theorem writes_ok (M : MdH) (hm : MdW M.p) {k : Nat} {x : WrH} (hx : M.writers[k]? = some x) (n : Nt) :
    FnOk Try.prog 43 [ptr M.b, ptr x.b, n.v] [M.sp] (MdQ M.b (M.p.writes k x.p n)) := by
  have hxm := List.mem_of_getElem? hx
  have hxp := List.mem_map_of_mem (f := WrH.p) hxm
  have hw := hm.wb x.p hxp
  replace hw : -1 ≤ x.first ∧ x.first ≤ 4611686018427387904 ∧ x.shown ≤ 64 ∧ x.calls.length ≤ 200 := by simpa [WrH.p] using hw
  have hwat := MdH.wat (M := M) hxm
  have x0 := hwat.sub 0 rfl
  have x2 := hwat.sub 2 rfl
  have x3 := hwat.sub 3 rfl
  have x4 := hwat.sub 4 rfl
  have x5 := hwat.sub 5 rfl
  clear hwat
  unfold MdP.writes
  have exo : x.p.over = x.over := rfl
  have exs : x.p.shown = x.shown := rfl
  have exf : x.p.first = x.first := rfl
  have exc : x.p.calls = x.calls.map (·.l) := rfl
  rw [exo]
  cases hov : x.over with
  | true =>
    rw [if_pos rfl]
    rw [hov] at x5
    unfold Nt.v
    refine FnOk.start Try.func43 rfl rfl rfl rfl fun F os tape output => ?_
    refine go 200 ?_
    conv => whnf
    refine Nx.bind (l := 5) (fun b5 => ?_) rfl
    repeat' (first
      | ((with_reducible refine atBr ?_); (first | refine BrM.t rfl ?_ | refine BrM.f rfl ?_ | refine BrM.dec (fun _ => ?_) (fun _ => ?_) | refine BrM.mk (fun _ => ?_) (fun _ => ?_)) <;> conv => whnf)
      | ((with_reducible refine atAr ?_); refine Ar.i64 (by omega) (by omega) ?_; conv => whnf)
      | ((with_reducible refine atLoad ?_); refine Nx.load1 0 rfl rfl rfl rfl (x5) rfl ?_)
      | ((with_reducible refine atLoad ?_); refine Nx.load1 0 rfl rfl rfl rfl (x0) rfl ?_)
      | ((with_reducible refine (atCall 37) ?_); refine Nx.call [] [9] rfl rfl rfl rfl rfl ((wrong_ok _ _ 17)) rfl fun v Q hQ => ?_; obtain ⟨b,rfl,rfl⟩ := hQ)
      | ((with_reducible refine atRet ?_); refine Nx.ret [0,9] Try.func43 rfl rfl ?_; (exact MdQ.yes rfl (by decide)))
      | ((with_reducible refine atOps ?_); refine go 200 ?_; conv => whnf)
      | ((with_reducible refine atPlan ?_); refine Nx.runP (n := 200) rfl (by repeat (first | exact subB.nil _ | refine subB.cons rfl ?_)) ?_; conv => whnf)
      | ((with_reducible refine atAftL ?_); refine Nx.late ?_)
      | ((fail_if_success (with_reducible refine atRet ?_)); (fail_if_success (with_reducible refine atLoop ?_)); (fail_if_success (with_reducible refine atIn ?_)); (fail_if_success (with_reducible refine atDrawn ?_)); (fail_if_success (with_reducible refine atEnd ?_)); (with_reducible refine atRun ?_); refine go 200 ?_; conv => whnf))
  | false =>
  rw [if_neg (by decide)]
  rw [hov] at x5
  by_cases h7 : n.deed = 7
  · rw [if_pos h7]
    cases hc : x.calls with
    | nil =>
      rw [exc, hc]
      rw [hc] at x2
      obtain ⟨y, hy⟩ : ∃ y : WrH, y = { x with over := true } := ⟨_, rfl⟩
      have ep : (M.setW k y).p = M.p.setW k fun w => { w with over := true } := MdH.setW_p hx (by rw [hy]; rfl)
      unfold Nt.v
      refine FnOk.start Try.func43 rfl rfl rfl rfl fun F os tape output => ?_
      refine go 200 ?_
      conv => whnf
      refine Nx.bind (l := 5) (fun b5 => ?_) rfl
      repeat' (first
        | ((with_reducible refine atBr ?_); refine BrM.yes (by omega) ?_; conv => whnf)
        | ((with_reducible refine atBr ?_); refine BrM.not (by omega) ?_; conv => whnf)
        | ((with_reducible refine atBr ?_); (first | refine BrM.t rfl ?_ | refine BrM.f rfl ?_ | refine BrM.dec (fun _ => ?_) (fun _ => ?_) | refine BrM.mk (fun _ => ?_) (fun _ => ?_)) <;> conv => whnf)
        | ((with_reducible refine atAr ?_); refine Ar.i64 (by omega) (by omega) ?_; conv => whnf)
        | ((with_reducible refine atLoad ?_); refine Nx.load1 0 rfl rfl rfl rfl (x5) rfl ?_)
        | ((with_reducible refine atLoad ?_); refine Nx.load1 0 rfl rfl rfl rfl (x2) rfl ?_)
        | ((with_reducible refine atStore ?_); refine Nx.storeW 0 (M.setW k y).sp rfl rfl rfl rfl rfl rfl rfl rfl rfl (MdH.setW_sp hx (by decide) (by rw [hy]) (by rw [hy]; rfl) (by rw [hy]) (by rw [hy]) (by rw [hy])) ?_)
        | ((with_reducible refine atRet ?_); refine Nx.ret [0] Try.func43 rfl rfl ?_; (exact MdQ.no (M := M.setW k y) rfl ep))
        | ((with_reducible refine atOps ?_); refine go 200 ?_; conv => whnf)
        | ((with_reducible refine atPlan ?_); refine Nx.runP (n := 200) rfl (by repeat (first | exact subB.nil _ | refine subB.cons rfl ?_)) ?_; conv => whnf)
        | ((with_reducible refine atAftL ?_); refine Nx.late ?_)
        | ((fail_if_success (with_reducible refine atRet ?_)); (fail_if_success (with_reducible refine atLoop ?_)); (fail_if_success (with_reducible refine atIn ?_)); (fail_if_success (with_reducible refine atDrawn ?_)); (fail_if_success (with_reducible refine atEnd ?_)); (with_reducible refine atRun ?_); refine go 200 ?_; conv => whnf))
    | cons c r =>
      rw [exc, hc]
      have hlen : 0 < x.calls.length := by rw [hc]; simp
      unfold Nt.v
      refine FnOk.start Try.func43 rfl rfl rfl rfl fun F os tape output => ?_
      refine go 200 ?_
      conv => whnf
      refine Nx.bind (l := 5) (fun b5 => ?_) rfl
      repeat' (first
        | ((with_reducible refine atBr ?_); refine BrM.yes (by omega) ?_; conv => whnf)
        | ((with_reducible refine atBr ?_); refine BrM.not (by omega) ?_; conv => whnf)
        | ((with_reducible refine atBr ?_); (first | refine BrM.t rfl ?_ | refine BrM.f rfl ?_ | refine BrM.dec (fun _ => ?_) (fun _ => ?_) | refine BrM.mk (fun _ => ?_) (fun _ => ?_)) <;> conv => whnf)
        | ((with_reducible refine atAr ?_); refine Ar.i64 (by omega) (by omega) ?_; conv => whnf)
        | ((with_reducible refine atLoad ?_); refine Nx.load1 0 rfl rfl rfl rfl (x5) rfl ?_)
        | ((with_reducible refine atLoad ?_); refine Nx.load1 0 rfl rfl rfl rfl (x2) rfl ?_)
        | ((with_reducible refine atLoad ?_); refine Nx.load1 0 rfl rfl rfl rfl (x0) rfl ?_)
        | ((with_reducible refine (atCall 37) ?_); refine Nx.call [] [9] rfl rfl rfl rfl rfl ((wrong_ok _ _ 18)) rfl fun v Q hQ => ?_; obtain ⟨b,rfl,rfl⟩ := hQ)
        | ((with_reducible refine atRet ?_); refine Nx.ret [0,9] Try.func43 rfl rfl ?_; (exact MdQ.yes rfl (by decide)))
        | ((with_reducible refine atOps ?_); refine go 200 ?_; conv => whnf)
        | ((with_reducible refine atPlan ?_); refine Nx.runP (n := 200) rfl (by repeat (first | exact subB.nil _ | refine subB.cons rfl ?_)) ?_; conv => whnf)
        | ((with_reducible refine atAftL ?_); refine Nx.late ?_)
        | ((fail_if_success (with_reducible refine atRet ?_)); (fail_if_success (with_reducible refine atLoop ?_)); (fail_if_success (with_reducible refine atIn ?_)); (fail_if_success (with_reducible refine atDrawn ?_)); (fail_if_success (with_reducible refine atEnd ?_)); (with_reducible refine atRun ?_); refine go 200 ?_; conv => whnf))
  rw [if_neg h7]
  by_cases h14 : n.deed ≠ 1 ∧ n.deed ≠ 4
  · rw [if_pos h14]
    unfold Nt.v
    refine FnOk.start Try.func43 rfl rfl rfl rfl fun F os tape output => ?_
    refine go 200 ?_
    conv => whnf
    refine Nx.bind (l := 5) (fun b5 => ?_) rfl
    repeat' (first
      | ((with_reducible refine atBr ?_); refine BrM.yes (by omega) ?_; conv => whnf)
      | ((with_reducible refine atBr ?_); refine BrM.not (by omega) ?_; conv => whnf)
      | ((with_reducible refine atBr ?_); (first | refine BrM.t rfl ?_ | refine BrM.f rfl ?_ | refine BrM.dec (fun _ => ?_) (fun _ => ?_) | refine BrM.mk (fun _ => ?_) (fun _ => ?_)) <;> conv => whnf)
      | ((with_reducible refine atAr ?_); refine Ar.i64 (by omega) (by omega) ?_; conv => whnf)
      | ((with_reducible refine atLoad ?_); refine Nx.load1 0 rfl rfl rfl rfl (x5) rfl ?_)
      | ((with_reducible refine (atCall 37) ?_); refine Nx.call [] [9] rfl rfl rfl rfl rfl ((wrong_ok _ _ 1)) rfl fun v Q hQ => ?_; obtain ⟨b,rfl,rfl⟩ := hQ)
      | ((with_reducible refine atRet ?_); refine Nx.ret [0,9] Try.func43 rfl rfl ?_; (exact MdQ.yes rfl (by decide)))
      | ((with_reducible refine atOps ?_); refine go 200 ?_; conv => whnf)
      | ((with_reducible refine atPlan ?_); refine Nx.runP (n := 200) rfl (by repeat (first | exact subB.nil _ | refine subB.cons rfl ?_)) ?_; conv => whnf)
      | ((with_reducible refine atAftL ?_); refine Nx.late ?_)
      | ((fail_if_success (with_reducible refine atRet ?_)); (fail_if_success (with_reducible refine atLoop ?_)); (fail_if_success (with_reducible refine atIn ?_)); (fail_if_success (with_reducible refine atDrawn ?_)); (fail_if_success (with_reducible refine atEnd ?_)); (with_reducible refine atRun ?_); refine go 200 ?_; conv => whnf))
  rw [if_neg h14]
  cases hc : x.calls with
  | nil =>
    rw [exc, hc]
    rw [hc] at x2
    unfold Nt.v
    refine FnOk.start Try.func43 rfl rfl rfl rfl fun F os tape output => ?_
    refine go 200 ?_
    conv => whnf
    refine Nx.bind (l := 5) (fun b5 => ?_) rfl
    repeat' (first
      | ((with_reducible refine atBr ?_); refine BrM.yes (by omega) ?_; conv => whnf)
      | ((with_reducible refine atBr ?_); refine BrM.not (by omega) ?_; conv => whnf)
      | ((with_reducible refine atBr ?_); (first | refine BrM.t rfl ?_ | refine BrM.f rfl ?_ | refine BrM.dec (fun _ => ?_) (fun _ => ?_) | refine BrM.mk (fun _ => ?_) (fun _ => ?_)) <;> conv => whnf)
      | ((with_reducible refine atAr ?_); refine Ar.i64 (by omega) (by omega) ?_; conv => whnf)
      | ((with_reducible refine atLoad ?_); refine Nx.load1 0 rfl rfl rfl rfl (x5) rfl ?_)
      | ((with_reducible refine atLoad ?_); refine Nx.load1 0 rfl rfl rfl rfl (x2) rfl ?_)
      | ((with_reducible refine atLoad ?_); refine Nx.load1 0 rfl rfl rfl rfl (x0) rfl ?_)
      | ((with_reducible refine (atCall 37) ?_); refine Nx.call [] [9] rfl rfl rfl rfl rfl ((wrong_ok _ _ 11)) rfl fun v Q hQ => ?_; obtain ⟨b,rfl,rfl⟩ := hQ)
      | ((with_reducible refine atRet ?_); refine Nx.ret [0,9] Try.func43 rfl rfl ?_; (exact MdQ.yes rfl (by decide)))
      | ((with_reducible refine atOps ?_); refine go 200 ?_; conv => whnf)
      | ((with_reducible refine atPlan ?_); refine Nx.runP (n := 200) rfl (by repeat (first | exact subB.nil _ | refine subB.cons rfl ?_)) ?_; conv => whnf)
      | ((with_reducible refine atAftL ?_); refine Nx.late ?_)
      | ((fail_if_success (with_reducible refine atRet ?_)); (fail_if_success (with_reducible refine atLoop ?_)); (fail_if_success (with_reducible refine atIn ?_)); (fail_if_success (with_reducible refine atDrawn ?_)); (fail_if_success (with_reducible refine atEnd ?_)); (with_reducible refine atRun ?_); refine go 200 ?_; conv => whnf))
  | cons c r =>
  have hlen : 0 < x.calls.length := by rw [hc]; simp
  rw [exc, hc]
  simp only [List.map_cons]
  by_cases h1 : n.deed = 1
  · rw [if_pos h1]
    have hwr := hm.wring x.p hxp
    obtain ⟨q, hq⟩ : ∃ q : Nat, x.ring = q := ⟨x.ring.toNat, by have : x.p.ring = x.ring := rfl; omega⟩
    have hql : q < M.logs.length := by
      have h := hwr.2
      have : x.p.ring = x.ring := rfl
      simp only [MdH.p, List.length_map] at h
      omega
    have hg : M.logs[q]? = some M.logs[q] := List.getElem?_eq_getElem hql
    have hs := shows_ok M hm hx hq hg hc n
    have e1 : M.p.logs[x.p.ring.toNat]? = some (M.logs[q]).g := by
      have : x.p.ring.toNat = q := by show x.ring.toNat = q; omega
      rw [this]
      simp [MdH.p, List.getElem?_eq_getElem hql]
    rw [e1]
    dsimp only
    unfold Nt.v at hs ⊢
    refine FnOk.start Try.func43 rfl rfl rfl rfl fun F os tape output => ?_
    refine go 200 ?_
    conv => whnf
    refine Nx.bind (l := 5) (fun b5 => ?_) rfl
    repeat' (first
      | ((with_reducible refine atBr ?_); refine BrM.yes (by omega) ?_; conv => whnf)
      | ((with_reducible refine atBr ?_); refine BrM.not (by omega) ?_; conv => whnf)
      | ((with_reducible refine atBr ?_); (first | refine BrM.t rfl ?_ | refine BrM.f rfl ?_ | refine BrM.dec (fun _ => ?_) (fun _ => ?_) | refine BrM.mk (fun _ => ?_) (fun _ => ?_)) <;> conv => whnf)
      | ((with_reducible refine atAr ?_); refine Ar.i64 (by omega) (by omega) ?_; conv => whnf)
      | ((with_reducible refine atLoad ?_); refine Nx.load1 0 rfl rfl rfl rfl (x5) rfl ?_)
      | ((with_reducible refine atLoad ?_); refine Nx.load1 0 rfl rfl rfl rfl (x2) rfl ?_)
      | ((with_reducible refine (atCall 60) ?_); refine Nx.call [0] [0,9] rfl rfl rfl rfl rfl (hs) rfl fun v Q hQ => ?_; obtain ⟨M',eb,ep,⟨h0,rfl,rfl⟩|⟨h0,b,q,rfl,rfl⟩⟩ := hQ)
      | ((with_reducible refine atRet ?_); refine Nx.ret [0,9] Try.func43 rfl rfl ?_; (exact ⟨M', eb, ep, .inr ⟨h0, b, q, rfl, rfl⟩⟩))
      | ((with_reducible refine atRet ?_); refine Nx.ret [0] Try.func43 rfl rfl ?_; (exact ⟨M', eb, ep, .inl ⟨h0, rfl, rfl⟩⟩))
      | ((with_reducible refine atOps ?_); refine go 200 ?_; conv => whnf)
      | ((with_reducible refine atPlan ?_); refine Nx.runP (n := 200) rfl (by repeat (first | exact subB.nil _ | refine subB.cons rfl ?_)) ?_; conv => whnf)
      | ((with_reducible refine atAftL ?_); refine Nx.late ?_)
      | ((fail_if_success (with_reducible refine atRet ?_)); (fail_if_success (with_reducible refine atLoop ?_)); (fail_if_success (with_reducible refine atIn ?_)); (fail_if_success (with_reducible refine atDrawn ?_)); (fail_if_success (with_reducible refine atEnd ?_)); (with_reducible refine atRun ?_); refine go 200 ?_; conv => whnf))
  rw [if_neg h1]
  have hcm : c ∈ x.calls := by rw [hc]; exact List.mem_cons_self
  have hcl64 := hm.wcall x.p hxp c.l (List.mem_map_of_mem (f := CallH.l) hcm)
  have hCalls : Sees M.sp x.cA x.calls.length 1 ((c :: r).flatMap CallH.enc) := by rw [← hc]; exact MdH.wca hxm
  have hcl : x.calls.length = (c :: r).length := by rw [hc]
  rw [exs, exf]
  by_cases h2 : n.code ≠ 0 ∧ 0 < x.shown
  · rw [if_pos h2]
    unfold Nt.v
    refine FnOk.start Try.func43 rfl rfl rfl rfl fun F os tape output => ?_
    refine go 200 ?_
    conv => whnf
    refine Nx.bind (l := 5) (fun b5 => ?_) rfl
    repeat' (first
      | ((with_reducible refine atBr ?_); refine BrM.yes (by omega) ?_; conv => whnf)
      | ((with_reducible refine atBr ?_); refine BrM.not (by omega) ?_; conv => whnf)
      | ((with_reducible refine atBr ?_); (first | refine BrM.t rfl ?_ | refine BrM.f rfl ?_ | refine BrM.dec (fun _ => ?_) (fun _ => ?_) | refine BrM.mk (fun _ => ?_) (fun _ => ?_)) <;> conv => whnf)
      | ((with_reducible refine atAr ?_); refine Ar.i64 (by omega) (by omega) ?_; conv => whnf)
      | ((with_reducible refine atLoad ?_); refine Nx.load1 0 rfl rfl rfl rfl (x5) rfl ?_)
      | ((with_reducible refine atLoad ?_); refine Nx.load1 0 rfl rfl rfl rfl (x2) rfl ?_)
      | ((with_reducible refine atIdx ?_); refine Nx.idx 0 (j := 0) rfl rfl rfl Try.underlying102 rfl rfl rfl CallH.enc_len hCalls hcl rfl (by simp) fun b p hq => ?_; have hq2 : SeesAt M.sp b p c.enc := hq)
      | ((with_reducible refine atLoad ?_); first | (refine Nx.load1 0 rfl rfl rfl rfl (SeesAt.sub (by assumption) _ rfl) rfl ?_) | (refine Nx.load1 0 rfl rfl rfl rfl (by assumption) rfl ?_) | (refine Nx.load 0 rfl rfl rfl rfl (by assumption) rfl rfl ?_))
      | ((with_reducible refine atLoad ?_); refine Nx.load1 0 rfl rfl rfl rfl (x4) rfl ?_)
      | ((with_reducible refine (atCall 37) ?_); refine Nx.call [] [9] rfl rfl rfl rfl rfl ((wrong_ok _ _ 18)) rfl fun v Q hQ => ?_; obtain ⟨b,rfl,rfl⟩ := hQ)
      | ((with_reducible refine atRet ?_); refine Nx.ret [0,9] Try.func43 rfl rfl ?_; (exact MdQ.yes rfl (by decide)))
      | ((with_reducible refine atOps ?_); refine go 200 ?_; conv => whnf)
      | ((with_reducible refine atPlan ?_); refine Nx.runP (n := 200) rfl (by repeat (first | exact subB.nil _ | refine subB.cons rfl ?_)) ?_; conv => whnf)
      | ((with_reducible refine atAftL ?_); refine Nx.late ?_)
      | ((fail_if_success (with_reducible refine atRet ?_)); (fail_if_success (with_reducible refine atLoop ?_)); (fail_if_success (with_reducible refine atIn ?_)); (fail_if_success (with_reducible refine atDrawn ?_)); (fail_if_success (with_reducible refine atEnd ?_)); (with_reducible refine atRun ?_); refine go 200 ?_; conv => whnf))
  rw [if_neg h2]
  by_cases h3 : n.code = 0 ∧ ((x.shown : Nat) ≠ c.l.length ∨ n.lo ≠ x.first ∨ n.seq ≠ x.first + c.l.length - 1)
  · rw [if_pos h3]
    unfold Nt.v
    refine FnOk.start Try.func43 rfl rfl rfl rfl fun F os tape output => ?_
    refine go 200 ?_
    conv => whnf
    refine Nx.bind (l := 5) (fun b5 => ?_) rfl
    repeat' (first
      | ((with_reducible refine atBr ?_); refine BrM.yes (by omega) ?_; conv => whnf)
      | ((with_reducible refine atBr ?_); refine BrM.not (by omega) ?_; conv => whnf)
      | ((with_reducible refine atBr ?_); (first | refine BrM.t rfl ?_ | refine BrM.f rfl ?_ | refine BrM.dec (fun _ => ?_) (fun _ => ?_) | refine BrM.mk (fun _ => ?_) (fun _ => ?_)) <;> conv => whnf)
      | ((with_reducible refine atAr ?_); refine Ar.i64 (by omega) (by omega) ?_; conv => whnf)
      | ((with_reducible refine atLoad ?_); refine Nx.load1 0 rfl rfl rfl rfl (x5) rfl ?_)
      | ((with_reducible refine atLoad ?_); refine Nx.load1 0 rfl rfl rfl rfl (x2) rfl ?_)
      | ((with_reducible refine atIdx ?_); refine Nx.idx 0 (j := 0) rfl rfl rfl Try.underlying102 rfl rfl rfl CallH.enc_len hCalls hcl rfl (by simp) fun b p hq => ?_; have hq2 : SeesAt M.sp b p c.enc := hq)
      | ((with_reducible refine atLoad ?_); first | (refine Nx.load1 0 rfl rfl rfl rfl (SeesAt.sub (by assumption) _ rfl) rfl ?_) | (refine Nx.load1 0 rfl rfl rfl rfl (by assumption) rfl ?_) | (refine Nx.load 0 rfl rfl rfl rfl (by assumption) rfl rfl ?_))
      | ((with_reducible refine atLoad ?_); refine Nx.load1 0 rfl rfl rfl rfl (x4) rfl ?_)
      | ((with_reducible refine (atDrawnN 17) ?_); refine Nx.drawn0 [0] [.pure 0, .held 1, .pure 2, .pure 3, .pure 4, .pure 5, .pure 6, .held 7, .pure 8, .pure 9, .pure 10, .pure 11, .held 12, .pure 13, .pure 14, .pure 15, .held 16, .pure 17, .pure 18, .pure 19, .pure 20, .held 21, .pure 22, .pure 23, .pure 24, .held 25, .pure 26, .pure 27, .pure 28, .pure 29, .pure 30, .pure 31, .pure 32] rfl (by kernel_rfl) rfl (by kernel_rfl) rfl (by repeat (first | exact subB.nil _ | refine subB.cons rfl ?_)) rfl ?_)
      | ((with_reducible refine atHoLoad ?_); first | (refine Nx.hoLoad1 rfl rfl rfl rfl List.mem_cons_self (SeesAt.sub (by assumption) _ rfl) rfl ?_) | (refine Nx.hoLoad1 rfl rfl rfl rfl List.mem_cons_self (by assumption) rfl ?_) | (refine Nx.hoLoad rfl rfl rfl rfl List.mem_cons_self (by assumption) rfl rfl ?_) | (refine Nx.hoLoad1 rfl rfl rfl rfl (List.mem_cons_of_mem _ List.mem_cons_self) (SeesAt.sub (by assumption) _ rfl) rfl ?_) | (refine Nx.hoLoad1 rfl rfl rfl rfl (List.mem_cons_of_mem _ List.mem_cons_self) (by assumption) rfl ?_) | (refine Nx.hoLoad rfl rfl rfl rfl (List.mem_cons_of_mem _ List.mem_cons_self) (by assumption) rfl rfl ?_) | (refine Nx.hoLoad1 rfl rfl rfl rfl (List.mem_cons_of_mem _ (List.mem_cons_of_mem _ List.mem_cons_self)) (SeesAt.sub (by assumption) _ rfl) rfl ?_) | (refine Nx.hoLoad1 rfl rfl rfl rfl (List.mem_cons_of_mem _ (List.mem_cons_of_mem _ List.mem_cons_self)) (by assumption) rfl ?_) | (refine Nx.hoLoad rfl rfl rfl rfl (List.mem_cons_of_mem _ (List.mem_cons_of_mem _ List.mem_cons_self)) (by assumption) rfl rfl ?_) | (refine Nx.hoLoad1 rfl rfl rfl rfl (List.mem_cons_of_mem _ (List.mem_cons_of_mem _ (List.mem_cons_of_mem _ List.mem_cons_self))) (SeesAt.sub (by assumption) _ rfl) rfl ?_) | (refine Nx.hoLoad1 rfl rfl rfl rfl (List.mem_cons_of_mem _ (List.mem_cons_of_mem _ (List.mem_cons_of_mem _ List.mem_cons_self))) (by assumption) rfl ?_) | (refine Nx.hoLoad rfl rfl rfl rfl (List.mem_cons_of_mem _ (List.mem_cons_of_mem _ (List.mem_cons_of_mem _ List.mem_cons_self))) (by assumption) rfl rfl ?_))
      | ((with_reducible refine (atCall 37) ?_); refine Nx.call [] [9] rfl rfl rfl rfl rfl ((wrong_ok _ _ 1)) rfl fun v Q hQ => ?_; obtain ⟨b,rfl,rfl⟩ := hQ)
      | ((with_reducible refine atRet ?_); refine Nx.ret [0,9] Try.func43 rfl rfl ?_; (exact MdQ.yes rfl (by decide)))
      | ((with_reducible refine atOps ?_); refine go 200 ?_; conv => whnf)
      | ((with_reducible refine atPlan ?_); refine Nx.runP (n := 200) rfl (by repeat (first | exact subB.nil _ | refine subB.cons rfl ?_)) ?_; conv => whnf)
      | ((with_reducible refine atAftL ?_); refine Nx.late ?_)
      | ((fail_if_success (with_reducible refine atRet ?_)); (fail_if_success (with_reducible refine atLoop ?_)); (fail_if_success (with_reducible refine atIn ?_)); (fail_if_success (with_reducible refine atDrawn ?_)); (fail_if_success (with_reducible refine atEnd ?_)); (with_reducible refine atRun ?_); refine go 200 ?_; conv => whnf))
  rw [if_neg h3]
  unfold Nt.v
  refine FnOk.start Try.func43 rfl rfl rfl rfl fun F os tape output => ?_
  refine Nx.fact (p := x.calls.length ≤ x.cc) 0 rfl (MdH.fitW hxm) fun hfit => ?_
  refine go 200 ?_
  conv => whnf
  refine Nx.bind (l := 5) (fun b5 => ?_) rfl
  repeat' (first
    | ((with_reducible refine atBr ?_); refine BrM.yes (by omega) ?_; conv => whnf)
    | ((with_reducible refine atBr ?_); refine BrM.not (by omega) ?_; conv => whnf)
    | ((with_reducible refine atBr ?_); (first | refine BrM.t rfl ?_ | refine BrM.f rfl ?_ | refine BrM.dec (fun _ => ?_) (fun _ => ?_) | refine BrM.mk (fun _ => ?_) (fun _ => ?_)) <;> conv => whnf)
    | ((with_reducible refine atAr ?_); refine Ar.i64 (by omega) (by omega) ?_; conv => whnf)
    | ((with_reducible refine atLoad ?_); refine Nx.load1 0 rfl rfl rfl rfl (x5) rfl ?_)
    | ((with_reducible refine atLoad ?_); refine Nx.load1 0 rfl rfl rfl rfl (x2) rfl ?_)
    | ((with_reducible refine atLoad ?_); refine Nx.load1 0 rfl rfl rfl rfl (x4) rfl ?_)
    | ((with_reducible refine (atDrawnN 17) ?_); refine Nx.drawn0 [0] [.pure 0, .held 1, .pure 2, .pure 3, .pure 4, .pure 5, .pure 6, .held 7, .pure 8, .pure 9, .pure 10, .pure 11, .held 12, .pure 13, .pure 14, .pure 15, .held 16, .pure 17, .pure 18, .pure 19, .pure 20, .held 21, .pure 22, .pure 23, .pure 24, .held 25, .pure 26, .pure 27, .pure 28, .pure 29, .pure 30, .pure 31, .pure 32] rfl (by kernel_rfl) rfl (by kernel_rfl) rfl (by repeat (first | exact subB.nil _ | refine subB.cons rfl ?_)) rfl ?_)
    | ((with_reducible refine atHoLoad ?_); first | (refine Nx.hoLoad1 rfl rfl rfl rfl List.mem_cons_self (SeesAt.sub (by assumption) _ rfl) rfl ?_) | (refine Nx.hoLoad1 rfl rfl rfl rfl List.mem_cons_self (by assumption) rfl ?_) | (refine Nx.hoLoad rfl rfl rfl rfl List.mem_cons_self (by assumption) rfl rfl ?_) | (refine Nx.hoLoad1 rfl rfl rfl rfl (List.mem_cons_of_mem _ List.mem_cons_self) (SeesAt.sub (by assumption) _ rfl) rfl ?_) | (refine Nx.hoLoad1 rfl rfl rfl rfl (List.mem_cons_of_mem _ List.mem_cons_self) (by assumption) rfl ?_) | (refine Nx.hoLoad rfl rfl rfl rfl (List.mem_cons_of_mem _ List.mem_cons_self) (by assumption) rfl rfl ?_) | (refine Nx.hoLoad1 rfl rfl rfl rfl (List.mem_cons_of_mem _ (List.mem_cons_of_mem _ List.mem_cons_self)) (SeesAt.sub (by assumption) _ rfl) rfl ?_) | (refine Nx.hoLoad1 rfl rfl rfl rfl (List.mem_cons_of_mem _ (List.mem_cons_of_mem _ List.mem_cons_self)) (by assumption) rfl ?_) | (refine Nx.hoLoad rfl rfl rfl rfl (List.mem_cons_of_mem _ (List.mem_cons_of_mem _ List.mem_cons_self)) (by assumption) rfl rfl ?_) | (refine Nx.hoLoad1 rfl rfl rfl rfl (List.mem_cons_of_mem _ (List.mem_cons_of_mem _ (List.mem_cons_of_mem _ List.mem_cons_self))) (SeesAt.sub (by assumption) _ rfl) rfl ?_) | (refine Nx.hoLoad1 rfl rfl rfl rfl (List.mem_cons_of_mem _ (List.mem_cons_of_mem _ (List.mem_cons_of_mem _ List.mem_cons_self))) (by assumption) rfl ?_) | (refine Nx.hoLoad rfl rfl rfl rfl (List.mem_cons_of_mem _ (List.mem_cons_of_mem _ (List.mem_cons_of_mem _ List.mem_cons_self))) (by assumption) rfl rfl ?_))
    | ((with_reducible refine atIdx ?_); refine Nx.idx 0 (j := 0) rfl rfl rfl Try.underlying102 rfl rfl rfl CallH.enc_len hCalls hcl rfl (by simp) fun b p hq => ?_; have hq2 : SeesAt M.sp b p c.enc := hq)
    | ((with_reducible refine atLoad ?_); first | (refine Nx.load1 0 rfl rfl rfl rfl (SeesAt.sub (by assumption) _ rfl) rfl ?_) | (refine Nx.load1 0 rfl rfl rfl rfl (by assumption) rfl ?_) | (refine Nx.load 0 rfl rfl rfl rfl (by assumption) rfl rfl ?_))
    | ((with_reducible refine atSlice ?_); refine Nx.reslice (l := 1) (h := x.calls.length) (m := x.cc) rfl rfl Try.underlying102 rfl rfl rfl rfl rfl (by simp) (by omega) (by omega) (by omega) ?_)
    | ((with_reducible refine atOps ?_); refine go 200 ?_; conv => whnf)
    | ((with_reducible refine atPlan ?_); refine Nx.runP (n := 200) rfl (by repeat (first | exact subB.nil _ | refine subB.cons rfl ?_)) ?_; conv => whnf)
    | ((with_reducible refine atAftL ?_); refine Nx.late ?_)
    | ((fail_if_success (with_reducible refine atRet ?_)); (fail_if_success (with_reducible refine atLoop ?_)); (fail_if_success (with_reducible refine atIn ?_)); (fail_if_success (with_reducible refine atDrawn ?_)); (fail_if_success (with_reducible refine atEnd ?_)); (with_reducible refine atRun ?_); refine go 200 ?_; conv => whnf))
  all_goals
    refine Nx.turn [0] [10, 0] [x.sp, M.holeW k] rfl (MdH.outW hx) ?_
    refine Nx.turn [10] [11, 12, 13] [blk x.b (.cells x.cells.toArray 104 (0, 0)), ownT 36 x.cA x.calls.length x.cc 1 (x.calls.flatMap CallH.enc), star (x.calls.map CallH.sp)] rfl sat_unstar ?_
    repeat' (first
      | ((with_reducible refine atBr ?_); (first | refine BrM.t rfl ?_ | refine BrM.f rfl ?_ | refine BrM.dec (fun _ => ?_) (fun _ => ?_) | refine BrM.mk (fun _ => ?_) (fun _ => ?_)) <;> conv => whnf)
      | ((with_reducible refine atAr ?_); refine Ar.i64 (by omega) (by omega) ?_; conv => whnf)
      | ((with_reducible refine atStore ?_); refine Nx.storeW 11 _ rfl rfl rfl rfl rfl rfl rfl rfl rfl (blk_set (by first | (show 2 < 6; decide) | (show 3 < 6; decide) | (show 4 < 6; decide))) ?_)
      | ((with_reducible refine atOps ?_); refine go 200 ?_; conv => whnf)
      | ((with_reducible refine atPlan ?_); refine Nx.runP (n := 200) rfl (by repeat (first | exact subB.nil _ | refine subB.cons rfl ?_)) ?_; conv => whnf)
      | ((with_reducible refine atAftL ?_); refine Nx.late ?_)
      | ((fail_if_success (with_reducible refine atRet ?_)); (fail_if_success (with_reducible refine atLoop ?_)); (fail_if_success (with_reducible refine atIn ?_)); (fail_if_success (with_reducible refine atDrawn ?_)); (fail_if_success (with_reducible refine atEnd ?_)); (with_reducible refine atRun ?_); refine go 200 ?_; conv => whnf))
    obtain ⟨y, hy⟩ : ∃ y : WrH, y = { x with calls := r, cA := resl x.cA 1 x.cc 1, cc := x.cc - 1, first := -1, shown := 0 } := ⟨_, rfl⟩
    have hrl : x.calls.length - 1 = r.length := by rw [hc]; simp
    refine Nx.turn [11, 12, 13] [10] [y.sp] rfl (fun r1 h hs => by
      obtain ⟨r2, h1, h2, a1, a2, a3, a4, a5, r3, h3, h4, b1, b2, b3, b4, b5, r5, h5, h6, c1, c2, c3, c4, c5, c6⟩ := hs
      have hT := ownT_cut 1 x.calls.length (by omega) (Nat.le_refl _) b5
      have e1 : ((x.calls.flatMap CallH.enc).drop (1 * 1)).take ((x.calls.length - 1) * 1) = r.flatMap CallH.enc := by
        rw [hrl, hc]
        show ((r.flatMap CallH.enc)).take (r.length * 1) = _
        refine List.take_of_length_le ?_
        rw [flat_len CallH.enc_len]; omega
      rw [e1, hrl] at hT
      have hS : star (r.map CallH.sp) r5 h5 := by
        have : Sat (x.calls.map CallH.sp) r5 h5 := c5
        rw [hc] at this
        exact Sat.tail (P := c.sp) this
      have hcells : y.cells = ((x.cells.set 2 (.slice (resl x.cA 1 x.cc 1) (x.calls.length - 1) (x.cc - 1))).set 3 (.int .i64 (-1))).set 4 (.int .i64 0) := by
        rw [hy, hrl]; rfl
      refine sat_restar ?_
      have h3' : Sat [blk y.b (.cells y.cells.toArray 104 (0, 0)), ownT 36 y.cA y.calls.length y.cc 1 (y.calls.flatMap CallH.enc), star (y.calls.map CallH.sp)] r1 h := by
        refine ⟨r2, h1, h2, a1, a2, a3, a4, ?_, r3, h3, h4, b1, b2, b3, b4, ?_, r5, h5, h6, c1, c2, c3, c4, ?_, c6⟩
        · rw [hcells, hy]; exact a5
        · rw [hy]; exact hT
        · rw [hy]; exact hS
      exact h3') ?_
    have eb : y.b = x.b := by rw [hy]
    refine Nx.turn [10, 0] [0] [(M.setW k y).sp] rfl (MdH.inW hx eb) ?_
    have ep : (M.setW k y).p = M.p.setW k fun w => { w with calls := w.calls.drop 1, first := -1, shown := 0 } := MdH.setW_p hx (by
      rw [hy]
      unfold WrH.p
      rw [hc]; rfl)
    repeat' (first
      | ((with_reducible refine atBr ?_); (first | refine BrM.t rfl ?_ | refine BrM.f rfl ?_ | refine BrM.dec (fun _ => ?_) (fun _ => ?_) | refine BrM.mk (fun _ => ?_) (fun _ => ?_)) <;> conv => whnf)
      | ((with_reducible refine atAr ?_); refine Ar.i64 (by omega) (by omega) ?_; conv => whnf)
      | ((with_reducible refine atRet ?_); refine Nx.ret [0] Try.func43 rfl rfl ?_; (exact MdQ.no (M := M.setW k y) rfl ep))
      | ((with_reducible refine atOps ?_); refine go 200 ?_; conv => whnf)
      | ((with_reducible refine atPlan ?_); refine Nx.runP (n := 200) rfl (by repeat (first | exact subB.nil _ | refine subB.cons rfl ?_)) ?_; conv => whnf)
      | ((with_reducible refine atAftL ?_); refine Nx.late ?_)
      | ((fail_if_success (with_reducible refine atRet ?_)); (fail_if_success (with_reducible refine atLoop ?_)); (fail_if_success (with_reducible refine atIn ?_)); (fail_if_success (with_reducible refine atDrawn ?_)); (fail_if_success (with_reducible refine atEnd ?_)); (with_reducible refine atRun ?_); refine go 200 ?_; conv => whnf))
end Go.Proofs.Ytngfadijcpnblaa

/- The program's model: Take. -/
namespace Go.Proofs.Ytngfadijcpnblaa
open Go.RowKit
set_option maxRecDepth 20000
set_option maxHeartbeats 4000000
attribute [local irreducible] Nx Ar BrM
theorem Take_ok (M : MdH) (hm : MdW M.p) (n : Nt) : FnOk Try.prog 25 [ptr M.b, n.v] [M.sp] (MdQ M.b (M.p.take n)) := by
  have m0 := M.seeM.sub 0 rfl
  have hnl := hm.ln
  have el : M.p.logs.length = M.logs.length := by simp [MdH.p]
  have hof := of_ok M hm n.who
  by_cases h1 : n.ring < 0 ∨ (M.logs.length : Int) ≤ n.ring
  · have hE : M.p.take n = (M.p, 3) := by unfold MdP.take; rw [if_pos (by rw [el]; exact h1)]
    rw [hE]
    unfold Nt.v
    refine FnOk.start Try.func25 rfl rfl rfl rfl fun F os tape output => ?_
    refine go 200 ?_
    conv => whnf
    repeat' (first
      | ((with_reducible refine atBr ?_); (first | refine BrM.t rfl ?_ | refine BrM.f rfl ?_ | refine BrM.dec (fun _ => ?_) (fun _ => ?_) | refine BrM.mk (fun _ => ?_) (fun _ => ?_)) <;> conv => whnf)
      | ((with_reducible refine atAr ?_); refine Ar.i64 (by omega) (by omega) ?_; conv => whnf)
      | (fail)
      | ((with_reducible refine atOps ?_); refine go 200 ?_; conv => whnf)
      | ((with_reducible refine atPlan ?_); refine Nx.runP (n := 200) rfl (by repeat (first | exact subB.nil _ | refine subB.cons rfl ?_)) ?_; conv => whnf)
      | ((with_reducible refine atAftL ?_); refine Nx.late ?_)
      | ((fail_if_success (with_reducible refine atRet ?_)); (fail_if_success (with_reducible refine atLoop ?_)); (fail_if_success (with_reducible refine atIn ?_)); (fail_if_success (with_reducible refine atDrawn ?_)); (fail_if_success (with_reducible refine atEnd ?_)); (with_reducible refine atRun ?_); refine go 200 ?_; conv => whnf))
    refine Nx.bind (l := 3) (fun b3 => ?_) rfl
    repeat' (first
      | ((with_reducible refine atBr ?_); refine BrM.yes (by omega) ?_; conv => whnf)
      | ((with_reducible refine atBr ?_); refine BrM.not (by omega) ?_; conv => whnf)
      | ((with_reducible refine atBr ?_); (first | refine BrM.t rfl ?_ | refine BrM.f rfl ?_ | refine BrM.dec (fun _ => ?_) (fun _ => ?_) | refine BrM.mk (fun _ => ?_) (fun _ => ?_)) <;> conv => whnf)
      | ((with_reducible refine atAr ?_); refine Ar.i64 (by omega) (by omega) ?_; conv => whnf)
      | ((with_reducible refine (atDrawnN 3) ?_); refine Nx.drawn0 [0] [.pure 0, .held 1, .pure 2, .pure 3, .pure 4, .held 5, .pure 6, .pure 7, .pure 8, .held 9, .pure 10, .pure 11, .pure 12] rfl (by kernel_rfl) rfl (by kernel_rfl) rfl (by repeat (first | exact subB.nil _ | refine subB.cons rfl ?_)) rfl ?_)
      | ((with_reducible refine atHoLoad ?_); first | (refine Nx.hoLoad1 rfl rfl rfl rfl List.mem_cons_self (SeesAt.sub (by assumption) _ rfl) rfl ?_) | (refine Nx.hoLoad1 rfl rfl rfl rfl List.mem_cons_self (by assumption) rfl ?_) | (refine Nx.hoLoad rfl rfl rfl rfl List.mem_cons_self (by assumption) rfl rfl ?_) | (refine Nx.hoLoad1 rfl rfl rfl rfl (List.mem_cons_of_mem _ List.mem_cons_self) (SeesAt.sub (by assumption) _ rfl) rfl ?_) | (refine Nx.hoLoad1 rfl rfl rfl rfl (List.mem_cons_of_mem _ List.mem_cons_self) (by assumption) rfl ?_) | (refine Nx.hoLoad rfl rfl rfl rfl (List.mem_cons_of_mem _ List.mem_cons_self) (by assumption) rfl rfl ?_) | (refine Nx.hoLoad1 rfl rfl rfl rfl (List.mem_cons_of_mem _ (List.mem_cons_of_mem _ List.mem_cons_self)) (SeesAt.sub (by assumption) _ rfl) rfl ?_) | (refine Nx.hoLoad1 rfl rfl rfl rfl (List.mem_cons_of_mem _ (List.mem_cons_of_mem _ List.mem_cons_self)) (by assumption) rfl ?_) | (refine Nx.hoLoad rfl rfl rfl rfl (List.mem_cons_of_mem _ (List.mem_cons_of_mem _ List.mem_cons_self)) (by assumption) rfl rfl ?_) | (refine Nx.hoLoad1 rfl rfl rfl rfl (List.mem_cons_of_mem _ (List.mem_cons_of_mem _ (List.mem_cons_of_mem _ List.mem_cons_self))) (SeesAt.sub (by assumption) _ rfl) rfl ?_) | (refine Nx.hoLoad1 rfl rfl rfl rfl (List.mem_cons_of_mem _ (List.mem_cons_of_mem _ (List.mem_cons_of_mem _ List.mem_cons_self))) (by assumption) rfl ?_) | (refine Nx.hoLoad rfl rfl rfl rfl (List.mem_cons_of_mem _ (List.mem_cons_of_mem _ (List.mem_cons_of_mem _ List.mem_cons_self))) (by assumption) rfl rfl ?_))
      | ((with_reducible refine (atCall 37) ?_); refine Nx.call [] [9] rfl rfl rfl rfl rfl ((wrong_ok _ _ 3)) rfl fun v Q hQ => ?_; obtain ⟨b,rfl,rfl⟩ := hQ)
      | ((with_reducible refine atRet ?_); refine Nx.ret [0,9] Try.func25 rfl rfl ?_; (exact MdQ.yes rfl (by decide)))
      | ((with_reducible refine atOps ?_); refine go 200 ?_; conv => whnf)
      | ((with_reducible refine atPlan ?_); refine Nx.runP (n := 200) rfl (by repeat (first | exact subB.nil _ | refine subB.cons rfl ?_)) ?_; conv => whnf)
      | ((with_reducible refine atAftL ?_); refine Nx.late ?_)
      | ((fail_if_success (with_reducible refine atRet ?_)); (fail_if_success (with_reducible refine atLoop ?_)); (fail_if_success (with_reducible refine atIn ?_)); (fail_if_success (with_reducible refine atDrawn ?_)); (fail_if_success (with_reducible refine atEnd ?_)); (with_reducible refine atRun ?_); refine go 200 ?_; conv => whnf))
  by_cases hW : ∃ k x, M.p.of n.who = some k ∧ M.writers[k]? = some x ∧ x.ring = n.ring
  · obtain ⟨k, x, h2, hx, hr⟩ := hW
    have ew : M.p.writers[k]? = some x.p := by simp [MdH.p, hx]
    have hE : M.p.take n = M.p.writes k x.p n := by
      unfold MdP.take
      rw [if_neg (by rw [el]; exact h1), h2]
      dsimp only
      rw [ew]
      dsimp only
      exact if_pos hr
    rw [hE]
    have hw := writes_ok M hm hx n
    have eo : M.wp (some k) = ptr x.b := by simp [MdH.wp, hx]
    rw [h2, eo] at hof
    have x1 := (MdH.wat (M := M) (List.mem_of_getElem? hx)).sub 1 rfl
    rw [hr] at x1
    unfold Nt.v at hw ⊢
    refine FnOk.start Try.func25 rfl rfl rfl rfl fun F os tape output => ?_
    refine go 200 ?_
    conv => whnf
    repeat' (first
      | ((with_reducible refine atBr ?_); (first | refine BrM.t rfl ?_ | refine BrM.f rfl ?_ | refine BrM.dec (fun _ => ?_) (fun _ => ?_) | refine BrM.mk (fun _ => ?_) (fun _ => ?_)) <;> conv => whnf)
      | ((with_reducible refine atAr ?_); refine Ar.i64 (by omega) (by omega) ?_; conv => whnf)
      | (fail)
      | ((with_reducible refine atOps ?_); refine go 200 ?_; conv => whnf)
      | ((with_reducible refine atPlan ?_); refine Nx.runP (n := 200) rfl (by repeat (first | exact subB.nil _ | refine subB.cons rfl ?_)) ?_; conv => whnf)
      | ((with_reducible refine atAftL ?_); refine Nx.late ?_)
      | ((fail_if_success (with_reducible refine atRet ?_)); (fail_if_success (with_reducible refine atLoop ?_)); (fail_if_success (with_reducible refine atIn ?_)); (fail_if_success (with_reducible refine atDrawn ?_)); (fail_if_success (with_reducible refine atEnd ?_)); (with_reducible refine atRun ?_); refine go 200 ?_; conv => whnf))
    refine Nx.bind (l := 3) (fun b3 => ?_) rfl
    repeat' (first
      | ((with_reducible refine atBr ?_); refine BrM.yes (by omega) ?_; conv => whnf)
      | ((with_reducible refine atBr ?_); refine BrM.not (by omega) ?_; conv => whnf)
      | ((with_reducible refine atBr ?_); (first | refine BrM.t rfl ?_ | refine BrM.f rfl ?_ | refine BrM.dec (fun _ => ?_) (fun _ => ?_) | refine BrM.mk (fun _ => ?_) (fun _ => ?_)) <;> conv => whnf)
      | ((with_reducible refine atAr ?_); refine Ar.i64 (by omega) (by omega) ?_; conv => whnf)
      | ((with_reducible refine (atDrawnN 3) ?_); refine Nx.drawn0 [0] [.pure 0, .held 1, .pure 2, .pure 3, .pure 4, .held 5, .pure 6, .pure 7, .pure 8, .held 9, .pure 10, .pure 11, .pure 12] rfl (by kernel_rfl) rfl (by kernel_rfl) rfl (by repeat (first | exact subB.nil _ | refine subB.cons rfl ?_)) rfl ?_)
      | ((with_reducible refine (atDrawnN 6) ?_); refine Nx.drawn0 [0] [.pure 0, .pure 1, .pure 2, .pure 3, .pure 4, .pure 5, .held 6, .pure 7, .held 8, .pure 9, .pure 10] rfl (by kernel_rfl) rfl (by kernel_rfl) rfl (by repeat (first | exact subB.nil _ | refine subB.cons rfl ?_)) rfl ?_)
      | ((with_reducible refine atHoLoad ?_); first | (refine Nx.hoLoad1 rfl rfl rfl rfl List.mem_cons_self (SeesAt.sub (by assumption) _ rfl) rfl ?_) | (refine Nx.hoLoad1 rfl rfl rfl rfl List.mem_cons_self (by assumption) rfl ?_) | (refine Nx.hoLoad rfl rfl rfl rfl List.mem_cons_self (by assumption) rfl rfl ?_) | (refine Nx.hoLoad1 rfl rfl rfl rfl (List.mem_cons_of_mem _ List.mem_cons_self) (SeesAt.sub (by assumption) _ rfl) rfl ?_) | (refine Nx.hoLoad1 rfl rfl rfl rfl (List.mem_cons_of_mem _ List.mem_cons_self) (by assumption) rfl ?_) | (refine Nx.hoLoad rfl rfl rfl rfl (List.mem_cons_of_mem _ List.mem_cons_self) (by assumption) rfl rfl ?_) | (refine Nx.hoLoad1 rfl rfl rfl rfl (List.mem_cons_of_mem _ (List.mem_cons_of_mem _ List.mem_cons_self)) (SeesAt.sub (by assumption) _ rfl) rfl ?_) | (refine Nx.hoLoad1 rfl rfl rfl rfl (List.mem_cons_of_mem _ (List.mem_cons_of_mem _ List.mem_cons_self)) (by assumption) rfl ?_) | (refine Nx.hoLoad rfl rfl rfl rfl (List.mem_cons_of_mem _ (List.mem_cons_of_mem _ List.mem_cons_self)) (by assumption) rfl rfl ?_) | (refine Nx.hoLoad1 rfl rfl rfl rfl (List.mem_cons_of_mem _ (List.mem_cons_of_mem _ (List.mem_cons_of_mem _ List.mem_cons_self))) (SeesAt.sub (by assumption) _ rfl) rfl ?_) | (refine Nx.hoLoad1 rfl rfl rfl rfl (List.mem_cons_of_mem _ (List.mem_cons_of_mem _ (List.mem_cons_of_mem _ List.mem_cons_self))) (by assumption) rfl ?_) | (refine Nx.hoLoad rfl rfl rfl rfl (List.mem_cons_of_mem _ (List.mem_cons_of_mem _ (List.mem_cons_of_mem _ List.mem_cons_self))) (by assumption) rfl rfl ?_))
      | ((with_reducible refine (atCall 41) ?_); refine Nx.call [0] [0] rfl rfl rfl rfl rfl (hof) rfl fun v Q hQ => ?_; obtain ⟨rfl, rfl⟩ := hQ)
      | ((with_reducible refine (atCall 43) ?_); refine Nx.call [0] [0,9] rfl rfl rfl rfl rfl (hw) rfl fun v Q hQ => ?_; obtain ⟨M',eb,ep,⟨h0,rfl,rfl⟩|⟨h0,b,q,rfl,rfl⟩⟩ := hQ)
      | ((with_reducible refine atRet ?_); refine Nx.ret [0,9] Try.func25 rfl rfl ?_; (exact ⟨M', eb, ep, .inr ⟨h0, b, q, rfl, rfl⟩⟩))
      | ((with_reducible refine atRet ?_); refine Nx.ret [0] Try.func25 rfl rfl ?_; (exact ⟨M', eb, ep, .inl ⟨h0, rfl, rfl⟩⟩))
      | ((with_reducible refine atOps ?_); refine go 200 ?_; conv => whnf)
      | ((with_reducible refine atPlan ?_); refine Nx.runP (n := 200) rfl (by repeat (first | exact subB.nil _ | refine subB.cons rfl ?_)) ?_; conv => whnf)
      | ((with_reducible refine atAftL ?_); refine Nx.late ?_)
      | ((fail_if_success (with_reducible refine atRet ?_)); (fail_if_success (with_reducible refine atLoop ?_)); (fail_if_success (with_reducible refine atIn ?_)); (fail_if_success (with_reducible refine atDrawn ?_)); (fail_if_success (with_reducible refine atEnd ?_)); (with_reducible refine atRun ?_); refine go 200 ?_; conv => whnf))
  have hE : M.p.take n = M.p.reads n := by
    unfold MdP.take
    rw [if_neg (by rw [el]; exact h1)]
    cases h2 : M.p.of n.who with
    | none => rfl
    | some k =>
      obtain ⟨hk, _⟩ := of_mem h2
      have ew : M.p.writers[k]? = some (M.writers[k]).p := by simp [MdH.p, List.getElem?_eq_getElem hk]
      dsimp only
      rw [ew]
      dsimp only
      rw [if_neg fun e => hW ⟨k, M.writers[k], h2, List.getElem?_eq_getElem hk, e⟩]
  rw [hE]
  have hat := at_ok M hm n.who n.ring
  have hstp := stopped_ok M hm n.who
  have hstops := stops_ok M hm n.who
  have hhan : ∀ {k : Nat} {x : RdH}, M.readers[k]? = some x → _ := fun hx => handles_ok M hm hx n
  have hmov : ∀ {k : Nat} {x : RdH}, M.readers[k]? = some x → _ := fun hx => moves_ok M hm hx n
  have hret : ∀ {k : Nat} {x : RdH}, M.readers[k]? = some x → _ := fun hx => returns_ok M hm hx n
  have hlea : ∀ {k : Nat} {x : RdH}, M.readers[k]? = some x → _ := fun hx => leaves_ok M hx n
  unfold Nt.v at hhan hmov hret hlea ⊢
  refine FnOk.start Try.func25 rfl rfl rfl rfl fun F os tape output => ?_
  refine go 200 ?_
  conv => whnf
  repeat' (first
    | ((with_reducible refine atBr ?_); (first | refine BrM.t rfl ?_ | refine BrM.f rfl ?_ | refine BrM.dec (fun _ => ?_) (fun _ => ?_) | refine BrM.mk (fun _ => ?_) (fun _ => ?_)) <;> conv => whnf)
    | ((with_reducible refine atAr ?_); refine Ar.i64 (by omega) (by omega) ?_; conv => whnf)
    | (fail)
    | ((with_reducible refine atOps ?_); refine go 200 ?_; conv => whnf)
    | ((with_reducible refine atPlan ?_); refine Nx.runP (n := 200) rfl (by repeat (first | exact subB.nil _ | refine subB.cons rfl ?_)) ?_; conv => whnf)
    | ((with_reducible refine atAftL ?_); refine Nx.late ?_)
    | ((fail_if_success (with_reducible refine atRet ?_)); (fail_if_success (with_reducible refine atLoop ?_)); (fail_if_success (with_reducible refine atIn ?_)); (fail_if_success (with_reducible refine atDrawn ?_)); (fail_if_success (with_reducible refine atEnd ?_)); (with_reducible refine atRun ?_); refine go 200 ?_; conv => whnf))
  refine Nx.bind (l := 3) (fun b3 => ?_) rfl
  refine Nx.joinR (E := [(0, .c (.v (ptr M.b))), (3, .c (.loc 3 0)), (4, .c (.v .nilIface)), (22, bv (decide ((M.logs.length : Int) ≤ n.ring)))]) (M := [(3, 42, [.v (.int .i64 n.who), .v (.int .i64 n.ring), .v (.int .i64 n.deed), .v (.int .i64 n.lo), .v (.int .i64 n.seq), .v (.int .i64 n.x.key), .v (.int .i64 n.x.val), .v (.int .i64 n.code)])]) (B := [(3, b3)]) (R := [(0, M.sp)]) (fun K => ?_) ?_
  · repeat' (first
      | ((with_reducible refine Nx.weak K ?_ ?_ ?_ ?_) <;> (first | exact subM.nil _ | exact subB.nil _ | exact subR.nil _ | ((repeat (first | exact subE.nil _ | refine subE.cons rfl rfl ?_ | refine subE.cons' rfl (fun _ => rfl) ?_ | (refine subE.cons rfl ?_ ?_; · (simp; done)))); done) | ((repeat (first | exact subM.nil _ | refine subM.cons rfl rfl rfl ?_)); done) | ((repeat (first | exact subB.nil _ | refine subB.cons rfl ?_)); done) | ((repeat (first | exact subR.nil _ | refine subR.cons rfl rfl ?_)); done) | omega | (dsimp only; omega) | skip))
      | ((with_reducible refine atBr ?_); refine BrM.not (by omega) ?_; conv => whnf)
      | ((with_reducible refine atBr ?_); (first | refine BrM.t rfl ?_ | refine BrM.f rfl ?_ | refine BrM.dec (fun _ => ?_) (fun _ => ?_) | refine BrM.mk (fun _ => ?_) (fun _ => ?_)) <;> conv => whnf)
      | ((with_reducible refine atAr ?_); refine Ar.i64 (by omega) (by omega) ?_; conv => whnf)
      | ((with_reducible refine (atDrawnN 3) ?_); refine Nx.drawn0 [0] [.pure 0, .held 1, .pure 2, .pure 3, .pure 4, .held 5, .pure 6, .pure 7, .pure 8, .held 9, .pure 10, .pure 11, .pure 12] rfl (by kernel_rfl) rfl (by kernel_rfl) rfl (by repeat (first | exact subB.nil _ | refine subB.cons rfl ?_)) rfl ?_)
      | ((with_reducible refine atHoLoad ?_); first | (refine Nx.hoLoad1 rfl rfl rfl rfl List.mem_cons_self (SeesAt.sub (by assumption) _ rfl) rfl ?_) | (refine Nx.hoLoad1 rfl rfl rfl rfl List.mem_cons_self (by assumption) rfl ?_) | (refine Nx.hoLoad rfl rfl rfl rfl List.mem_cons_self (by assumption) rfl rfl ?_) | (refine Nx.hoLoad1 rfl rfl rfl rfl (List.mem_cons_of_mem _ List.mem_cons_self) (SeesAt.sub (by assumption) _ rfl) rfl ?_) | (refine Nx.hoLoad1 rfl rfl rfl rfl (List.mem_cons_of_mem _ List.mem_cons_self) (by assumption) rfl ?_) | (refine Nx.hoLoad rfl rfl rfl rfl (List.mem_cons_of_mem _ List.mem_cons_self) (by assumption) rfl rfl ?_) | (refine Nx.hoLoad1 rfl rfl rfl rfl (List.mem_cons_of_mem _ (List.mem_cons_of_mem _ List.mem_cons_self)) (SeesAt.sub (by assumption) _ rfl) rfl ?_) | (refine Nx.hoLoad1 rfl rfl rfl rfl (List.mem_cons_of_mem _ (List.mem_cons_of_mem _ List.mem_cons_self)) (by assumption) rfl ?_) | (refine Nx.hoLoad rfl rfl rfl rfl (List.mem_cons_of_mem _ (List.mem_cons_of_mem _ List.mem_cons_self)) (by assumption) rfl rfl ?_) | (refine Nx.hoLoad1 rfl rfl rfl rfl (List.mem_cons_of_mem _ (List.mem_cons_of_mem _ (List.mem_cons_of_mem _ List.mem_cons_self))) (SeesAt.sub (by assumption) _ rfl) rfl ?_) | (refine Nx.hoLoad1 rfl rfl rfl rfl (List.mem_cons_of_mem _ (List.mem_cons_of_mem _ (List.mem_cons_of_mem _ List.mem_cons_self))) (by assumption) rfl ?_) | (refine Nx.hoLoad rfl rfl rfl rfl (List.mem_cons_of_mem _ (List.mem_cons_of_mem _ (List.mem_cons_of_mem _ List.mem_cons_self))) (by assumption) rfl rfl ?_))
      | ((with_reducible refine atOps ?_); refine goR 200 ?_; conv => whnf)
      | ((with_reducible refine atPlan ?_); refine Nx.runP (n := 200) rfl (by repeat (first | exact subB.nil _ | refine subB.cons rfl ?_)) ?_; conv => whnf)
      | ((with_reducible refine atAftL ?_); refine Nx.late ?_)
      | ((fail_if_success (with_reducible refine atRet ?_)); (fail_if_success (with_reducible refine atLoop ?_)); (fail_if_success (with_reducible refine atIn ?_)); (fail_if_success (with_reducible refine atDrawn ?_)); (fail_if_success (with_reducible refine atEnd ?_)); (with_reducible refine atRun ?_); refine goR 1 ?_; conv => whnf))
  refine go 1 ?_
  conv => whnf
  refine BrM.not (by omega) ?_
  conv => whnf
  refine go 3 ?_
  conv => whnf
  refine Nx.joinR (E := [(0, .c (.v (ptr M.b))), (3, .c (.loc 3 0))]) (M := [(3, 42, [.v (.int .i64 n.who), .v (.int .i64 n.ring), .v (.int .i64 n.deed), .v (.int .i64 n.lo), .v (.int .i64 n.seq), .v (.int .i64 n.x.key), .v (.int .i64 n.x.val), .v (.int .i64 n.code)])]) (B := [(3, b3)]) (R := [(0, M.sp)]) (fun K => ?_) ?_
  · cases h2 : M.p.of n.who with
    | none =>
      rw [h2] at hof
      repeat' (first
        | ((with_reducible refine Nx.weak K ?_ ?_ ?_ ?_) <;> (first | exact subM.nil _ | exact subB.nil _ | exact subR.nil _ | ((repeat (first | exact subE.nil _ | refine subE.cons rfl rfl ?_ | refine subE.cons' rfl (fun _ => rfl) ?_ | (refine subE.cons rfl ?_ ?_; · (simp; done)))); done) | ((repeat (first | exact subM.nil _ | refine subM.cons rfl rfl rfl ?_)); done) | ((repeat (first | exact subB.nil _ | refine subB.cons rfl ?_)); done) | ((repeat (first | exact subR.nil _ | refine subR.cons rfl rfl ?_)); done) | omega | (dsimp only; omega) | skip))
        | ((with_reducible refine atBr ?_); (first | refine BrM.t rfl ?_ | refine BrM.f rfl ?_ | refine BrM.dec (fun _ => ?_) (fun _ => ?_) | refine BrM.mk (fun _ => ?_) (fun _ => ?_)) <;> conv => whnf)
        | ((with_reducible refine atAr ?_); refine Ar.i64 (by omega) (by omega) ?_; conv => whnf)
        | ((with_reducible refine (atCall 41) ?_); refine Nx.call [0] [0] rfl rfl rfl rfl rfl (hof) rfl fun v Q hQ => ?_; obtain ⟨rfl, rfl⟩ := hQ)
        | ((with_reducible refine (atDrawnN 6) ?_); refine Nx.drawn0 [0] [.pure 0, .pure 1, .pure 2, .pure 3, .pure 4, .pure 5, .held 6, .pure 7, .held 8, .pure 9, .pure 10] rfl (by kernel_rfl) rfl (by kernel_rfl) rfl (by repeat (first | exact subB.nil _ | refine subB.cons rfl ?_)) rfl ?_)
        | ((with_reducible refine atOps ?_); refine goR 200 ?_; conv => whnf)
        | ((with_reducible refine atPlan ?_); refine Nx.runP (n := 200) rfl (by repeat (first | exact subB.nil _ | refine subB.cons rfl ?_)) ?_; conv => whnf)
        | ((with_reducible refine atAftL ?_); refine Nx.late ?_)
        | ((fail_if_success (with_reducible refine atRet ?_)); (fail_if_success (with_reducible refine atLoop ?_)); (fail_if_success (with_reducible refine atIn ?_)); (fail_if_success (with_reducible refine atDrawn ?_)); (fail_if_success (with_reducible refine atEnd ?_)); (with_reducible refine atRun ?_); refine goR 1 ?_; conv => whnf))
    | some k =>
      obtain ⟨hk, _, e⟩ := of_mem h2
      rw [h2, e] at hof
      have hne : M.writers[k].ring ≠ n.ring := fun e => hW ⟨k, M.writers[k], h2, List.getElem?_eq_getElem hk, e⟩
      have x1 := (MdH.wat (M := M) (List.getElem_mem hk)).sub 1 rfl
      repeat' (first
        | ((with_reducible refine Nx.weak K ?_ ?_ ?_ ?_) <;> (first | exact subM.nil _ | exact subB.nil _ | exact subR.nil _ | ((repeat (first | exact subE.nil _ | refine subE.cons rfl rfl ?_ | refine subE.cons' rfl (fun _ => rfl) ?_ | (refine subE.cons rfl ?_ ?_; · (simp; done)))); done) | ((repeat (first | exact subM.nil _ | refine subM.cons rfl rfl rfl ?_)); done) | ((repeat (first | exact subB.nil _ | refine subB.cons rfl ?_)); done) | ((repeat (first | exact subR.nil _ | refine subR.cons rfl rfl ?_)); done) | omega | (dsimp only; omega) | skip))
        | ((with_reducible refine atBr ?_); refine BrM.not (by omega) ?_; conv => whnf)
        | ((with_reducible refine atBr ?_); (first | refine BrM.t rfl ?_ | refine BrM.f rfl ?_ | refine BrM.dec (fun _ => ?_) (fun _ => ?_) | refine BrM.mk (fun _ => ?_) (fun _ => ?_)) <;> conv => whnf)
        | ((with_reducible refine atAr ?_); refine Ar.i64 (by omega) (by omega) ?_; conv => whnf)
        | ((with_reducible refine (atCall 41) ?_); refine Nx.call [0] [0] rfl rfl rfl rfl rfl (hof) rfl fun v Q hQ => ?_; obtain ⟨rfl, rfl⟩ := hQ)
        | ((with_reducible refine (atDrawnN 6) ?_); refine Nx.drawn0 [0] [.pure 0, .pure 1, .pure 2, .pure 3, .pure 4, .pure 5, .held 6, .pure 7, .held 8, .pure 9, .pure 10] rfl (by kernel_rfl) rfl (by kernel_rfl) rfl (by repeat (first | exact subB.nil _ | refine subB.cons rfl ?_)) rfl ?_)
        | ((with_reducible refine atHoLoad ?_); first | (refine Nx.hoLoad1 rfl rfl rfl rfl List.mem_cons_self (SeesAt.sub (by assumption) _ rfl) rfl ?_) | (refine Nx.hoLoad1 rfl rfl rfl rfl List.mem_cons_self (by assumption) rfl ?_) | (refine Nx.hoLoad rfl rfl rfl rfl List.mem_cons_self (by assumption) rfl rfl ?_) | (refine Nx.hoLoad1 rfl rfl rfl rfl (List.mem_cons_of_mem _ List.mem_cons_self) (SeesAt.sub (by assumption) _ rfl) rfl ?_) | (refine Nx.hoLoad1 rfl rfl rfl rfl (List.mem_cons_of_mem _ List.mem_cons_self) (by assumption) rfl ?_) | (refine Nx.hoLoad rfl rfl rfl rfl (List.mem_cons_of_mem _ List.mem_cons_self) (by assumption) rfl rfl ?_) | (refine Nx.hoLoad1 rfl rfl rfl rfl (List.mem_cons_of_mem _ (List.mem_cons_of_mem _ List.mem_cons_self)) (SeesAt.sub (by assumption) _ rfl) rfl ?_) | (refine Nx.hoLoad1 rfl rfl rfl rfl (List.mem_cons_of_mem _ (List.mem_cons_of_mem _ List.mem_cons_self)) (by assumption) rfl ?_) | (refine Nx.hoLoad rfl rfl rfl rfl (List.mem_cons_of_mem _ (List.mem_cons_of_mem _ List.mem_cons_self)) (by assumption) rfl rfl ?_) | (refine Nx.hoLoad1 rfl rfl rfl rfl (List.mem_cons_of_mem _ (List.mem_cons_of_mem _ (List.mem_cons_of_mem _ List.mem_cons_self))) (SeesAt.sub (by assumption) _ rfl) rfl ?_) | (refine Nx.hoLoad1 rfl rfl rfl rfl (List.mem_cons_of_mem _ (List.mem_cons_of_mem _ (List.mem_cons_of_mem _ List.mem_cons_self))) (by assumption) rfl ?_) | (refine Nx.hoLoad rfl rfl rfl rfl (List.mem_cons_of_mem _ (List.mem_cons_of_mem _ (List.mem_cons_of_mem _ List.mem_cons_self))) (by assumption) rfl rfl ?_))
        | ((with_reducible refine atOps ?_); refine goR 200 ?_; conv => whnf)
        | ((with_reducible refine atPlan ?_); refine Nx.runP (n := 200) rfl (by repeat (first | exact subB.nil _ | refine subB.cons rfl ?_)) ?_; conv => whnf)
        | ((with_reducible refine atAftL ?_); refine Nx.late ?_)
        | ((fail_if_success (with_reducible refine atRet ?_)); (fail_if_success (with_reducible refine atLoop ?_)); (fail_if_success (with_reducible refine atIn ?_)); (fail_if_success (with_reducible refine atDrawn ?_)); (fail_if_success (with_reducible refine atEnd ?_)); (with_reducible refine atRun ?_); refine goR 1 ?_; conv => whnf))
  cases h3 : M.p.at n.who n.ring with
  | none =>
    have hR : M.p.reads n = (M.p, 3) := by unfold MdP.reads; rw [h3]
    rw [hR]
    rw [h3] at hat
    refine go 200 ?_
    conv => whnf
    repeat' (first
      | ((with_reducible refine atBr ?_); (first | refine BrM.t rfl ?_ | refine BrM.f rfl ?_ | refine BrM.dec (fun _ => ?_) (fun _ => ?_) | refine BrM.mk (fun _ => ?_) (fun _ => ?_)) <;> conv => whnf)
      | ((with_reducible refine atAr ?_); refine Ar.i64 (by omega) (by omega) ?_; conv => whnf)
      | ((with_reducible refine (atCall 36) ?_); refine Nx.call [0] [0] rfl rfl rfl rfl rfl (hat) rfl fun v Q hQ => ?_; obtain ⟨rfl, rfl⟩ := hQ)
      | ((with_reducible refine (atCall 37) ?_); refine Nx.call [] [9] rfl rfl rfl rfl rfl ((wrong_ok _ _ 3)) rfl fun v Q hQ => ?_; obtain ⟨b,rfl,rfl⟩ := hQ)
      | ((with_reducible refine atRet ?_); refine Nx.ret [0,9] Try.func25 rfl rfl ?_; (exact MdQ.yes rfl (by decide)))
      | ((with_reducible refine atOps ?_); refine go 200 ?_; conv => whnf)
      | ((with_reducible refine atPlan ?_); refine Nx.runP (n := 200) rfl (by repeat (first | exact subB.nil _ | refine subB.cons rfl ?_)) ?_; conv => whnf)
      | ((with_reducible refine atAftL ?_); refine Nx.late ?_)
      | ((fail_if_success (with_reducible refine atRet ?_)); (fail_if_success (with_reducible refine atLoop ?_)); (fail_if_success (with_reducible refine atIn ?_)); (fail_if_success (with_reducible refine atDrawn ?_)); (fail_if_success (with_reducible refine atEnd ?_)); (with_reducible refine atRun ?_); refine go 200 ?_; conv => whnf))
  | some k =>
  obtain ⟨hk, _, _, e⟩ := at_mem h3
  obtain ⟨x, hxe⟩ : ∃ x, x = M.readers[k] := ⟨_, rfl⟩
  have hx : M.readers[k]? = some x := by rw [hxe]; exact List.getElem?_eq_getElem hk
  rw [h3, e, ← hxe] at hat
  have er : M.p.readers[k]? = some x.r := by simp [MdH.p, hx]
  have x3 := (MdH.rat (M := M) (List.mem_of_getElem? hx)).sub 3 rfl
  by_cases hA : M.p.stopped n.who = true ∧ n.deed ≠ 6
  · have hR : M.p.reads n = (M.p, 17) := by
      unfold MdP.reads
      rw [h3]; dsimp only
      rw [er]; dsimp only
      exact if_pos hA
    rw [hR]
    rw [hA.1] at hstp
    have hA2 := hA.2
    refine go 200 ?_
    conv => whnf
    repeat' (first
      | ((with_reducible refine atBr ?_); refine BrM.yes (by omega) ?_; conv => whnf)
      | ((with_reducible refine atBr ?_); refine BrM.not (by omega) ?_; conv => whnf)
      | ((with_reducible refine atBr ?_); (first | refine BrM.t rfl ?_ | refine BrM.f rfl ?_ | refine BrM.dec (fun _ => ?_) (fun _ => ?_) | refine BrM.mk (fun _ => ?_) (fun _ => ?_)) <;> conv => whnf)
      | ((with_reducible refine atAr ?_); refine Ar.i64 (by omega) (by omega) ?_; conv => whnf)
      | ((with_reducible refine (atCall 36) ?_); refine Nx.call [0] [0] rfl rfl rfl rfl rfl (hat) rfl fun v Q hQ => ?_; obtain ⟨rfl, rfl⟩ := hQ)
      | ((with_reducible refine (atCall 44) ?_); refine Nx.call [0] [0] rfl rfl rfl rfl rfl (hstp) rfl fun v Q hQ => ?_; obtain ⟨rfl, rfl⟩ := hQ)
      | ((with_reducible refine (atCall 37) ?_); refine Nx.call [] [9] rfl rfl rfl rfl rfl ((wrong_ok _ _ 17)) rfl fun v Q hQ => ?_; obtain ⟨b,rfl,rfl⟩ := hQ)
      | ((with_reducible refine atRet ?_); refine Nx.ret [0,9] Try.func25 rfl rfl ?_; (exact MdQ.yes rfl (by decide)))
      | ((with_reducible refine atOps ?_); refine go 200 ?_; conv => whnf)
      | ((with_reducible refine atPlan ?_); refine Nx.runP (n := 200) rfl (by repeat (first | exact subB.nil _ | refine subB.cons rfl ?_)) ?_; conv => whnf)
      | ((with_reducible refine atAftL ?_); refine Nx.late ?_)
      | ((fail_if_success (with_reducible refine atRet ?_)); (fail_if_success (with_reducible refine atLoop ?_)); (fail_if_success (with_reducible refine atIn ?_)); (fail_if_success (with_reducible refine atDrawn ?_)); (fail_if_success (with_reducible refine atEnd ?_)); (with_reducible refine atRun ?_); refine go 200 ?_; conv => whnf))
  have hS : M.p.stopped n.who = false ∨ n.deed = 6 := by
    cases hs : M.p.stopped n.who with
    | false => exact .inl rfl
    | true => exact .inr (Decidable.byContradiction fun e => hA ⟨hs, e⟩)
  have hR0 : M.p.reads n = if n.deed = 2 then M.p.handles k x.r n else if n.deed = 3 then M.p.moves k x.r n else if n.deed = 4 then M.p.returns k x.r n else if n.deed = 6 then M.p.leaves k x.r n
      else if n.deed = 7 then (M.p.stops n.who, 0) else if n.deed = 5 then (if n.seq ≤ x.r.cursor then (M.p, 1) else (M.p, 0)) else (M.p, 1) := by
    unfold MdP.reads
    rw [h3]; dsimp only
    rw [er]; dsimp only
    exact if_neg hA
  refine go 1 ?_
  conv => whnf
  refine Nx.joinR (E := [(0, .c (.v (ptr M.b))), (3, .c (.loc 3 0)), (6, .c (.v (ptr x.b)))]) (M := [(3, 42, [.v (.int .i64 n.who), .v (.int .i64 n.ring), .v (.int .i64 n.deed), .v (.int .i64 n.lo), .v (.int .i64 n.seq), .v (.int .i64 n.x.key), .v (.int .i64 n.x.val), .v (.int .i64 n.code)])]) (B := [(3, b3)]) (R := [(0, M.sp)]) (fun K => ?_) ?_
  · repeat' (first
      | ((with_reducible refine Nx.weak K ?_ ?_ ?_ ?_) <;> (first | exact subM.nil _ | exact subB.nil _ | exact subR.nil _ | ((repeat (first | exact subE.nil _ | refine subE.cons rfl rfl ?_ | refine subE.cons' rfl (fun _ => rfl) ?_ | (refine subE.cons rfl ?_ ?_; · (simp; done)))); done) | ((repeat (first | exact subM.nil _ | refine subM.cons rfl rfl rfl ?_)); done) | ((repeat (first | exact subB.nil _ | refine subB.cons rfl ?_)); done) | ((repeat (first | exact subR.nil _ | refine subR.cons rfl rfl ?_)); done) | omega | (dsimp only; omega) | skip))
      | ((with_reducible refine atBr ?_); (first | refine BrM.t rfl ?_ | refine BrM.f rfl ?_ | refine BrM.dec (fun _ => ?_) (fun _ => ?_) | refine BrM.mk (fun _ => ?_) (fun _ => ?_)) <;> conv => whnf)
      | ((with_reducible refine atAr ?_); refine Ar.i64 (by omega) (by omega) ?_; conv => whnf)
      | ((with_reducible refine (atCall 36) ?_); refine Nx.call [0] [0] rfl rfl rfl rfl rfl (hat) rfl fun v Q hQ => ?_; obtain ⟨rfl, rfl⟩ := hQ)
      | ((with_reducible refine atOps ?_); refine goR 200 ?_; conv => whnf)
      | ((with_reducible refine atPlan ?_); refine Nx.runP (n := 200) rfl (by repeat (first | exact subB.nil _ | refine subB.cons rfl ?_)) ?_; conv => whnf)
      | ((with_reducible refine atAftL ?_); refine Nx.late ?_)
      | ((fail_if_success (with_reducible refine atRet ?_)); (fail_if_success (with_reducible refine atLoop ?_)); (fail_if_success (with_reducible refine atIn ?_)); (fail_if_success (with_reducible refine atDrawn ?_)); (fail_if_success (with_reducible refine atEnd ?_)); (with_reducible refine atRun ?_); refine goR 1 ?_; conv => whnf))
  refine go 1 ?_
  conv => whnf
  refine Nx.joinR (E := [(0, .c (.v (ptr M.b))), (3, .c (.loc 3 0)), (6, .c (.v (ptr x.b)))]) (M := [(3, 42, [.v (.int .i64 n.who), .v (.int .i64 n.ring), .v (.int .i64 n.deed), .v (.int .i64 n.lo), .v (.int .i64 n.seq), .v (.int .i64 n.x.key), .v (.int .i64 n.x.val), .v (.int .i64 n.code)])]) (B := [(3, b3)]) (R := [(0, M.sp)]) (fun K => ?_) ?_
  · rcases hS with hs | hs
    · rw [hs] at hstp
      repeat' (first
        | ((with_reducible refine Nx.weak K ?_ ?_ ?_ ?_) <;> (first | exact subM.nil _ | exact subB.nil _ | exact subR.nil _ | ((repeat (first | exact subE.nil _ | refine subE.cons rfl rfl ?_ | refine subE.cons' rfl (fun _ => rfl) ?_ | (refine subE.cons rfl ?_ ?_; · (simp; done)))); done) | ((repeat (first | exact subM.nil _ | refine subM.cons rfl rfl rfl ?_)); done) | ((repeat (first | exact subB.nil _ | refine subB.cons rfl ?_)); done) | ((repeat (first | exact subR.nil _ | refine subR.cons rfl rfl ?_)); done) | omega | (dsimp only; omega) | skip))
        | ((with_reducible refine atBr ?_); refine BrM.yes (by omega) ?_; conv => whnf)
        | ((with_reducible refine atBr ?_); refine BrM.not (by omega) ?_; conv => whnf)
        | ((with_reducible refine atBr ?_); (first | refine BrM.t rfl ?_ | refine BrM.f rfl ?_ | refine BrM.dec (fun _ => ?_) (fun _ => ?_) | refine BrM.mk (fun _ => ?_) (fun _ => ?_)) <;> conv => whnf)
        | ((with_reducible refine atAr ?_); refine Ar.i64 (by omega) (by omega) ?_; conv => whnf)
        | ((with_reducible refine (atCall 44) ?_); refine Nx.call [0] [0] rfl rfl rfl rfl rfl (hstp) rfl fun v Q hQ => ?_; obtain ⟨rfl, rfl⟩ := hQ)
        | ((with_reducible refine atOps ?_); refine goR 200 ?_; conv => whnf)
        | ((with_reducible refine atPlan ?_); refine Nx.runP (n := 200) rfl (by repeat (first | exact subB.nil _ | refine subB.cons rfl ?_)) ?_; conv => whnf)
        | ((with_reducible refine atAftL ?_); refine Nx.late ?_)
        | ((fail_if_success (with_reducible refine atRet ?_)); (fail_if_success (with_reducible refine atLoop ?_)); (fail_if_success (with_reducible refine atIn ?_)); (fail_if_success (with_reducible refine atDrawn ?_)); (fail_if_success (with_reducible refine atEnd ?_)); (with_reducible refine atRun ?_); refine goR 1 ?_; conv => whnf))
    · cases hst : M.p.stopped n.who with
      | true =>
        rw [hst] at hstp
        repeat' (first
          | ((with_reducible refine Nx.weak K ?_ ?_ ?_ ?_) <;> (first | exact subM.nil _ | exact subB.nil _ | exact subR.nil _ | ((repeat (first | exact subE.nil _ | refine subE.cons rfl rfl ?_ | refine subE.cons' rfl (fun _ => rfl) ?_ | (refine subE.cons rfl ?_ ?_; · (simp; done)))); done) | ((repeat (first | exact subM.nil _ | refine subM.cons rfl rfl rfl ?_)); done) | ((repeat (first | exact subB.nil _ | refine subB.cons rfl ?_)); done) | ((repeat (first | exact subR.nil _ | refine subR.cons rfl rfl ?_)); done) | omega | (dsimp only; omega) | skip))
          | ((with_reducible refine atBr ?_); refine BrM.yes (by omega) ?_; conv => whnf)
          | ((with_reducible refine atBr ?_); refine BrM.not (by omega) ?_; conv => whnf)
          | ((with_reducible refine atBr ?_); (first | refine BrM.t rfl ?_ | refine BrM.f rfl ?_ | refine BrM.dec (fun _ => ?_) (fun _ => ?_) | refine BrM.mk (fun _ => ?_) (fun _ => ?_)) <;> conv => whnf)
          | ((with_reducible refine atAr ?_); refine Ar.i64 (by omega) (by omega) ?_; conv => whnf)
          | ((with_reducible refine (atCall 44) ?_); refine Nx.call [0] [0] rfl rfl rfl rfl rfl (hstp) rfl fun v Q hQ => ?_; obtain ⟨rfl, rfl⟩ := hQ)
          | ((with_reducible refine atOps ?_); refine goR 200 ?_; conv => whnf)
          | ((with_reducible refine atPlan ?_); refine Nx.runP (n := 200) rfl (by repeat (first | exact subB.nil _ | refine subB.cons rfl ?_)) ?_; conv => whnf)
          | ((with_reducible refine atAftL ?_); refine Nx.late ?_)
          | ((fail_if_success (with_reducible refine atRet ?_)); (fail_if_success (with_reducible refine atLoop ?_)); (fail_if_success (with_reducible refine atIn ?_)); (fail_if_success (with_reducible refine atDrawn ?_)); (fail_if_success (with_reducible refine atEnd ?_)); (with_reducible refine atRun ?_); refine goR 1 ?_; conv => whnf))
      | false =>
        rw [hst] at hstp
        repeat' (first
          | ((with_reducible refine Nx.weak K ?_ ?_ ?_ ?_) <;> (first | exact subM.nil _ | exact subB.nil _ | exact subR.nil _ | ((repeat (first | exact subE.nil _ | refine subE.cons rfl rfl ?_ | refine subE.cons' rfl (fun _ => rfl) ?_ | (refine subE.cons rfl ?_ ?_; · (simp; done)))); done) | ((repeat (first | exact subM.nil _ | refine subM.cons rfl rfl rfl ?_)); done) | ((repeat (first | exact subB.nil _ | refine subB.cons rfl ?_)); done) | ((repeat (first | exact subR.nil _ | refine subR.cons rfl rfl ?_)); done) | omega | (dsimp only; omega) | skip))
          | ((with_reducible refine atBr ?_); refine BrM.yes (by omega) ?_; conv => whnf)
          | ((with_reducible refine atBr ?_); refine BrM.not (by omega) ?_; conv => whnf)
          | ((with_reducible refine atBr ?_); (first | refine BrM.t rfl ?_ | refine BrM.f rfl ?_ | refine BrM.dec (fun _ => ?_) (fun _ => ?_) | refine BrM.mk (fun _ => ?_) (fun _ => ?_)) <;> conv => whnf)
          | ((with_reducible refine atAr ?_); refine Ar.i64 (by omega) (by omega) ?_; conv => whnf)
          | ((with_reducible refine (atCall 44) ?_); refine Nx.call [0] [0] rfl rfl rfl rfl rfl (hstp) rfl fun v Q hQ => ?_; obtain ⟨rfl, rfl⟩ := hQ)
          | ((with_reducible refine atOps ?_); refine goR 200 ?_; conv => whnf)
          | ((with_reducible refine atPlan ?_); refine Nx.runP (n := 200) rfl (by repeat (first | exact subB.nil _ | refine subB.cons rfl ?_)) ?_; conv => whnf)
          | ((with_reducible refine atAftL ?_); refine Nx.late ?_)
          | ((fail_if_success (with_reducible refine atRet ?_)); (fail_if_success (with_reducible refine atLoop ?_)); (fail_if_success (with_reducible refine atIn ?_)); (fail_if_success (with_reducible refine atDrawn ?_)); (fail_if_success (with_reducible refine atEnd ?_)); (with_reducible refine atRun ?_); refine goR 1 ?_; conv => whnf))
  have hhan := hhan hx
  have hmov := hmov hx
  have hret := hret hx
  have hlea := hlea hx
  by_cases d2 : n.deed = 2
  · have hR : M.p.reads n = M.p.handles k x.r n := by rw [hR0, if_pos d2]
    rw [hR]
    refine go 200 ?_
    conv => whnf
    repeat' (first
      | ((with_reducible refine atBr ?_); refine BrM.yes (by omega) ?_; conv => whnf)
      | ((with_reducible refine atBr ?_); refine BrM.not (by omega) ?_; conv => whnf)
      | ((with_reducible refine atBr ?_); (first | refine BrM.t rfl ?_ | refine BrM.f rfl ?_ | refine BrM.dec (fun _ => ?_) (fun _ => ?_) | refine BrM.mk (fun _ => ?_) (fun _ => ?_)) <;> conv => whnf)
      | ((with_reducible refine atAr ?_); refine Ar.i64 (by omega) (by omega) ?_; conv => whnf)
      | ((with_reducible refine (atCall 45) ?_); refine Nx.call [0] [0,9] rfl rfl rfl rfl rfl (hhan) rfl fun v Q hQ => ?_; obtain ⟨M',eb,ep,⟨h0,rfl,rfl⟩|⟨h0,b,q,rfl,rfl⟩⟩ := hQ)
      | ((with_reducible refine atRet ?_); refine Nx.ret [0,9] Try.func25 rfl rfl ?_; (exact ⟨M', eb, ep, .inr ⟨h0, b, q, rfl, rfl⟩⟩))
      | ((with_reducible refine atRet ?_); refine Nx.ret [0] Try.func25 rfl rfl ?_; (exact ⟨M', eb, ep, .inl ⟨h0, rfl, rfl⟩⟩))
      | ((with_reducible refine atOps ?_); refine go 200 ?_; conv => whnf)
      | ((with_reducible refine atPlan ?_); refine Nx.runP (n := 200) rfl (by repeat (first | exact subB.nil _ | refine subB.cons rfl ?_)) ?_; conv => whnf)
      | ((with_reducible refine atAftL ?_); refine Nx.late ?_)
      | ((fail_if_success (with_reducible refine atRet ?_)); (fail_if_success (with_reducible refine atLoop ?_)); (fail_if_success (with_reducible refine atIn ?_)); (fail_if_success (with_reducible refine atDrawn ?_)); (fail_if_success (with_reducible refine atEnd ?_)); (with_reducible refine atRun ?_); refine go 200 ?_; conv => whnf))
  by_cases d3 : n.deed = 3
  · have hR : M.p.reads n = M.p.moves k x.r n := by rw [hR0, if_neg d2, if_pos d3]
    rw [hR]
    refine go 200 ?_
    conv => whnf
    repeat' (first
      | ((with_reducible refine atBr ?_); refine BrM.yes (by omega) ?_; conv => whnf)
      | ((with_reducible refine atBr ?_); refine BrM.not (by omega) ?_; conv => whnf)
      | ((with_reducible refine atBr ?_); (first | refine BrM.t rfl ?_ | refine BrM.f rfl ?_ | refine BrM.dec (fun _ => ?_) (fun _ => ?_) | refine BrM.mk (fun _ => ?_) (fun _ => ?_)) <;> conv => whnf)
      | ((with_reducible refine atAr ?_); refine Ar.i64 (by omega) (by omega) ?_; conv => whnf)
      | ((with_reducible refine (atCall 46) ?_); refine Nx.call [0] [0,9] rfl rfl rfl rfl rfl (hmov) rfl fun v Q hQ => ?_; obtain ⟨M',eb,ep,⟨h0,rfl,rfl⟩|⟨h0,b,q,rfl,rfl⟩⟩ := hQ)
      | ((with_reducible refine atRet ?_); refine Nx.ret [0,9] Try.func25 rfl rfl ?_; (exact ⟨M', eb, ep, .inr ⟨h0, b, q, rfl, rfl⟩⟩))
      | ((with_reducible refine atRet ?_); refine Nx.ret [0] Try.func25 rfl rfl ?_; (exact ⟨M', eb, ep, .inl ⟨h0, rfl, rfl⟩⟩))
      | ((with_reducible refine atOps ?_); refine go 200 ?_; conv => whnf)
      | ((with_reducible refine atPlan ?_); refine Nx.runP (n := 200) rfl (by repeat (first | exact subB.nil _ | refine subB.cons rfl ?_)) ?_; conv => whnf)
      | ((with_reducible refine atAftL ?_); refine Nx.late ?_)
      | ((fail_if_success (with_reducible refine atRet ?_)); (fail_if_success (with_reducible refine atLoop ?_)); (fail_if_success (with_reducible refine atIn ?_)); (fail_if_success (with_reducible refine atDrawn ?_)); (fail_if_success (with_reducible refine atEnd ?_)); (with_reducible refine atRun ?_); refine go 200 ?_; conv => whnf))
  by_cases d4 : n.deed = 4
  · have hR : M.p.reads n = M.p.returns k x.r n := by rw [hR0, if_neg d2, if_neg d3, if_pos d4]
    rw [hR]
    refine go 200 ?_
    conv => whnf
    repeat' (first
      | ((with_reducible refine atBr ?_); refine BrM.yes (by omega) ?_; conv => whnf)
      | ((with_reducible refine atBr ?_); refine BrM.not (by omega) ?_; conv => whnf)
      | ((with_reducible refine atBr ?_); (first | refine BrM.t rfl ?_ | refine BrM.f rfl ?_ | refine BrM.dec (fun _ => ?_) (fun _ => ?_) | refine BrM.mk (fun _ => ?_) (fun _ => ?_)) <;> conv => whnf)
      | ((with_reducible refine atAr ?_); refine Ar.i64 (by omega) (by omega) ?_; conv => whnf)
      | ((with_reducible refine (atCall 47) ?_); refine Nx.call [0] [0,9] rfl rfl rfl rfl rfl (hret) rfl fun v Q hQ => ?_; obtain ⟨M',eb,ep,⟨h0,rfl,rfl⟩|⟨h0,b,q,rfl,rfl⟩⟩ := hQ)
      | ((with_reducible refine atRet ?_); refine Nx.ret [0,9] Try.func25 rfl rfl ?_; (exact ⟨M', eb, ep, .inr ⟨h0, b, q, rfl, rfl⟩⟩))
      | ((with_reducible refine atRet ?_); refine Nx.ret [0] Try.func25 rfl rfl ?_; (exact ⟨M', eb, ep, .inl ⟨h0, rfl, rfl⟩⟩))
      | ((with_reducible refine atOps ?_); refine go 200 ?_; conv => whnf)
      | ((with_reducible refine atPlan ?_); refine Nx.runP (n := 200) rfl (by repeat (first | exact subB.nil _ | refine subB.cons rfl ?_)) ?_; conv => whnf)
      | ((with_reducible refine atAftL ?_); refine Nx.late ?_)
      | ((fail_if_success (with_reducible refine atRet ?_)); (fail_if_success (with_reducible refine atLoop ?_)); (fail_if_success (with_reducible refine atIn ?_)); (fail_if_success (with_reducible refine atDrawn ?_)); (fail_if_success (with_reducible refine atEnd ?_)); (with_reducible refine atRun ?_); refine go 200 ?_; conv => whnf))
  by_cases d6 : n.deed = 6
  · have hR : M.p.reads n = M.p.leaves k x.r n := by rw [hR0, if_neg d2, if_neg d3, if_neg d4, if_pos d6]
    rw [hR]
    refine go 200 ?_
    conv => whnf
    repeat' (first
      | ((with_reducible refine atBr ?_); refine BrM.yes (by omega) ?_; conv => whnf)
      | ((with_reducible refine atBr ?_); refine BrM.not (by omega) ?_; conv => whnf)
      | ((with_reducible refine atBr ?_); (first | refine BrM.t rfl ?_ | refine BrM.f rfl ?_ | refine BrM.dec (fun _ => ?_) (fun _ => ?_) | refine BrM.mk (fun _ => ?_) (fun _ => ?_)) <;> conv => whnf)
      | ((with_reducible refine atAr ?_); refine Ar.i64 (by omega) (by omega) ?_; conv => whnf)
      | ((with_reducible refine (atCall 48) ?_); refine Nx.call [0] [0,9] rfl rfl rfl rfl rfl (hlea) rfl fun v Q hQ => ?_; obtain ⟨M',eb,ep,⟨h0,rfl,rfl⟩|⟨h0,b,q,rfl,rfl⟩⟩ := hQ)
      | ((with_reducible refine atRet ?_); refine Nx.ret [0,9] Try.func25 rfl rfl ?_; (exact ⟨M', eb, ep, .inr ⟨h0, b, q, rfl, rfl⟩⟩))
      | ((with_reducible refine atRet ?_); refine Nx.ret [0] Try.func25 rfl rfl ?_; (exact ⟨M', eb, ep, .inl ⟨h0, rfl, rfl⟩⟩))
      | ((with_reducible refine atOps ?_); refine go 200 ?_; conv => whnf)
      | ((with_reducible refine atPlan ?_); refine Nx.runP (n := 200) rfl (by repeat (first | exact subB.nil _ | refine subB.cons rfl ?_)) ?_; conv => whnf)
      | ((with_reducible refine atAftL ?_); refine Nx.late ?_)
      | ((fail_if_success (with_reducible refine atRet ?_)); (fail_if_success (with_reducible refine atLoop ?_)); (fail_if_success (with_reducible refine atIn ?_)); (fail_if_success (with_reducible refine atDrawn ?_)); (fail_if_success (with_reducible refine atEnd ?_)); (with_reducible refine atRun ?_); refine go 200 ?_; conv => whnf))
  by_cases d7 : n.deed = 7
  · have hR : M.p.reads n = (M.p.stops n.who, 0) := by rw [hR0, if_neg d2, if_neg d3, if_neg d4, if_neg d6, if_pos d7]
    rw [hR]
    refine go 200 ?_
    conv => whnf
    repeat' (first
      | ((with_reducible refine atBr ?_); refine BrM.yes (by omega) ?_; conv => whnf)
      | ((with_reducible refine atBr ?_); refine BrM.not (by omega) ?_; conv => whnf)
      | ((with_reducible refine atBr ?_); (first | refine BrM.t rfl ?_ | refine BrM.f rfl ?_ | refine BrM.dec (fun _ => ?_) (fun _ => ?_) | refine BrM.mk (fun _ => ?_) (fun _ => ?_)) <;> conv => whnf)
      | ((with_reducible refine atAr ?_); refine Ar.i64 (by omega) (by omega) ?_; conv => whnf)
      | ((with_reducible refine (atCall 49) ?_); refine Nx.call [0] [0] rfl rfl rfl rfl rfl (hstops) rfl fun v Q hQ => ?_; obtain ⟨M',eb,ep,rfl⟩ := hQ)
      | ((with_reducible refine atRet ?_); refine Nx.ret [0] Try.func25 rfl rfl ?_; (exact MdQ.no eb ep))
      | ((with_reducible refine atOps ?_); refine go 200 ?_; conv => whnf)
      | ((with_reducible refine atPlan ?_); refine Nx.runP (n := 200) rfl (by repeat (first | exact subB.nil _ | refine subB.cons rfl ?_)) ?_; conv => whnf)
      | ((with_reducible refine atAftL ?_); refine Nx.late ?_)
      | ((fail_if_success (with_reducible refine atRet ?_)); (fail_if_success (with_reducible refine atLoop ?_)); (fail_if_success (with_reducible refine atIn ?_)); (fail_if_success (with_reducible refine atDrawn ?_)); (fail_if_success (with_reducible refine atEnd ?_)); (with_reducible refine atRun ?_); refine go 200 ?_; conv => whnf))
  by_cases d5 : n.deed = 5
  · by_cases d8 : n.seq ≤ x.r.cursor
    · have hR : M.p.reads n = (M.p, 1) := by rw [hR0, if_neg d2, if_neg d3, if_neg d4, if_neg d6, if_neg d7, if_pos d5, if_pos d8]
      rw [hR]
      refine go 200 ?_
      conv => whnf
      repeat' (first
        | ((with_reducible refine atBr ?_); refine BrM.yes (by omega) ?_; conv => whnf)
        | ((with_reducible refine atBr ?_); refine BrM.not (by omega) ?_; conv => whnf)
        | ((with_reducible refine atBr ?_); (first | refine BrM.t rfl ?_ | refine BrM.f rfl ?_ | refine BrM.dec (fun _ => ?_) (fun _ => ?_) | refine BrM.mk (fun _ => ?_) (fun _ => ?_)) <;> conv => whnf)
        | ((with_reducible refine atAr ?_); refine Ar.i64 (by omega) (by omega) ?_; conv => whnf)
        | ((with_reducible refine (atDrawnN 26) ?_); refine Nx.drawn0 [0] [.pure 0, .held 1, .pure 2, .pure 3, .pure 4, .held 5, .pure 6] rfl (by kernel_rfl) rfl (by kernel_rfl) rfl (by repeat (first | exact subB.nil _ | refine subB.cons rfl ?_)) rfl ?_)
        | ((with_reducible refine atHoLoad ?_); first | (refine Nx.hoLoad1 rfl rfl rfl rfl List.mem_cons_self (SeesAt.sub (by assumption) _ rfl) rfl ?_) | (refine Nx.hoLoad1 rfl rfl rfl rfl List.mem_cons_self (by assumption) rfl ?_) | (refine Nx.hoLoad rfl rfl rfl rfl List.mem_cons_self (by assumption) rfl rfl ?_) | (refine Nx.hoLoad1 rfl rfl rfl rfl (List.mem_cons_of_mem _ List.mem_cons_self) (SeesAt.sub (by assumption) _ rfl) rfl ?_) | (refine Nx.hoLoad1 rfl rfl rfl rfl (List.mem_cons_of_mem _ List.mem_cons_self) (by assumption) rfl ?_) | (refine Nx.hoLoad rfl rfl rfl rfl (List.mem_cons_of_mem _ List.mem_cons_self) (by assumption) rfl rfl ?_) | (refine Nx.hoLoad1 rfl rfl rfl rfl (List.mem_cons_of_mem _ (List.mem_cons_of_mem _ List.mem_cons_self)) (SeesAt.sub (by assumption) _ rfl) rfl ?_) | (refine Nx.hoLoad1 rfl rfl rfl rfl (List.mem_cons_of_mem _ (List.mem_cons_of_mem _ List.mem_cons_self)) (by assumption) rfl ?_) | (refine Nx.hoLoad rfl rfl rfl rfl (List.mem_cons_of_mem _ (List.mem_cons_of_mem _ List.mem_cons_self)) (by assumption) rfl rfl ?_) | (refine Nx.hoLoad1 rfl rfl rfl rfl (List.mem_cons_of_mem _ (List.mem_cons_of_mem _ (List.mem_cons_of_mem _ List.mem_cons_self))) (SeesAt.sub (by assumption) _ rfl) rfl ?_) | (refine Nx.hoLoad1 rfl rfl rfl rfl (List.mem_cons_of_mem _ (List.mem_cons_of_mem _ (List.mem_cons_of_mem _ List.mem_cons_self))) (by assumption) rfl ?_) | (refine Nx.hoLoad rfl rfl rfl rfl (List.mem_cons_of_mem _ (List.mem_cons_of_mem _ (List.mem_cons_of_mem _ List.mem_cons_self))) (by assumption) rfl rfl ?_))
        | ((with_reducible refine (atCall 37) ?_); refine Nx.call [] [9] rfl rfl rfl rfl rfl ((wrong_ok _ _ 1)) rfl fun v Q hQ => ?_; obtain ⟨b,rfl,rfl⟩ := hQ)
        | ((with_reducible refine atRet ?_); refine Nx.ret [0,9] Try.func25 rfl rfl ?_; (exact MdQ.yes rfl (by decide)))
        | ((with_reducible refine atOps ?_); refine go 200 ?_; conv => whnf)
        | ((with_reducible refine atPlan ?_); refine Nx.runP (n := 200) rfl (by repeat (first | exact subB.nil _ | refine subB.cons rfl ?_)) ?_; conv => whnf)
        | ((with_reducible refine atAftL ?_); refine Nx.late ?_)
        | ((fail_if_success (with_reducible refine atRet ?_)); (fail_if_success (with_reducible refine atLoop ?_)); (fail_if_success (with_reducible refine atIn ?_)); (fail_if_success (with_reducible refine atDrawn ?_)); (fail_if_success (with_reducible refine atEnd ?_)); (with_reducible refine atRun ?_); refine go 200 ?_; conv => whnf))
    · have hR : M.p.reads n = (M.p, 0) := by rw [hR0, if_neg d2, if_neg d3, if_neg d4, if_neg d6, if_neg d7, if_pos d5, if_neg d8]
      rw [hR]
      refine go 200 ?_
      conv => whnf
      repeat' (first
        | ((with_reducible refine atBr ?_); refine BrM.yes (by omega) ?_; conv => whnf)
        | ((with_reducible refine atBr ?_); refine BrM.not (by omega) ?_; conv => whnf)
        | ((with_reducible refine atBr ?_); (first | refine BrM.t rfl ?_ | refine BrM.f rfl ?_ | refine BrM.dec (fun _ => ?_) (fun _ => ?_) | refine BrM.mk (fun _ => ?_) (fun _ => ?_)) <;> conv => whnf)
        | ((with_reducible refine atAr ?_); refine Ar.i64 (by omega) (by omega) ?_; conv => whnf)
        | ((with_reducible refine (atDrawnN 26) ?_); refine Nx.drawn0 [0] [.pure 0, .held 1, .pure 2, .pure 3, .pure 4, .held 5, .pure 6] rfl (by kernel_rfl) rfl (by kernel_rfl) rfl (by repeat (first | exact subB.nil _ | refine subB.cons rfl ?_)) rfl ?_)
        | ((with_reducible refine atHoLoad ?_); first | (refine Nx.hoLoad1 rfl rfl rfl rfl List.mem_cons_self (SeesAt.sub (by assumption) _ rfl) rfl ?_) | (refine Nx.hoLoad1 rfl rfl rfl rfl List.mem_cons_self (by assumption) rfl ?_) | (refine Nx.hoLoad rfl rfl rfl rfl List.mem_cons_self (by assumption) rfl rfl ?_) | (refine Nx.hoLoad1 rfl rfl rfl rfl (List.mem_cons_of_mem _ List.mem_cons_self) (SeesAt.sub (by assumption) _ rfl) rfl ?_) | (refine Nx.hoLoad1 rfl rfl rfl rfl (List.mem_cons_of_mem _ List.mem_cons_self) (by assumption) rfl ?_) | (refine Nx.hoLoad rfl rfl rfl rfl (List.mem_cons_of_mem _ List.mem_cons_self) (by assumption) rfl rfl ?_) | (refine Nx.hoLoad1 rfl rfl rfl rfl (List.mem_cons_of_mem _ (List.mem_cons_of_mem _ List.mem_cons_self)) (SeesAt.sub (by assumption) _ rfl) rfl ?_) | (refine Nx.hoLoad1 rfl rfl rfl rfl (List.mem_cons_of_mem _ (List.mem_cons_of_mem _ List.mem_cons_self)) (by assumption) rfl ?_) | (refine Nx.hoLoad rfl rfl rfl rfl (List.mem_cons_of_mem _ (List.mem_cons_of_mem _ List.mem_cons_self)) (by assumption) rfl rfl ?_) | (refine Nx.hoLoad1 rfl rfl rfl rfl (List.mem_cons_of_mem _ (List.mem_cons_of_mem _ (List.mem_cons_of_mem _ List.mem_cons_self))) (SeesAt.sub (by assumption) _ rfl) rfl ?_) | (refine Nx.hoLoad1 rfl rfl rfl rfl (List.mem_cons_of_mem _ (List.mem_cons_of_mem _ (List.mem_cons_of_mem _ List.mem_cons_self))) (by assumption) rfl ?_) | (refine Nx.hoLoad rfl rfl rfl rfl (List.mem_cons_of_mem _ (List.mem_cons_of_mem _ (List.mem_cons_of_mem _ List.mem_cons_self))) (by assumption) rfl rfl ?_))
        | ((with_reducible refine atRet ?_); refine Nx.ret [0] Try.func25 rfl rfl ?_; (exact MdQ.no rfl rfl))
        | ((with_reducible refine atOps ?_); refine go 200 ?_; conv => whnf)
        | ((with_reducible refine atPlan ?_); refine Nx.runP (n := 200) rfl (by repeat (first | exact subB.nil _ | refine subB.cons rfl ?_)) ?_; conv => whnf)
        | ((with_reducible refine atAftL ?_); refine Nx.late ?_)
        | ((fail_if_success (with_reducible refine atRet ?_)); (fail_if_success (with_reducible refine atLoop ?_)); (fail_if_success (with_reducible refine atIn ?_)); (fail_if_success (with_reducible refine atDrawn ?_)); (fail_if_success (with_reducible refine atEnd ?_)); (with_reducible refine atRun ?_); refine go 200 ?_; conv => whnf))
  have hR : M.p.reads n = (M.p, 1) := by rw [hR0, if_neg d2, if_neg d3, if_neg d4, if_neg d6, if_neg d7, if_neg d5]
  rw [hR]
  refine go 200 ?_
  conv => whnf
  repeat' (first
    | ((with_reducible refine atBr ?_); refine BrM.yes (by omega) ?_; conv => whnf)
    | ((with_reducible refine atBr ?_); refine BrM.not (by omega) ?_; conv => whnf)
    | ((with_reducible refine atBr ?_); (first | refine BrM.t rfl ?_ | refine BrM.f rfl ?_ | refine BrM.dec (fun _ => ?_) (fun _ => ?_) | refine BrM.mk (fun _ => ?_) (fun _ => ?_)) <;> conv => whnf)
    | ((with_reducible refine atAr ?_); refine Ar.i64 (by omega) (by omega) ?_; conv => whnf)
    | ((with_reducible refine (atCall 37) ?_); refine Nx.call [] [9] rfl rfl rfl rfl rfl ((wrong_ok _ _ 1)) rfl fun v Q hQ => ?_; obtain ⟨b,rfl,rfl⟩ := hQ)
    | ((with_reducible refine atRet ?_); refine Nx.ret [0,9] Try.func25 rfl rfl ?_; (exact MdQ.yes rfl (by decide)))
    | ((with_reducible refine atOps ?_); refine go 200 ?_; conv => whnf)
    | ((with_reducible refine atPlan ?_); refine Nx.runP (n := 200) rfl (by repeat (first | exact subB.nil _ | refine subB.cons rfl ?_)) ?_; conv => whnf)
    | ((with_reducible refine atAftL ?_); refine Nx.late ?_)
    | ((fail_if_success (with_reducible refine atRet ?_)); (fail_if_success (with_reducible refine atLoop ?_)); (fail_if_success (with_reducible refine atIn ?_)); (fail_if_success (with_reducible refine atDrawn ?_)); (fail_if_success (with_reducible refine atEnd ?_)); (with_reducible refine atRun ?_); refine go 200 ?_; conv => whnf))
end Go.Proofs.Ytngfadijcpnblaa

/- The program's model: New, apply, small. -/
namespace Go.Proofs.Ytngfadijcpnblaa
open Go.RowKit
set_option maxRecDepth 20000
set_option maxHeartbeats 4000000
def MdH.new (b : Nat) : MdH := ⟨b, [], none, 0, [], none, 0, [], none, 0, [], none, 0⟩
theorem sat_own (e sz : Nat) {L : List SP} {r h : PH} (H : Sat L r h) : Sat (ownS e none 0 0 sz [] :: L) r h :=
  ⟨r, PH.em, h, PH.le_refl _, PH.em_le _, PH.le_refl _, PH.em_dj _, own_nil _ _ _ _, H⟩
theorem sat_emp {L : List SP} {r h : PH} (H : Sat L r h) : Sat (star [] :: L) r h :=
  ⟨r, PH.em, h, PH.le_refl _, PH.em_le _, PH.le_refl _, PH.em_dj _, trivial, H⟩
theorem MdH.new_sp (b : Nat) : ∀ r h, blk b (.cells (MdH.new b).cells.toArray 78 (0, 0)) r h → (MdH.new b).sp r h := by
  intro r h hb
  refine ⟨r, h, PH.em, PH.le_refl _, PH.le_refl _, PH.em_le _, PH.dj_em _, hb, ?_⟩
  exact sat_own _ _ (sat_own _ _ (sat_own _ _ (sat_own _ _ (sat_emp (sat_emp (sat_emp (sat_emp trivial)))))))
structure OpH where
  o : Opn
  aA : Option Addr
  aC : Nat
  hA : Option Addr
  hC : Nat
  lA : Option Addr
  lC : Nat
def OpH.enc (x : OpH) : List Value := [.int .i64 x.o.kind, .int .i64 x.o.who, .int .i64 x.o.ring, .int .i64 x.o.from', .bool x.o.many, .slice x.aA x.o.all.length x.aC, .slice x.hA x.o.ahead.length x.hC, .slice x.lA x.o.l.length x.lC, .int .i64 x.o.n.who, .int .i64 x.o.n.ring, .int .i64 x.o.n.deed, .int .i64 x.o.n.lo, .int .i64 x.o.n.seq, .int .i64 x.o.n.x.key, .int .i64 x.o.n.x.val, .int .i64 x.o.n.code]
theorem OpH.enc_len (x : OpH) : x.enc.length = 16 := rfl
def OpH.v (x : OpH) : Value := .agg #[.int .i64 x.o.kind, .int .i64 x.o.who, .int .i64 x.o.ring, .int .i64 x.o.from', .bool x.o.many, .slice x.aA x.o.all.length x.aC, .slice x.hA x.o.ahead.length x.hC, .slice x.lA x.o.l.length x.lC, .int .i64 x.o.n.who, .int .i64 x.o.n.ring, .int .i64 x.o.n.deed, .int .i64 x.o.n.lo, .int .i64 x.o.n.seq, .int .i64 x.o.n.x.key, .int .i64 x.o.n.x.val, .int .i64 x.o.n.code]
/-- What an operation's rows are, in a memory that stays. -/
structure OpOk (m : PH) (x : OpH) : Prop where
  ra : Rd m x.aA x.o.all.length 1 (x.o.all.flatMap inC)
  rh : Rd m x.hA x.o.ahead.length 1 (x.o.ahead.flatMap inC)
  rl : Rd m x.lA x.o.l.length 2 (x.o.l.flatMap evC)
  ca : x.o.all.length ≤ x.aC
def OpS (x : OpH) : Prop := x.o.all.length ≤ 30 ∧ x.o.ahead.length ≤ 30 ∧ x.o.l.length ≤ 70
instance (x : OpH) : Decidable (OpS x) := inferInstanceAs (Decidable (_ ∧ _ ∧ _))
theorem ro_rdS {m : PH} {A : Option Addr} {n sz : Nat} {cells : List Value} (h : Rd m A n sz cells) : ∀ r g, roAll m r g → rdS A n sz cells r PH.em := fun _ _ hm => Rd.mono h hm
attribute [local irreducible] Nx Ar BrM
theorem New_ok : FnOk Try.prog 9 [] [] (fun v Q => ∃ M : MdH, v = ptr M.b ∧ M.p = ⟨[], [], [], []⟩ ∧ Q = [M.sp]) := by
  refine FnOk.start Try.func9 rfl rfl rfl rfl fun F os tape output => ?_
  refine go 200 ?_
  conv => whnf
  refine Nx.bind (l := 2) (fun b => ?_) rfl
  refine Nx.out 2 rfl rfl rfl rfl ?_
  refine Nx.turn [2] [0] [(MdH.new b).sp] rfl (fun r h hs => ?_) ?_
  · obtain ⟨r1, h1, h2, a1, a2, a3, a4, a5, a6⟩ := hs
    exact ⟨r1, h1, h2, a1, a2, a3, a4, MdH.new_sp b _ _ a5, a6⟩
  repeat' (first
    | ((with_reducible refine atBr ?_); (first | refine BrM.t rfl ?_ | refine BrM.f rfl ?_ | refine BrM.dec (fun _ => ?_) (fun _ => ?_) | refine BrM.mk (fun _ => ?_) (fun _ => ?_)) <;> conv => whnf)
    | ((with_reducible refine atAr ?_); refine Ar.i64 (by omega) (by omega) ?_; conv => whnf)
    | ((with_reducible refine atRet ?_); refine Nx.ret [0] Try.func9 rfl rfl ?_; (exact ⟨MdH.new b, rfl, rfl, rfl⟩))
    | ((with_reducible refine atOps ?_); refine go 200 ?_; conv => whnf)
    | ((with_reducible refine atPlan ?_); refine Nx.runP (n := 200) rfl (by repeat (first | exact subB.nil _ | refine subB.cons rfl ?_)) ?_; conv => whnf)
    | ((with_reducible refine atAftL ?_); refine Nx.late ?_)
    | ((fail_if_success (with_reducible refine atRet ?_)); (fail_if_success (with_reducible refine atLoop ?_)); (fail_if_success (with_reducible refine atIn ?_)); (fail_if_success (with_reducible refine atDrawn ?_)); (fail_if_success (with_reducible refine atEnd ?_)); (with_reducible refine atRun ?_); refine go 200 ?_; conv => whnf))
theorem apply_ok (m : PH) (M : MdH) (hm : MdW M.p) (x : OpH) (ok : OpOk m x) (sm : OpS x) : FnOk Try.prog 18 [ptr M.b, x.v] [M.sp, roAll m] (MdQ M.b (M.p.apply x.o)) := by
  obtain ⟨s1, s2, s3⟩ := sm
  have h0 := Log_ok M hm x.o.from' x.o.many
  have h1 := Writer_ok M hm x.o.who x.o.ring
  have h2 := Reader_ok M hm x.o.who x.o.ring x.o.from' x.o.ahead x.hA x.hC (by omega)
  have h3 := Pool_ok M hm x.o.ring x.o.from' x.o.all x.o.ahead x.aA x.aC x.hA x.hC (by omega) ok.ca (by omega)
  have h4 := Send_ok M hm x.o.who x.o.l x.lA x.lC (by omega)
  have h5 := Take_ok M hm x.o.n
  unfold Nt.v at h5
  unfold OpH.v
  by_cases k0 : x.o.kind = 0
  · have hE : M.p.apply x.o = M.p.addLog x.o.from' x.o.many := by unfold MdP.apply; rw [if_pos k0]
    rw [hE]
    refine FnOk.start Try.func18 rfl rfl rfl rfl fun F os tape output => ?_
    refine go 200 ?_
    conv => whnf
    repeat' (first
      | ((with_reducible refine atBr ?_); refine BrM.yes (by omega) ?_; conv => whnf)
      | ((with_reducible refine atBr ?_); refine BrM.not (by omega) ?_; conv => whnf)
      | ((with_reducible refine atBr ?_); (first | refine BrM.t rfl ?_ | refine BrM.f rfl ?_ | refine BrM.dec (fun _ => ?_) (fun _ => ?_) | refine BrM.mk (fun _ => ?_) (fun _ => ?_)) <;> conv => whnf)
      | ((with_reducible refine atAr ?_); refine Ar.i64 (by omega) (by omega) ?_; conv => whnf)
      | ((with_reducible refine (atCall 19) ?_); refine Nx.call [0] [0,9] rfl rfl rfl rfl rfl (h0) rfl fun v Q hQ => ?_; obtain ⟨v',rfl,M',eb,ep,⟨h0,rfl,rfl⟩|⟨h0,b,q,rfl,rfl⟩⟩ := hQ)
      | ((with_reducible refine atRet ?_); refine Nx.ret [0,9] Try.func18 rfl rfl ?_; (exact ⟨M', eb, ep, .inr ⟨h0, b, q, rfl, rfl⟩⟩))
      | ((with_reducible refine atRet ?_); refine Nx.ret [0] Try.func18 rfl rfl ?_; (exact ⟨M', eb, ep, .inl ⟨h0, rfl, rfl⟩⟩))
      | ((with_reducible refine atOps ?_); refine go 200 ?_; conv => whnf)
      | ((with_reducible refine atPlan ?_); refine Nx.runP (n := 200) rfl (by repeat (first | exact subB.nil _ | refine subB.cons rfl ?_)) ?_; conv => whnf)
      | ((with_reducible refine atAftL ?_); refine Nx.late ?_)
      | ((fail_if_success (with_reducible refine atRet ?_)); (fail_if_success (with_reducible refine atLoop ?_)); (fail_if_success (with_reducible refine atIn ?_)); (fail_if_success (with_reducible refine atDrawn ?_)); (fail_if_success (with_reducible refine atEnd ?_)); (with_reducible refine atRun ?_); refine go 200 ?_; conv => whnf))
  by_cases k1 : x.o.kind = 1
  · have hE : M.p.apply x.o = M.p.addWriter x.o.who x.o.ring := by unfold MdP.apply; rw [if_neg k0, if_pos k1]
    rw [hE]
    refine FnOk.start Try.func18 rfl rfl rfl rfl fun F os tape output => ?_
    refine go 200 ?_
    conv => whnf
    repeat' (first
      | ((with_reducible refine atBr ?_); refine BrM.yes (by omega) ?_; conv => whnf)
      | ((with_reducible refine atBr ?_); refine BrM.not (by omega) ?_; conv => whnf)
      | ((with_reducible refine atBr ?_); (first | refine BrM.t rfl ?_ | refine BrM.f rfl ?_ | refine BrM.dec (fun _ => ?_) (fun _ => ?_) | refine BrM.mk (fun _ => ?_) (fun _ => ?_)) <;> conv => whnf)
      | ((with_reducible refine atAr ?_); refine Ar.i64 (by omega) (by omega) ?_; conv => whnf)
      | ((with_reducible refine (atCall 21) ?_); refine Nx.call [0] [0,9] rfl rfl rfl rfl rfl (h1) rfl fun v Q hQ => ?_; obtain ⟨M',eb,ep,⟨h0,rfl,rfl⟩|⟨h0,b,q,rfl,rfl⟩⟩ := hQ)
      | ((with_reducible refine atRet ?_); refine Nx.ret [0,9] Try.func18 rfl rfl ?_; (exact ⟨M', eb, ep, .inr ⟨h0, b, q, rfl, rfl⟩⟩))
      | ((with_reducible refine atRet ?_); refine Nx.ret [0] Try.func18 rfl rfl ?_; (exact ⟨M', eb, ep, .inl ⟨h0, rfl, rfl⟩⟩))
      | ((with_reducible refine atOps ?_); refine go 200 ?_; conv => whnf)
      | ((with_reducible refine atPlan ?_); refine Nx.runP (n := 200) rfl (by repeat (first | exact subB.nil _ | refine subB.cons rfl ?_)) ?_; conv => whnf)
      | ((with_reducible refine atAftL ?_); refine Nx.late ?_)
      | ((fail_if_success (with_reducible refine atRet ?_)); (fail_if_success (with_reducible refine atLoop ?_)); (fail_if_success (with_reducible refine atIn ?_)); (fail_if_success (with_reducible refine atDrawn ?_)); (fail_if_success (with_reducible refine atEnd ?_)); (with_reducible refine atRun ?_); refine go 200 ?_; conv => whnf))
  by_cases k2 : x.o.kind = 2
  · have hE : M.p.apply x.o = M.p.addReader x.o.who x.o.ring x.o.from' x.o.ahead := by unfold MdP.apply; rw [if_neg k0, if_neg k1, if_pos k2]
    rw [hE]
    refine FnOk.start Try.func18 rfl rfl rfl rfl fun F os tape output => ?_
    refine Nx.also 1 5 (rdS x.hA x.o.ahead.length 1 (x.o.ahead.flatMap inC)) rfl (ro_rdS ok.rh) ?_
    refine go 200 ?_
    conv => whnf
    repeat' (first
      | ((with_reducible refine atBr ?_); refine BrM.yes (by omega) ?_; conv => whnf)
      | ((with_reducible refine atBr ?_); refine BrM.not (by omega) ?_; conv => whnf)
      | ((with_reducible refine atBr ?_); (first | refine BrM.t rfl ?_ | refine BrM.f rfl ?_ | refine BrM.dec (fun _ => ?_) (fun _ => ?_) | refine BrM.mk (fun _ => ?_) (fun _ => ?_)) <;> conv => whnf)
      | ((with_reducible refine atAr ?_); refine Ar.i64 (by omega) (by omega) ?_; conv => whnf)
      | ((with_reducible refine (atCall 22) ?_); refine Nx.call [0,5] [0,9] rfl rfl rfl rfl rfl (h2) rfl fun v Q hQ => ?_; obtain ⟨M',eb,ep,⟨h0,rfl,rfl⟩|⟨h0,b,q,rfl,rfl⟩⟩ := hQ)
      | ((with_reducible refine atRet ?_); refine Nx.ret [0,9] Try.func18 rfl rfl ?_; (exact ⟨M', eb, ep, .inr ⟨h0, b, q, rfl, rfl⟩⟩))
      | ((with_reducible refine atRet ?_); refine Nx.ret [0] Try.func18 rfl rfl ?_; (exact ⟨M', eb, ep, .inl ⟨h0, rfl, rfl⟩⟩))
      | ((with_reducible refine atOps ?_); refine go 200 ?_; conv => whnf)
      | ((with_reducible refine atPlan ?_); refine Nx.runP (n := 200) rfl (by repeat (first | exact subB.nil _ | refine subB.cons rfl ?_)) ?_; conv => whnf)
      | ((with_reducible refine atAftL ?_); refine Nx.late ?_)
      | ((fail_if_success (with_reducible refine atRet ?_)); (fail_if_success (with_reducible refine atLoop ?_)); (fail_if_success (with_reducible refine atIn ?_)); (fail_if_success (with_reducible refine atDrawn ?_)); (fail_if_success (with_reducible refine atEnd ?_)); (with_reducible refine atRun ?_); refine go 200 ?_; conv => whnf))
  by_cases k3 : x.o.kind = 3
  · have hE : M.p.apply x.o = M.p.addPool x.o.ring x.o.from' x.o.all x.o.ahead := by unfold MdP.apply; rw [if_neg k0, if_neg k1, if_neg k2, if_pos k3]
    rw [hE]
    refine FnOk.start Try.func18 rfl rfl rfl rfl fun F os tape output => ?_
    refine Nx.also 1 6 (rdS x.aA x.o.all.length 1 (x.o.all.flatMap inC)) rfl (ro_rdS ok.ra) ?_
    refine Nx.also 1 5 (rdS x.hA x.o.ahead.length 1 (x.o.ahead.flatMap inC)) rfl (ro_rdS ok.rh) ?_
    refine go 200 ?_
    conv => whnf
    repeat' (first
      | ((with_reducible refine atBr ?_); refine BrM.yes (by omega) ?_; conv => whnf)
      | ((with_reducible refine atBr ?_); refine BrM.not (by omega) ?_; conv => whnf)
      | ((with_reducible refine atBr ?_); (first | refine BrM.t rfl ?_ | refine BrM.f rfl ?_ | refine BrM.dec (fun _ => ?_) (fun _ => ?_) | refine BrM.mk (fun _ => ?_) (fun _ => ?_)) <;> conv => whnf)
      | ((with_reducible refine atAr ?_); refine Ar.i64 (by omega) (by omega) ?_; conv => whnf)
      | ((with_reducible refine (atCall 23) ?_); refine Nx.call [0,6,5] [0,9] rfl rfl rfl rfl rfl (h3) rfl fun v Q hQ => ?_; obtain ⟨M',eb,ep,⟨h0,rfl,rfl⟩|⟨h0,b,q,rfl,rfl⟩⟩ := hQ)
      | ((with_reducible refine atRet ?_); refine Nx.ret [0,9] Try.func18 rfl rfl ?_; (exact ⟨M', eb, ep, .inr ⟨h0, b, q, rfl, rfl⟩⟩))
      | ((with_reducible refine atRet ?_); refine Nx.ret [0] Try.func18 rfl rfl ?_; (exact ⟨M', eb, ep, .inl ⟨h0, rfl, rfl⟩⟩))
      | ((with_reducible refine atOps ?_); refine go 200 ?_; conv => whnf)
      | ((with_reducible refine atPlan ?_); refine Nx.runP (n := 200) rfl (by repeat (first | exact subB.nil _ | refine subB.cons rfl ?_)) ?_; conv => whnf)
      | ((with_reducible refine atAftL ?_); refine Nx.late ?_)
      | ((fail_if_success (with_reducible refine atRet ?_)); (fail_if_success (with_reducible refine atLoop ?_)); (fail_if_success (with_reducible refine atIn ?_)); (fail_if_success (with_reducible refine atDrawn ?_)); (fail_if_success (with_reducible refine atEnd ?_)); (with_reducible refine atRun ?_); refine go 200 ?_; conv => whnf))
  by_cases k4 : x.o.kind = 4
  · have hE : M.p.apply x.o = M.p.send x.o.who x.o.l := by unfold MdP.apply; rw [if_neg k0, if_neg k1, if_neg k2, if_neg k3, if_pos k4]
    rw [hE]
    refine FnOk.start Try.func18 rfl rfl rfl rfl fun F os tape output => ?_
    refine Nx.also 1 5 (rdS x.lA x.o.l.length 2 (x.o.l.flatMap evC)) rfl (ro_rdS ok.rl) ?_
    refine go 200 ?_
    conv => whnf
    repeat' (first
      | ((with_reducible refine atBr ?_); refine BrM.yes (by omega) ?_; conv => whnf)
      | ((with_reducible refine atBr ?_); refine BrM.not (by omega) ?_; conv => whnf)
      | ((with_reducible refine atBr ?_); (first | refine BrM.t rfl ?_ | refine BrM.f rfl ?_ | refine BrM.dec (fun _ => ?_) (fun _ => ?_) | refine BrM.mk (fun _ => ?_) (fun _ => ?_)) <;> conv => whnf)
      | ((with_reducible refine atAr ?_); refine Ar.i64 (by omega) (by omega) ?_; conv => whnf)
      | ((with_reducible refine (atCall 24) ?_); refine Nx.call [0,5] [0,9] rfl rfl rfl rfl rfl (h4) rfl fun v Q hQ => ?_; obtain ⟨M',eb,ep,⟨h0,rfl,rfl⟩|⟨h0,b,q,rfl,rfl⟩⟩ := hQ)
      | ((with_reducible refine atRet ?_); refine Nx.ret [0,9] Try.func18 rfl rfl ?_; (exact ⟨M', eb, ep, .inr ⟨h0, b, q, rfl, rfl⟩⟩))
      | ((with_reducible refine atRet ?_); refine Nx.ret [0] Try.func18 rfl rfl ?_; (exact ⟨M', eb, ep, .inl ⟨h0, rfl, rfl⟩⟩))
      | ((with_reducible refine atOps ?_); refine go 200 ?_; conv => whnf)
      | ((with_reducible refine atPlan ?_); refine Nx.runP (n := 200) rfl (by repeat (first | exact subB.nil _ | refine subB.cons rfl ?_)) ?_; conv => whnf)
      | ((with_reducible refine atAftL ?_); refine Nx.late ?_)
      | ((fail_if_success (with_reducible refine atRet ?_)); (fail_if_success (with_reducible refine atLoop ?_)); (fail_if_success (with_reducible refine atIn ?_)); (fail_if_success (with_reducible refine atDrawn ?_)); (fail_if_success (with_reducible refine atEnd ?_)); (with_reducible refine atRun ?_); refine go 200 ?_; conv => whnf))
  have hE : M.p.apply x.o = M.p.take x.o.n := by unfold MdP.apply; rw [if_neg k0, if_neg k1, if_neg k2, if_neg k3, if_neg k4]
  rw [hE]
  refine FnOk.start Try.func18 rfl rfl rfl rfl fun F os tape output => ?_
  refine go 200 ?_
  conv => whnf
  repeat' (first
    | ((with_reducible refine atBr ?_); refine BrM.yes (by omega) ?_; conv => whnf)
    | ((with_reducible refine atBr ?_); refine BrM.not (by omega) ?_; conv => whnf)
    | ((with_reducible refine atBr ?_); (first | refine BrM.t rfl ?_ | refine BrM.f rfl ?_ | refine BrM.dec (fun _ => ?_) (fun _ => ?_) | refine BrM.mk (fun _ => ?_) (fun _ => ?_)) <;> conv => whnf)
    | ((with_reducible refine atAr ?_); refine Ar.i64 (by omega) (by omega) ?_; conv => whnf)
    | ((with_reducible refine (atCall 25) ?_); refine Nx.call [0] [0,9] rfl rfl rfl rfl rfl (h5) rfl fun v Q hQ => ?_; obtain ⟨M',eb,ep,⟨h0,rfl,rfl⟩|⟨h0,b,q,rfl,rfl⟩⟩ := hQ)
    | ((with_reducible refine atRet ?_); refine Nx.ret [0,9] Try.func18 rfl rfl ?_; (exact ⟨M', eb, ep, .inr ⟨h0, b, q, rfl, rfl⟩⟩))
    | ((with_reducible refine atRet ?_); refine Nx.ret [0] Try.func18 rfl rfl ?_; (exact ⟨M', eb, ep, .inl ⟨h0, rfl, rfl⟩⟩))
    | ((with_reducible refine atOps ?_); refine go 200 ?_; conv => whnf)
    | ((with_reducible refine atPlan ?_); refine Nx.runP (n := 200) rfl (by repeat (first | exact subB.nil _ | refine subB.cons rfl ?_)) ?_; conv => whnf)
    | ((with_reducible refine atAftL ?_); refine Nx.late ?_)
    | ((fail_if_success (with_reducible refine atRet ?_)); (fail_if_success (with_reducible refine atLoop ?_)); (fail_if_success (with_reducible refine atIn ?_)); (fail_if_success (with_reducible refine atDrawn ?_)); (fail_if_success (with_reducible refine atEnd ?_)); (with_reducible refine atRun ?_); refine go 200 ?_; conv => whnf))
end Go.Proofs.Ytngfadijcpnblaa

/- The evaluator is sound. -/
namespace Go.Proofs.Ytngfadijcpnblaa
open Go.RowKit

theorem calls_of_ret {P : Program} {f : Nat} {fn : Func} {c : Code} {args : Array Value} {R : Value → List SP → Prop} {F : List SP} {w : World} (hf : P.funcs[f]? = some fn) (hb : fn.body = some c)
    (h : Ret ⟨P, f, fn, fn.ntmps, R, F, w.os, w.tape, w.output⟩ [.code c] { tmps := args ++ Array.replicate (fn.ntmps - args.size) undef, defers := [] } w) :
    Calls P f args w fun e w' => ∃ v Q, e = .returned v ∧ R v Q ∧ w'.os = w.os ∧ w'.tape = w.tape ∧ w'.output = w.output ∧ SatW (Q ++ F) w' := by
  intro cs
  obtain ⟨e, w', fr, ⟨v, Q, h1, h2, h3, h4, h5, h6⟩, hc, hfn, hl⟩ := h cs
  have henter : Frame.enter P f args .normal = (base ⟨P, f, fn, fn.ntmps, R, F, w.os, w.tape, w.output⟩).at { tmps := args ++ Array.replicate (fn.ntmps - args.size) undef, defers := [] } [.code c] := by
    simp [Frame.enter, Frame.at, hf, hb, base]
  rw [henter]
  exact ⟨e, w', fr, ⟨v, Q, h1, h2, h3, h4, h5, h6⟩, hc, hfn, hl⟩
theorem look_argG (β : Nat → Nat) : ∀ (vs : List SV) (k s : Nat) (x : SV), look (argG k vs) s = some x → k ≤ s ∧ (vs.map (SV.den β))[s - k]? = some (x.den β)
  | [], k, s, x, h => by cases h
  | v :: r, k, s, x, h => by
    simp only [argG, look_cons] at h
    by_cases e : k = s
    · subst e
      simp at h
      subst h
      simp
    · rw [if_neg e] at h
      obtain ⟨h1, h2⟩ := look_argG β r (k + 1) s x h
      refine ⟨by omega, ?_⟩
      rw [show s - k = (s - (k + 1)) + 1 from by omega]
      exact h2

/-- What was there as a region began. -/
def heldS (β0 : Nat → Nat) (m0 : Mem) (g0 : GMem) (F : List SP) : World → Prop := fun w => SatW (memSP β0 m0 ++ (gmSP β0 g0 ++ F)) w
def Shape (s : GS) (m0 : Mem) (g0 : GMem) (n0 : Nat) : Prop := (∃ n1, s.mem = n1 ++ m0 ∧ ∀ e ∈ n1, n0 ≤ e.1) ∧ (∃ n2, s.gm = n2 ++ g0 ∧ ∀ e ∈ n2, n0 ≤ e.1)
theorem Shape.held {g : Cx} {β β0 : Nat → Nat} {s : GS} {L : Res} {a : Act} {w : World} {m0 : Mem} {g0 : GMem} {n0 : Nat} (h : Shape s m0 g0 n0) (hr : RelG g β s L a w) (hag : agree n0 β0 β) (hm : ltM n0 m0) (hg : ltG n0 g0) : heldS β0 m0 g0 (L.map (·.2) ++ g.F) w := by
  obtain ⟨⟨n1, h1, _⟩, n2, h2, _⟩ := h
  have hs := hr.sat'
  rw [h1, h2] at hs
  unfold heldS
  rw [← memSP_agree hag hm, ← gmSP_agree hag hg]
  have e1 : memSP β (n1 ++ m0) = memSP β n1 ++ memSP β m0 := by simp [memSP]
  have e2 : gmSP β (n2 ++ g0) = gmSP β n2 ++ gmSP β g0 := by simp [gmSP]
  rw [e1, e2, List.append_assoc] at hs
  have h3 := hs.app_right.swapHead
  rw [List.append_assoc] at h3
  exact h3.app_right.swapHead
theorem heldIn_held {g : Cx} {β β0 : Nat → Nat} {s : GS} {L : Res} {a : Act} {w : World} {m0 : Mem} {g0 : GMem} {n0 : Nat} (h : heldIn m0 g0 s = true) (hr : RelG g β s L a w) (hag : agree n0 β0 β) (hm : ltM n0 m0) (hg : ltG n0 g0) : heldS β0 m0 g0 (L.map (·.2) ++ g.F) w := by
  simp only [heldIn, Bool.and_eq_true] at h
  unfold heldS
  rw [← memSP_agree hag hm, ← gmSP_agree hag hg]
  have h1 := sameM_ok (fun l => l) β (Y := gmSP β s.gm) h.1 hr.sat'
  have h2 : SatW (memSP β m0 ++ (gmSP β g0 ++ (L.map (·.2) ++ g.F))) w := sameG_ok (fun l => l) β (Y := memSP β m0) h.2 h1
  exact h2
theorem Keeps.shape {s s' : GS} {m0 : Mem} {g0 : GMem} {n0 : Nat} (h : Keeps n0 s s') (hs : Shape s m0 g0 n0) (hm : ltM n0 m0) (hg : ltG n0 g0) : Shape s' m0 g0 n0 :=
  h m0 g0 hs.1 hs.2 (fun e he => (hm e he).1) (fun e he => by have := (hg e he).1; omega)

section
variable {P : Program} {f : Nat} {fn : Func} {R : Value → List SP → Prop} {F : List SP} {os : Os} {tape : Nat → Question → Nat} {output : Array (Nat × ByteArray)} {β : Nat → Nat} {s : GS} {L : Res} {a : Act} {w : World}

theorem at_world (hr : RelG ⟨P, f, fn, fn.ntmps, R, F, os, tape, output⟩ β s L a w) (m0 : Mem) (g0 : GMem) (X : List SP) (w' : World) (h : SatW (memSP β m0 ++ (gmSP β g0 ++ X)) w') :
    RelG ⟨P, f, fn, fn.ntmps, R, X, w'.os, w'.tape, w'.output⟩ β { s with mem := m0, gm := g0 } [] a w' :=
  RelG.mk' hr.defers hr.size hr.env rfl rfl rfl (by simpa using h)

theorem lookR_sound {gl : Gl} {pre : List SP} (hgl : Glob gl pre F) {all : Array Oper} {Q : Exit → Act → World → Prop} {m0 : Mem} {g0 : GMem} {hold : Bool} {n0 : Nat} {β0 : Nat → Nat} {rest : PT} (hr : RelG ⟨P, f, fn, fn.ntmps, R, F, os, tape, output⟩ β s L a w)
    (hag : agree n0 β0 β) (hm : ltM n0 m0) (hg : ltG n0 g0) (hh : hold = true → heldS β0 m0 g0 (L.map (·.2) ++ F) w) {pi : Bool} {env' : Env} {i : Nat} : ∀ {rd : List Nat}, lookR gl P fn.ntmps all s.env m0 g0 hold rd = some (pi, env', i) →
    (∀ a', RelG ⟨P, f, fn, fn.ntmps, R, F, os, tape, output⟩ β { s with env := env' } L a' w → planRunT P all Q (heldS β0 m0 g0 (L.map (·.2) ++ F)) rest false a' w) →
    planRunT P all Q (heldS β0 m0 g0 (L.map (·.2) ++ F)) (mkP pi i rest) false a w
  | [], h, _ => by cases h
  | j :: rd, h, hk => by
    simp only [lookR] at h
    split at h <;> try (cases h; done)
    rename_i o ho
    have ho' : all[j]? = some o := by rw [getL_eq, Array.getElem?_toList] at ho; exact ho
    split at h <;> try (cases h; done)
    rename_i hd
    split at h <;> try (cases h; done)
    · rename_i hgd
      split at h <;> cases h
      rename_i hp
      exact ⟨o, undef, ho', .inr ⟨guardG_no hr hgd, rfl⟩, hk _ (RelG.putE (x := .c (.v undef)) hr hd hp)⟩
    · rename_i hgd
      have hw := guardG_yes hr hgd
      split at h
      · rename_i x hx
        split at h <;> cases h
        rename_i hp
        refine ⟨o, x.den β, ho', .inl ⟨hw, fun w' _ => ?_⟩, hk _ (hr.putE hd hp)⟩
        have h0 := at_world hr [] [] [] w' (SatW.nil w')
        exact outV_ok (pureX_ok h0 o) hx
      · split at h
        · exact lookR_sound hgl hr hag hm hg hh h hk
        · split at h
          · rename_i x hx
            split at h <;> cases h
            rename_i hp
            refine ⟨o, x.den β, ho', .inl ⟨hw, fun w' hw' => ?_⟩, hh rfl, hk _ (hr.putE hd hp)⟩
            have h0 := at_world hr m0 g0 (L.map (·.2) ++ F) w' (by
              rw [memSP_agree hag hm, gmSP_agree hag hg]
              exact hw')
            exact outV_ok (pureX_ok h0 o) hx
          · split at h
            · rename_i v hv
              split at h <;> cases h
              rename_i hp
              refine ⟨o, (ofV v).den β, ho', .inl ⟨hw, fun w' hw' => ?_⟩, hh rfl, hk _ (hr.putE hd hp)⟩
              rw [ofV_den]
              refine globX_ok hr (hgl (memSP β0 m0 ++ (gmSP β0 g0 ++ L.map (·.2))) w' ?_).1 hv
              simpa [heldS] using hw'
            · exact lookR_sound hgl hr hag hm hg hh h hk

theorem callF_run (hng : ∀ (f : Nat) (fn : Func), P.funcs[f]? = some fn → (fn.name == "runtime.NumGoroutine") = false) {f' : Nat} {fn' : Func} {c : Code} (hf : P.funcs[f']? = some fn') (hb : fn'.body = some c) (ars : Array Value) (w : World) : (callFunc f' ars).run P w = .ok (.enter f' ars) w := by
  have hname : ¬ fn'.name = "runtime.NumGoroutine" := by simpa using hng _ _ hf
  simp [callFunc, hf, hname, hb]

/-- Behind a call: the caller's state. -/
theorem back (hr : RelG ⟨P, f, fn, fn.ntmps, R, F, os, tape, output⟩ β s L a w) (hb : Bd s) {β' : Nat → Nat} (hag : agree s.nl β β') {t : GS} {w' : World} (h1 : w'.os = w.os) (h2 : w'.tape = w.tape) (h3 : w'.output = w.output)
    (hs : SatW ((memSP β' t.mem ++ (gmSP β' t.gm ++ [])) ++ (L.map (·.2) ++ F)) w') : RelG ⟨P, f, fn, fn.ntmps, R, F, os, tape, output⟩ β' ⟨s.env, t.mem, t.gm, t.nl, t.low⟩ L a w' := by
  have h0 := hr.agree hb hag
  refine RelG.mk' h0.defers h0.size h0.env (h1.trans h0.os) (h2.trans h0.tape) (h3.trans h0.output) ?_
  rw [List.append_nil, List.append_assoc] at hs
  exact hs
end

theorem slOf_ok {P : Program} {f : Nat} {fn : Func} {R : Value → List SP → Prop} {F : List SP} {os : Os} {tape : Nat → Question → Nat} {output : Array (Nat × ByteArray)} {β : Nat → Nat} {s : GS} {L : Res} {a : Act} {w : World}
    (hr : RelG ⟨P, f, fn, fn.ntmps, R, F, os, tape, output⟩ β s L a w) {v : SV} {l o : Nat} {ys : List Ce} (h : slOf s v = some (l, o, ys)) :
    ∃ c, v.den β = .slice (some ⟨β l, o, none⟩) ys.length c ∧ ys.length ≤ c ∧ β l < w.heap.size ∧ ∀ j y, ys[j]? = some y → w.cell? ⟨β l, o + j, none⟩ = some (y.den β) := by
  unfold slOf at h
  split at h <;> try (cases h; done)
  · rename_i l' o' n c
    split at h <;> try (cases h; done)
    rename_i hle
    split at h <;> try (cases h; done)
    rename_i t cs hl
    split at h <;> cases h
    obtain ⟨c1, c2⟩ := cutL_spec _ _ _ _ (by assumption)
    have hb := Rel.block hr hl
    refine ⟨c, by rw [c1]; rfl, by rw [c1]; simpa using hle, (Array.getElem?_eq_some_iff.1 hb).1, fun j y hy => ?_⟩
    have hj : j < n := by have := (List.getElem?_eq_some_iff.1 hy).1; omega
    rw [Rel.cell hr hl, c2 j hj, hy]; rfl
  · rename_i l' o' n e
    split at h <;> try (cases h; done)
    rename_i et nt sz cs hl
    split at h <;> try (cases h; done)
    rename_i hle
    split at h <;> cases h
    obtain ⟨c1, c2⟩ := cutL_spec _ _ _ _ (by assumption)
    obtain ⟨cur, hg⟩ := hr.gr hl
    have hle' : n + e ≤ nt := by simpa using hle
    have hcap := hg.cap
    refine ⟨β (l + 1) - e, by rw [c1]; rfl, by rw [c1]; omega, (Array.getElem?_eq_some_iff.1 hg.blk).1, fun j y hy => ?_⟩
    have hj : j < n := by have := (List.getElem?_eq_some_iff.1 hy).1; omega
    exact hg.cell ((c2 j hj).trans hy)
theorem strCe_ok : ∀ {ys : List Ce} {xs : List ByteArray}, strCe ys = some xs → ys = xs.map fun b => .v (.string b)
  | [], xs, h => by simp only [strCe, Option.some.injEq] at h; subst h; rfl
  | y :: r, xs, h => by
    unfold strCe at h
    split at h <;> try (cases h; done)
    · rename_i e; cases e
    · rename_i b r' e
      cases e
      split at h <;> cases h
      rename_i l hl
      rw [strCe_ok hl]; rfl
/-- What strings.Join does. -/
def JnOk (P : Program) (jn : Nat) : Prop :=
  Nat.ble jn 999999 = true → (∀ (ars : Array Value) (w : World), (callFunc jn ars).run P w = .ok (.enter jn ars) w) ∧
  ∀ (bk o c : Nat) (xs : List ByteArray) (sep : ByteArray) (w : World), (∀ (j : Nat) x, xs[j]? = some x → w.cell? ⟨bk, o + j, none⟩ = some (.string x)) → bk < w.heap.size → xs.length ≤ 140737488355328 → xs.length ≤ c → (Lib.join (xs.map (·.data.toList)) sep.data.toList).length ≤ 140737488355328 →
    Calls P jn #[.slice (some ⟨bk, o, none⟩) xs.length c, .string sep] w fun e w' => e = .returned (.string ⟨(Lib.join (xs.map (·.data.toList)) sep.data.toList).toArray⟩) ∧ Below w.heap.size w w'
theorem joinX_ok {P : Program} {f : Nat} {fn : Func} {R : Value → List SP → Prop} {F : List SP} {os : Os} {tape : Nat → Question → Nat} {output : Array (Nat × ByteArray)} {β : Nat → Nat} {s : GS} {L : Res} {a : Act} {w : World}
    (hr : RelG ⟨P, f, fn, fn.ntmps, R, F, os, tape, output⟩ β s L a w) {jn f' : Nat} {vs : List SV} {b : ByteArray} (hj : JnOk P jn) (h : joinX jn s f' vs = some b) :
    (∀ (ars : Array Value) (w : World), (callFunc f' ars).run P w = .ok (.enter f' ars) w) ∧ Calls P f' (vs.map (SV.den β)).toArray w fun e w' => e = .returned (.string b) ∧ Below w.heap.size w w' := by
  unfold joinX at h
  split at h <;> try (cases h; done)
  rename_i hf
  obtain rfl : f' = jn := Nat.eq_of_beq_eq_true hf
  split at h <;> try (cases h; done)
  rename_i hjn
  replace hj := hj hjn
  refine ⟨hj.1, ?_⟩
  split at h <;> try (cases h; done)
  rename_i v sep
  split at h <;> try (cases h; done)
  rename_i l o ys hs
  split at h <;> try (cases h; done)
  rename_i xs hx
  split at h <;> try (cases h; done)
  rename_i h1
  split at h <;> try (cases h; done)
  rename_i h2
  cases h
  obtain ⟨c, e1, e2, e3, e4⟩ := slOf_ok hr hs
  have e5 := strCe_ok hx
  have e6 : ys.length = xs.length := by rw [e5, List.length_map]
  have := hj.2 (β l) o c xs sep w (fun j x hxj => by
    have := e4 j (.v (.string x)) (by rw [e5, List.getElem?_map, hxj]; rfl)
    exact this) e3 (by simpa using h1) (by omega) (by simpa using h2)
  have e7 : ([v, SV.c (.v (.string sep))].map (SV.den β)).toArray = #[.slice (some ⟨β l, o, none⟩) xs.length c, .string sep] := by
    simp only [List.map_cons, List.map_nil, e1, e6]
    rfl
  rw [e7]
  exact this

def GxOk (gl : Gl) (pre : List SP) (P : Program) (fn : Func) (s : GS) (c : GC) (r : GR) : Prop :=
  ∀ (f : Nat) (R : Value → List SP → Prop) (F : List SP) (os : Os) (tape : Nat → Question → Nat) (output : Array (Nat × ByteArray)) (β : Nat → Nat) (L : Res) (a : Act) (w : World), P.funcs[f]? = some fn → Glob gl pre F →
    RelG ⟨P, f, fn, fn.ntmps, R, F, os, tape, output⟩ β s L a w → Bd s →
    match c with
    | .run k => (∀ β', agree s.nl β β' → R (r.v.den β') (memSP β' r.s.mem ++ (gmSP β' r.s.gm ++ L.map (·.2)))) → Ret ⟨P, f, fn, fn.ntmps, R, F, os, tape, output⟩ k a w
    | .ops all rest k => (∀ β', agree s.nl β β' → R (r.v.den β') (memSP β' r.s.mem ++ (gmSP β' r.s.gm ++ L.map (·.2)))) → OpsC ⟨P, f, fn, fn.ntmps, R, F, os, tape, output⟩ all rest k a w
    | .dr all _ m0 g0 n0 hold => ∀ (β0 : Nat → Nat) (Q : Exit → Act → World → Prop), agree n0 β0 β → n0 ≤ s.nl → ltM n0 m0 → ltG n0 g0 → (hold = true → heldIn m0 g0 s = true) →
        (∀ β' a' w', agree s.nl β β' → RelG ⟨P, f, fn, fn.ntmps, R, F, os, tape, output⟩ β' r.s L a' w' → Q .normal a' w') → planRunT P all Q (heldS β0 m0 g0 (L.map (·.2) ++ F)) r.plan false a w
    | .al _ all _ m0 g0 n0 hold => ∀ (β0 : Nat → Nat) (Q : Exit → Act → World → Prop), agree n0 β0 β → n0 ≤ s.nl → ltM n0 m0 → ltG n0 g0 → (hold = true → heldIn m0 g0 s = true) →
        (∀ β' a' w', agree s.nl β β' → RelG ⟨P, f, fn, fn.ntmps, R, F, os, tape, output⟩ β' r.s L a' w' → Q .normal a' w') → ∀ b, planRunT P all Q (heldS β0 m0 g0 (L.map (·.2) ++ F)) r.plan b a w
    | .ef all i => ∃ o, all[i]? = some o ∧ Region.wanted o (yielded all a.tmps) = true ∧ ∀ (N : Act → World → Prop) (Q : Exit → Act → World → Prop),
        (∀ β' a' w', agree s.nl β β' → RelG ⟨P, f, fn, fn.ntmps, R, F, os, tape, output⟩ β' r.s L a' w' → N a' w') → o.wp P a w N Q

theorem ret_done {P : Program} {f : Nat} {fn : Func} {R : Value → List SP → Prop} {F : List SP} {os : Os} {tape : Nat → Question → Nat} {output : Array (Nat × ByteArray)} {β : Nat → Nat} {s : GS} {L : Res} {a : Act} {w : World} {k : List Item} {vs : List SV} {v : SV}
    (hf : P.funcs[f]? = some fn) (hr : RelG ⟨P, f, fn, fn.ntmps, R, F, os, tape, output⟩ β s L a w) (hk : ∀ cs, step P (lone ((base ⟨P, f, fn, fn.ntmps, R, F, os, tape, output⟩).at a k) cs w) = .next (lone { (base ⟨P, f, fn, fn.ntmps, R, F, os, tape, output⟩).at a k with mode := .returning } cs w))
    (hv : retG P s.env s.mem fn.results.toList = some vs) (ho : oneG vs = some v) (hR : R (v.den β) (memSP β s.mem ++ (gmSP β s.gm ++ L.map (·.2)))) : Ret ⟨P, f, fn, fn.ntmps, R, F, os, tape, output⟩ k a w :=
  Ret.leave (fr := default) hf hr.defers hk (retG_ok hr hv ho) ⟨_, _, rfl, hR, hr.os, hr.tape, hr.output, (by
    have := hr.sat'
    rw [List.append_assoc, List.append_assoc]
    exact this)⟩ rfl

set_option maxHeartbeats 8000000 in
theorem gx_sound {P : Program} {kn : Kn} (hex : ExOk P kn.ex kn.pre) (hjn : JnOk P kn.jn) (hng : ∀ (f : Nat) (fn : Func), P.funcs[f]? = some fn → (fn.name == "runtime.NumGoroutine") = false) (hmix : P.follows .mixedOrders = true) :
    ∀ (m : Nat) (fn : Func) (s : GS) (c : GC) (r : GR), gx P kn m fn s c = some r → GxOk kn.gl kn.pre P fn s c r
  | 0, _, _, _, _, h => by cases h
  | m + 1, fn, s, .run k, r, h => by
    have ih := gx_sound (P := P) (kn := kn) hex hjn hng hmix m
    have ig := gx_grow (P := P) (kn := kn) hex m
    intro f R F os tape output β L a w hf hgl hr hb hR
    simp only [gx] at h
    split at h <;> try (cases h; done)
    · exact Ret.one (fun cs => step_skip) (ih _ _ _ _ h f R F os tape output β L a w hf hgl hr hb hR)
    · exact Ret.one (fun cs => step_label) (ih _ _ _ _ h f R F os tape output β L a w hf hgl hr hb hR)
    · exact Ret.one (fun cs => step_inBlock) (ih _ _ _ _ h f R F os tape output β L a w hf hgl hr hb hR)
    · exact Ret.one (fun cs => step_lone_go (by simp [stepG, stepG.exec, Frame.at])) (ih _ _ _ _ h f R F os tape output β L a w hf hgl hr hb hR)
    · exact Ret.one (fun cs => step_seq) (ih _ _ _ _ h f R F os tape output β L a w hf hgl hr hb hR)
    · exact Ret.one (fun cs => step_block) (ih _ _ _ _ h f R F os tape output β L a w hf hgl hr hb hR)
    · exact Ret.one (fun cs => step_lone_go (by simp [stepG, stepG.exec, Frame.at])) (ih _ _ _ _ h f R F os tape output β L a w hf hgl hr hb hR)
    · exact Ret.one (fun cs => step_loop) (ih _ _ _ _ h f R F os tape output β L a w hf hgl hr hb hR)
    · exact Ret.one (fun cs => step_inLoop) (ih _ _ _ _ h f R F os tape output β L a w hf hgl hr hb hR)
    · split at h <;> try (cases h; done)
      rename_i k' hk
      exact Ret.one (fun cs => step_exit hk) (ih _ _ _ _ h f R F os tape output β L a w hf hgl hr hb hR)
    · split at h <;> try (cases h; done)
      · rename_i hc
        exact Ret.one (fun cs => step_cond (t := true) (nrm_evn hr hc)) (ih _ _ _ _ h f R F os tape output β L a w hf hgl hr hb hR)
      · rename_i hc
        exact Ret.one (fun cs => step_cond (t := false) (nrm_evn hr hc)) (ih _ _ _ _ h f R F os tape output β L a w hf hgl hr hb hR)
    · exact Ret.region (ih _ _ _ _ h f R F os tape output β L a w hf hgl hr hb hR)
    · rename_i ri ops k
      split at h <;> try (cases h; done)
      rename_i q hq
      split at h <;> try (cases h; done)
      rename_i hok
      split at h <;> try (cases h; done)
      rename_i hsel
      have hg := ig _ _ _ _ hq hb (heldOf_lt hb.mem hb.gm)
      have hr' : RelG ⟨P, f, fn, fn.ntmps, R, F, os, tape, output⟩ β s L a { w with drawn := w.drawn + 1 } := Rel.world hr rfl rfl rfl rfl
      refine Ret.code (wp_region_any hmix (wpX_any _ _ _ _ (S := heldS β (heldOf P ops s).1 (heldOf P ops s).2 (L.map (·.2) ++ F)) (late := isLateT q.plan) ?_))
      refine (plan_soundT hsel (fun c a w h => h) q.plan).1 _ _ a _ hok ?_
      refine ih _ _ _ _ hq f R F os tape output β L a _ hf hgl hr' hb β (Qn ⟨P, f, fn, fn.ntmps, R, F, os, tape, output⟩ k) (agree.refl _ _) (Nat.le_refl _) (heldOf_lt hb.mem hb.gm).1 (heldOf_lt hb.mem hb.gm).2 (fun h => h) ?_
      intro β' a' w' hag hr2
      exact ih _ _ _ _ h f R F os tape output β' L a' w' hf hgl hr2 (hg.grow.bd hb) (fun β'' h2 => hR β'' (hag.trans h2 hg.grow.nl))
    · split at h <;> try (cases h; done)
      rename_i vs hv
      split at h <;> cases h
      rename_i v ho
      exact ret_done hf hr (fun cs => step_ret) hv ho (hR β (agree.refl _ _))
    · split at h <;> try (cases h; done)
      rename_i vs hv
      split at h <;> cases h
      rename_i v ho
      exact ret_done hf hr (fun cs => step_end) hv ho (hR β (agree.refl _ _))
  | m + 1, fn, s, .ops all [] k, r, h => by
    have ih := gx_sound (P := P) (kn := kn) hex hjn hng hmix m
    intro f R F os tape output β L a w hf hgl hr hb hR
    simp only [gx] at h
    exact ih _ _ _ _ h f R F os tape output β L a w hf hgl hr hb hR
  | m + 1, fn, s, .ops all (o :: rest) k, r, h => by
    have ih := gx_sound (P := P) (kn := kn) hex hjn hng hmix m
    have ig := gx_grow (P := P) (kn := kn) hex m
    intro f R F os tape output β L a w hf hgl hr hb hR
    simp only [gx] at h
    split at h <;> try (cases h; done)
    · rename_i hg
      split at h <;> try (cases h; done)
      rename_i hd
      split at h <;> try (cases h; done)
      rename_i env hp
      have h1 : Grow s { s with env := env } := Grow.env (x := .c (.v undef)) (fun _ => trivial) hp
      exact OpsC.skipped (guardG_no hr hg) (ih _ _ _ _ h f R F os tape output β L _ w hf hgl (RelG.putE (x := .c (.v undef)) hr hd hp) (h1.bd hb) hR)
    · rename_i hg
      have hw := guardG_yes hr hg
      refine OpsC.wanted hw ?_
      split at h
      · rename_i x hx
        split at h <;> try (cases h; done)
        rename_i hd
        split at h <;> try (cases h; done)
        rename_i env hp
        have h1 : Grow s { s with env := env } := Grow.env (fun b => outV_lt (pureX_lt b.env b.mem b.gm o.op) hx) hp
        exact wp_value (outV_ok (pureX_ok hr o) hx) (ih _ _ _ _ h f R F os tape output β L _ w hf hgl (hr.putE hd hp) (h1.bd hb) hR)
      · split at h
        · rename_i v hv
          split at h <;> try (cases h; done)
          rename_i hd
          split at h <;> try (cases h; done)
          rename_i env hp
          have h1 : Grow s { s with env := env } := Grow.env (fun _ => ofV_lt _ v) hp
          have hgw : GlobW kn.gl w := (hgl (memSP β s.mem ++ (gmSP β s.gm ++ L.map (·.2))) w (by
            have := hr.sat'
            rw [List.append_assoc, List.append_assoc]
            exact this)).1
          refine wp_value (v := (ofV v).den β) ?_ (ih _ _ _ _ h f R F os tape output β L _ w hf hgl (hr.putE hd hp) (h1.bd hb) hR)
          rw [ofV_den]
          exact globX_ok hr hgw hv
        split at h
        · rename_i s' hs
          have h1 := effX_grow hs
          obtain ⟨β', a', w', hag, hr2, hwp⟩ := effX_step (g := ⟨P, f, fn, fn.ntmps, R, F, os, tape, output⟩) hr hb hs
          exact hwp _ _ (ih _ _ _ _ h f R F os tape output β' L a' w' hf hgl hr2 (h1.bd hb) (fun β'' h2 => hR β'' (hag.trans h2 h1.nl)))
        · split at h <;> try (cases h; done)
          rename_i f' vs hc
          split at h <;> try (cases h; done)
          rename_i hd
          have hrun0 := calleeG_ok hr hc
          split at h
          · rename_i x hx
            split at h <;> try (cases h; done)
            rename_i env hp
            have h1 : Grow s { s with env := env } := Grow.env (fun _ => (hex _ _ _ hx).1 _) hp
            rcases (hex _ _ _ hx).2 β with hv | hv
            · exact wp_value (hrun0.trans (hv w)) (ih _ _ _ _ h f R F os tape output β L _ w hf hgl (hr.putE hd hp) (h1.bd hb) hR)
            · show o.wp P a w _ _
              unfold Oper.wp
              rw [hrun0]
              show o.upon P a _ _ ((callFunc f' (vs.map (SV.den β)).toArray).run P w)
              rw [hv.1]
              have hpre : SatW (kn.pre ++ (memSP β s.mem ++ (gmSP β s.gm ++ (L.map (·.2) ++ F)))) w := by
                have h0 := (hgl (memSP β s.mem ++ (gmSP β s.gm ++ L.map (·.2))) w (by
                  have := hr.sat'
                  rw [List.append_assoc, List.append_assoc]
                  exact this)).2
                rw [List.append_assoc, List.append_assoc] at h0
                exact h0
              refine (hv.2 (memSP β s.mem ++ (gmSP β s.gm ++ (L.map (·.2) ++ F))) w hpre).mono ?_
              rintro e w' ⟨v, Q, rfl, rfl, e1, e2, e3, e4⟩
              have hr2 : RelG ⟨P, f, fn, fn.ntmps, R, F, os, tape, output⟩ β s L a w' := RelG.mk' hr.defers hr.size hr.env (e1.trans hr.os) (e2.trans hr.tape) (e3.trans hr.output) e4.app_right
              exact ih _ _ _ _ h f R F os tape output β L _ w' hf hgl (hr2.putE hd hp) (h1.bd hb) hR
          · split at h
            · rename_i b hjx
              split at h <;> try (cases h; done)
              rename_i env hp
              have h1 : Grow s { s with env := env } := Grow.env (x := .c (.v (.string _))) (fun _ => trivial) hp
              obtain ⟨hen, hcl⟩ := joinX_ok hr hjn hjx
              show o.wp P a w _ _
              unfold Oper.wp
              rw [hrun0]
              show o.upon P a _ _ ((callFunc f' (vs.map (SV.den β)).toArray).run P w)
              rw [hen]
              refine hcl.mono ?_
              rintro e w' ⟨rfl, hbw⟩
              have hle : PH.le (Ytngfadijcpnblaa.hw w) (Ytngfadijcpnblaa.hw w') := fun n o hn => by
                have hl : n < w.heap.size := (Array.getElem?_eq_some_iff.1 hn).1
                show w'.heap[n]? = some o
                rw [hbw.block n hl]; exact hn
              have hr2 : RelG ⟨P, f, fn, fn.ntmps, R, F, os, tape, output⟩ β s L a w' := RelG.mk' hr.defers hr.size hr.env (hbw.os.trans hr.os) (hbw.tape.trans hr.tape) (hbw.output.trans hr.output) (hr.sat'.more hle)
              exact ih _ _ _ _ h f R F os tape output β L _ w' hf hgl (RelG.putE (x := .c (.v (.string b))) hr2 hd hp) (h1.bd hb) hR
            split at h <;> try (cases h; done)
            rename_i fn' hf'
            split at h <;> try (cases h; done)
            rename_i c hbd
            split at h <;> try (cases h; done)
            rename_i hle
            split at h <;> try (cases h; done)
            rename_i q hq
            split at h <;> try (cases h; done)
            rename_i env hp
            have hl : ltE s.nl (argG 0 vs) := argG_lt vs 0 (calleeG_lt hb.env hc)
            have h1 := ig _ _ _ _ hq ⟨hl, hb.mem, hb.gm⟩ trivial
            have h2 : Grow s ⟨env, q.s.mem, q.s.gm, q.s.nl, minN s.low q.s.low⟩ := Grow.call (s := s) h1.grow (fun _ => hl) (fun b b' => (b.env.mono h1.grow.nl).putO (h1.v ⟨hl, b.mem, b.gm⟩) hp)
            have hle' : vs.length ≤ fn'.ntmps := by simpa using hle
            have hrel : RelG ⟨P, f', fn', fn'.ntmps, fun v Q => ∃ β', agree s.nl β β' ∧ v = q.v.den β' ∧ Q = memSP β' q.s.mem ++ (gmSP β' q.s.gm ++ []), L.map (·.2) ++ F, w.os, w.tape, w.output⟩ β ⟨argG 0 vs, s.mem, s.gm, s.nl, s.nl⟩ [] { tmps := (vs.map (SV.den β)).toArray ++ Array.replicate (fn'.ntmps - (vs.map (SV.den β)).toArray.size) undef, defers := [] } w := by
              refine RelG.mk' rfl (by simp; omega) ?_ rfl rfl rfl (by simpa using hr.sat')
              intro t x hx
              obtain ⟨_, h2⟩ := look_argG β vs 0 t x hx
              rw [Nat.sub_zero] at h2
              have hlt : t < (vs.map (SV.den β)).length := (List.getElem?_eq_some_iff.1 h2).1
              rw [Array.getElem?_append_left (by simpa using hlt)]
              simpa using h2
            have hcalls := calls_of_ret hf' hbd (ih _ _ _ _ hq f' _ _ _ _ _ β [] _ w hf' (Glob.app hgl) hrel ⟨hl, hb.mem, hb.gm⟩ (fun β' h3 => ⟨β', h3, rfl, rfl⟩))
            show o.wp P a w _ _
            unfold Oper.wp
            rw [hrun0]
            show o.upon P a _ _ ((callFunc f' (vs.map (SV.den β)).toArray).run P w)
            rw [callF_run hng hf' hbd]
            refine hcalls.mono ?_
            rintro e w' ⟨v, Q, rfl, ⟨β', hag, rfl, rfl⟩, e1, e2, e3, e4⟩
            have hr2 := (back hr hb hag (t := q.s) e1 e2 e3 e4).putE hd hp
            exact ih _ _ _ _ h f R F os tape output β' L _ w' hf hgl hr2 (h2.bd hb) (fun β'' h3 => hR β'' (hag.trans h3 h2.nl))
  | m + 1, fn, s, .dr all listed m0 g0 n0 hold, r, h => by
    have ih := gx_sound (P := P) (kn := kn) hex hjn hng hmix m
    have ig := gx_grow (P := P) (kn := kn) hex m
    intro f R F os tape output β L a w hf hgl hr hb β0 Q hag0 hn0 hm0 hg0 hsh hQ
    have hd1 : ltM s.nl m0 := hm0.mono hn0
    have hd2 : ltG s.nl g0 := hg0.mono hn0
    simp only [gx] at h
    split at h
    · cases h
      exact hQ β a w (agree.refl _ _) hr
    · split at h
      · rename_i pi env i hl
        split at h <;> cases h
        rename_i q hq
        have h1 := lookR_grow (fun _ => hd1) (fun _ => hd2) hl
        refine lookR_sound hgl hr hag0 hm0 hg0 (fun hh => heldIn_held (hsh hh) hr hag0 hm0 hg0) hl ?_
        intro a' hr2
        exact ih _ _ _ _ hq f R F os tape output β L a' w hf hgl hr2 (h1.bd hb) β0 Q hag0 hn0 hm0 hg0 hsh (fun β' a'' w' h2 h3 => hQ β' a'' w' h2 h3)
      · exact ih _ _ _ _ h f R F os tape output β L a w hf hgl hr hb β0 Q hag0 hn0 hm0 hg0 hsh hQ false
  | m + 1, fn, s, .al cands all listed m0 g0 n0 hold, r, h => by
    have ih := gx_sound (P := P) (kn := kn) hex hjn hng hmix m
    have ig := gx_grow (P := P) (kn := kn) hex m
    intro f R F os tape output β L a w hf hgl hr hb β0 Q hag0 hn0 hm0 hg0 hsh hQ
    have hd1 : ltM s.nl m0 := hm0.mono hn0
    have hd2 : ltG s.nl g0 := hg0.mono hn0
    simp only [gx] at h
    split at h <;> try (cases h; done)
    rename_i i cs
    split at h <;> try (cases h; done)
    rename_i e he
    split at h <;> try (cases h; done)
    rename_i q hq
    have hb0 : Bd { s with low := s.nl } := ⟨hb.env, hb.mem, hb.gm⟩
    have h0 := (ig _ _ _ _ he hb0 trivial).grow
    have h1 : Grow s { e.s with low := minN s.low e.s.low } := Grow.lowered h0
    have step : ∀ (hQ' : ∀ β' a' w', agree s.nl β β' → RelG ⟨P, f, fn, fn.ntmps, R, F, os, tape, output⟩ β' q.s L a' w' → Q .normal a' w'),
        ∃ o, all[i]? = some o ∧ Region.wanted o (yielded all a.tmps) = true ∧ o.wp P a w (fun a' w' => ((keepIn hold m0 g0 e.s) = true → heldS β0 m0 g0 (L.map (·.2) ++ F) w → heldS β0 m0 g0 (L.map (·.2) ++ F) w') ∧ planRunT P all Q (heldS β0 m0 g0 (L.map (·.2) ++ F)) q.plan false a' w') Q := by
      intro hQ'
      obtain ⟨o, ho, hw, hwp⟩ := ih _ _ _ _ he f R F os tape output β L a w hf hgl (hr : RelG _ β { s with low := s.nl } L a w) hb0
      refine ⟨o, ho, hw, hwp _ _ ?_⟩
      intro β' a' w' hag hr2
      have hag' : agree n0 β0 β' := hag0.trans hag hn0
      have hsh' : (keepIn hold m0 g0 e.s) = true → heldIn m0 g0 { e.s with low := minN s.low e.s.low } = true := by
        intro hk
        unfold keepIn at hk
        split at hk
        · exact hk
        · cases hk
      have hr3 : RelG ⟨P, f, fn, fn.ntmps, R, F, os, tape, output⟩ β' { e.s with low := minN s.low e.s.low } L a' w' := hr2
      refine ⟨fun hk _ => heldIn_held (hsh' hk) hr3 hag' hm0 hg0, ?_⟩
      exact ih _ _ _ _ hq f R F os tape output β' L a' w' hf hgl hr3 (h1.bd hb) β0 Q hag' (Nat.le_trans hn0 h1.nl) hm0 hg0 hsh' (fun β'' a'' w'' h2 h3 => hQ' β'' a'' w'' (agree.trans hag h2 h1.nl) h3)
    split at h
    · cases h
      intro b
      exact ⟨step hQ, trivial⟩
    · split at h <;> try (cases h; done)
      rename_i q2 hq2
      split at h <;> cases h
      rename_i hs
      intro b
      refine ⟨step hQ, ?_⟩
      refine ih _ _ _ _ hq2 f R F os tape output β L a w hf hgl hr hb β0 Q hag0 hn0 hm0 hg0 hsh ?_ true
      intro β' a' w' hag hr2
      obtain ⟨h3, h4⟩ := sameS_ok hs hr2
      exact hQ _ a' w' (hag.trans h4 (Nat.le_refl _)) h3
  | m + 1, fn, s, .ef all i, r, h => by
    have ih := gx_sound (P := P) (kn := kn) hex hjn hng hmix m
    have ig := gx_grow (P := P) (kn := kn) hex m
    intro f R F os tape output β L a w hf hgl hr hb
    simp only [gx] at h
    split at h <;> try (cases h; done)
    rename_i o ho
    have ho' : all[i]? = some o := by rw [getL_eq, Array.getElem?_toList] at ho; exact ho
    split at h <;> try (cases h; done)
    rename_i hgd
    have hw := guardG_yes hr hgd
    split at h
    · rename_i s' hs
      cases h
      obtain ⟨β', a', w', hag, hr2, hwp⟩ := effX_step (g := ⟨P, f, fn, fn.ntmps, R, F, os, tape, output⟩) hr hb hs
      exact ⟨o, ho', hw, fun N Q hN => hwp _ _ (hN β' a' w' hag hr2)⟩
    · split at h <;> try (cases h; done)
      rename_i f' vs hc
      split at h <;> try (cases h; done)
      rename_i hd
      split at h <;> try (cases h; done)
      rename_i fn' hf'
      have hrun0 := calleeG_ok hr hc
      split at h <;> try (cases h; done)
      rename_i c hbd
      split at h <;> try (cases h; done)
      rename_i hle
      split at h <;> try (cases h; done)
      rename_i q hq
      split at h <;> cases h
      rename_i env hp
      have hl : ltE s.nl (argG 0 vs) := argG_lt vs 0 (calleeG_lt hb.env hc)
      have hle' : vs.length ≤ fn'.ntmps := by simpa using hle
      have hrel : RelG ⟨P, f', fn', fn'.ntmps, fun v Q => ∃ β', agree s.nl β β' ∧ v = q.v.den β' ∧ Q = memSP β' q.s.mem ++ (gmSP β' q.s.gm ++ []), L.map (·.2) ++ F, w.os, w.tape, w.output⟩ β ⟨argG 0 vs, s.mem, s.gm, s.nl, s.nl⟩ [] { tmps := (vs.map (SV.den β)).toArray ++ Array.replicate (fn'.ntmps - (vs.map (SV.den β)).toArray.size) undef, defers := [] } w := by
        refine RelG.mk' rfl (by simp; omega) ?_ rfl rfl rfl (by simpa using hr.sat')
        intro t x hx
        obtain ⟨_, h2⟩ := look_argG β vs 0 t x hx
        rw [Nat.sub_zero] at h2
        have hlt : t < (vs.map (SV.den β)).length := (List.getElem?_eq_some_iff.1 h2).1
        rw [Array.getElem?_append_left (by simpa using hlt)]
        simpa using h2
      have hcalls := calls_of_ret hf' hbd (ih _ _ _ _ hq f' _ _ _ _ _ β [] _ w hf' (Glob.app hgl) hrel ⟨hl, hb.mem, hb.gm⟩ (fun β' h3 => ⟨β', h3, rfl, rfl⟩))
      refine ⟨o, ho', hw, fun N Q hN => ?_⟩
      show o.wp P a w _ _
      unfold Oper.wp
      rw [hrun0]
      show o.upon P a _ _ ((callFunc f' (vs.map (SV.den β)).toArray).run P w)
      rw [callF_run hng hf' hbd]
      refine hcalls.mono ?_
      rintro e w' ⟨v, Q', rfl, ⟨β', hag, rfl, rfl⟩, e1, e2, e3, e4⟩
      exact hN β' _ w' hag ((back hr hb hag (t := q.s) e1 e2 e3 e4).putE hd hp)
end Go.Proofs.Ytngfadijcpnblaa

/- The evaluator's word on a whole call. -/
namespace Go.Proofs.Ytngfadijcpnblaa
open Go.RowKit

/-- What is true. -/
def isTrueSV : SV → Bool
  | .c (.v (.bool b)) => b
  | .kb b => b
  | _ => false
theorem isTrueSV_den {x : SV} (h : isTrueSV x = true) (β : Nat → Nat) : x.den β = .bool true := by
  unfold isTrueSV at h
  split at h
  · subst h; rfl
  · subst h; rfl
  · cases h
def gxFn (P : Program) (kn : Kn) (m : Nat) (f : Nat) (vs : List SV) : Option GR :=
  match P.funcs[f]? with
  | some fn => match fn.body with
    | some c => match Nat.ble vs.length fn.ntmps with
      | true => gx P kn m fn ⟨argG 0 vs, [], [], 0, 0⟩ (.run [.code c])
      | false => none
    | none => none
  | none => none
def gxTrue (P : Program) (kn : Kn) (m : Nat) (f : Nat) (vs : List SV) : Bool :=
  match gxFn P kn m f vs with
  | some r => isTrueSV r.v
  | none => false
/-- No function that the machine runs by itself. -/
def noNg (P : Program) : Bool := P.funcs.toList.all fun fn => !(fn.name == "runtime.NumGoroutine")
theorem noNg_ok {P : Program} (h : noNg P = true) (f : Nat) (fn : Func) (hf : P.funcs[f]? = some fn) : (fn.name == "runtime.NumGoroutine") = false := by
  have := List.all_eq_true.1 h fn (by
    have := List.mem_of_getElem? (l := P.funcs.toList) (i := f) (a := fn) (by simpa using hf)
    exact this)
  simpa using this

/-- What holds as the call begins has the variables in it, and what stays. -/
def GlobP (gl : Gl) (pre : List SP) (Pre : List SP) : Prop := ∀ F, Glob gl pre (Pre ++ F)
theorem GlobP.nil (Pre : List SP) : GlobP [] [] Pre := fun F => Glob.nil _
/-- A memory that stays, with the variables in it. -/
theorem GlobP.ro {gl : Gl} {m : PH} (h : ∀ e ∈ gl, blkAt m e.1 e.2) : GlobP gl [roAll m] [roAll m] := by
  intro F X w hs
  have h1 : SatW (roAll m :: (X ++ F)) w := hs.perm List.perm_middle
  refine ⟨fun e he => (h e he).mono h1.stays, ?_⟩
  have h2 := h1.dup (pers_roAll m)
  exact h2.perm (List.Perm.cons _ List.perm_middle.symm)
theorem gxFn_ok {P : Program} {kn : Kn} (hex : ExOk P kn.ex kn.pre) (hjn : JnOk P kn.jn) (hng : noNg P = true) (hmix : P.follows .mixedOrders = true) {m f : Nat} {vs : List SV} {r : GR} (h : gxFn P kn m f vs = some r) (hl : ∀ v ∈ vs, v.lt 0) (Pre : List SP) (hgl : GlobP kn.gl kn.pre Pre) :
    FnOk P f (vs.map (SV.den fun _ => 0)) Pre fun v Q => ∃ β, v = r.v.den β ∧ Q = memSP β r.s.mem ++ (gmSP β r.s.gm ++ Pre) := by
  unfold gxFn at h
  split at h <;> try (cases h; done)
  rename_i fn hf
  split at h <;> try (cases h; done)
  rename_i c hb
  split at h <;> try (cases h; done)
  rename_i hle
  have hle' : vs.length ≤ fn.ntmps := by simpa using hle
  refine ⟨callF_run (noNg_ok hng) hf hb, fun F w hs => ?_⟩
  have hb0 : Bd ⟨argG 0 vs, [], [], 0, 0⟩ := ⟨argG_lt vs 0 hl, (fun _ h => (by cases h)), (fun _ h => (by cases h))⟩
  have hrel : RelG ⟨P, f, fn, fn.ntmps, fun v Q => ∃ β, v = r.v.den β ∧ Q = memSP β r.s.mem ++ (gmSP β r.s.gm ++ []), Pre ++ F, w.os, w.tape, w.output⟩ (fun _ => 0) ⟨argG 0 vs, [], [], 0, 0⟩ [] { tmps := (vs.map (SV.den fun _ => 0)).toArray ++ Array.replicate (fn.ntmps - (vs.map (SV.den fun _ => 0)).toArray.size) undef, defers := [] } w := by
    refine RelG.mk' rfl (by simp; omega) ?_ rfl rfl rfl ?_
    · intro t x hx
      obtain ⟨_, h2⟩ := look_argG (fun _ => 0) vs 0 t x hx
      rw [Nat.sub_zero] at h2
      have hlt : t < (vs.map (SV.den fun _ => 0)).length := (List.getElem?_eq_some_iff.1 h2).1
      rw [Array.getElem?_append_left (by simpa using hlt)]
      simpa using h2
    · simpa [memSP, gmSP] using hs
  refine (calls_of_ret hf hb (gx_sound hex hjn (noNg_ok hng) hmix m fn _ _ _ h f _ _ _ _ _ _ _ _ _ hf (hgl F) hrel hb0 fun β' _ => ⟨β', rfl, rfl⟩)).mono ?_
  rintro e w' ⟨v, Q, rfl, ⟨β, rfl, rfl⟩, e1, e2, e3, e4⟩
  refine ⟨_, _, rfl, ⟨β, rfl, rfl⟩, e1, e2, e3, ?_⟩
  rw [List.append_nil] at e4
  simpa using e4

theorem gxTrue_ok {P : Program} {kn : Kn} (hex : ExOk P kn.ex kn.pre) (hjn : JnOk P kn.jn) (hng : noNg P = true) (hmix : P.follows .mixedOrders = true) {m f : Nat} {vs : List SV} (h : gxTrue P kn m f vs = true) (hl : ∀ v ∈ vs, v.lt 0) (Pre : List SP) (hgl : GlobP kn.gl kn.pre Pre) :
    FnOk P f (vs.map (SV.den fun _ => 0)) Pre fun v _ => v = .bool true := by
  unfold gxTrue at h
  split at h
  · rename_i r hr
    exact (gxFn_ok hex hjn hng hmix hr hl Pre hgl).mono fun v Q ⟨β, h1, _⟩ => h1.trans (isTrueSV_den h β)
  · cases h
end Go.Proofs.Ytngfadijcpnblaa

/- What body-less functions give; the awake of norialaw23, by the evaluator. -/
namespace Go.Proofs.Ytngfadijcpnblaa
open Go.RowKit
set_option maxRecDepth 100000
noncomputable def cmpE : Array Value → Sem Value := Extern.ReflectliteType.method fun t => do Extern.Rtype.noPackHeld "Comparable" t; pure (.bool (← typeInfo t).comparable)
def exE : Nat → List SV → Option SV
  | 58, [.c (.v (.iface 40 _))] => some (.c (.v (.iface 134 (.agg #[.pointer (some ⟨0, 40, none⟩)]))))
  | 91, [.agg [.v (.pointer (some ⟨0, 40, none⟩))]] => some (.c (.v (.bool true)))
  | _, _ => none
theorem ext58 : ∃ fn, Try.prog.funcs[58]? = some fn ∧ (fn.name == "runtime.NumGoroutine") = false ∧ fn.body.isNone = true ∧ Extern.findNext fn = none ∧ Extern.find fn = some Extern.ReflectliteType.typeOf :=
  ⟨_, Try.func58, by kernel_rfl, by kernel_rfl, by kernel_rfl, by kernel_rfl⟩
theorem ext91 : ∃ fn, Try.prog.funcs[91]? = some fn ∧ (fn.name == "runtime.NumGoroutine") = false ∧ fn.body.isNone = true ∧ Extern.findNext fn = none ∧ Extern.find fn = some cmpE :=
  ⟨_, Try.func91, by kernel_rfl, by kernel_rfl, by kernel_rfl, by kernel_rfl⟩
theorem typeOf40 (v : Value) (w : World) : (Extern.ReflectliteType.typeOf #[.iface 40 v]).run Try.prog w = .ok (.iface 134 (.agg #[.pointer (some ⟨0, 40, none⟩)])) w := by kernel_rfl
theorem comparable40 (w : World) : (cmpE #[.agg #[.pointer (some ⟨0, 40, none⟩)]]).run Try.prog w = .ok (.bool true) w := by kernel_rfl
theorem exE_ok {Pre : List SP} : ExOk Try.prog exE Pre := by
  intro f vs x h
  unfold exE at h
  split at h <;> cases h
  · refine ⟨fun _ => trivial, fun β => .inl fun w => ?_⟩
    obtain ⟨fn, h1, h2, h3, h4, h5⟩ := ext58
    rw [run_callFunc_extern h1 h2 h3 h4 h5]
    have := typeOf40
    simp only [List.map_cons, List.map_nil, SV.den, Ce.den]
    rw [this]
    rfl
  · refine ⟨fun _ => trivial, fun β => .inl fun w => ?_⟩
    obtain ⟨fn, h1, h2, h3, h4, h5⟩ := ext91
    rw [run_callFunc_extern h1 h2 h3 h4 h5]
    have := comparable40
    simp only [List.map_cons, List.map_nil, SV.den, Ce.den]
    rw [this]
    rfl
theorem mix0 : Try.prog.follows .mixedOrders = true := by kernel_rfl
theorem noNg0 : noNg Try.prog = true := by kernel_rfl
abbrev knE : Kn := ⟨exE, [], [], 1000000⟩
theorem jn0 (P : Program) : JnOk P 1000000 := fun h => by cases h
theorem awake_gx : gxTrue Try.prog knE 1000000 8 [] = true := by kernel_rfl
theorem awake_ok : FnOk Try.prog 8 [] [] fun v _ => v = .bool true := gxTrue_ok (kn := knE) exE_ok (jn0 _) noNg0 mix0 awake_gx (by simp) [] (GlobP.nil [])
end Go.Proofs.Ytngfadijcpnblaa

/- ModelRefuses, walked. -/
namespace Go.Proofs.Ytngfadijcpnblaa
open Go.RowKit
set_option maxRecDepth 20000
set_option maxHeartbeats 8000000
theorem IsLen.one {P : MdP} {r : Int} {a b : Nat} (h1 : IsLen P r a) (h2 : IsLen P r b) : a = b := by
  rcases Nat.lt_trichotomy a b with h | h | h
  · have := h2.1 a h; rw [h1.2] at this; cases this
  · exact h
  · have := h1.1 b h; rw [h2.2] at this; cases this
theorem MdQ.z {b : Nat} {r : MdP × Int} {v : Value} {Q : List SP} (e : r.2 = 0) (h : MdQ b r v Q) : ∃ M' : MdH, M'.b = b ∧ M'.p = r.1 ∧ v = .nilIface ∧ Q = [M'.sp] := by
  obtain ⟨M', a, c, hq⟩ := h
  exact ⟨M', a, c, (hq.z e).1, (hq.z e).2⟩
theorem MdQ.nz {b : Nat} {r : MdP × Int} {v : Value} {Q : List SP} (e : r.2 ≠ 0) (h : MdQ b r v Q) : ∃ M' : MdH, ∃ b' q, M'.b = b ∧ M'.p = r.1 ∧ v = .iface 130 (.pointer (some ⟨b', 0, none⟩)) ∧ Q = [M'.sp, errB b' q r.2] := by
  obtain ⟨M', a, c, hq⟩ := h
  obtain ⟨b', q, e1, e2⟩ := hq.nz e
  exact ⟨M', b', q, a, c, e1, e2⟩
attribute [local irreducible] Nx Ar BrM
theorem small7_ok (m : PH) (l : List OpH) (A : Option Addr) (c : Nat) (hl : l.length ≤ 9223372036854775807) (hs : Rd m A l.length 16 (l.flatMap OpH.enc)) (hok : ∀ x ∈ l, OpOk m x) :
    FnOk Try.prog 7 [.slice A l.length c] [roAll m] (fun v Q => v = .bool (decide ((∀ x ∈ l, OpS x) ∧ l.length ≤ 120)) ∧ Q = [roAll m]) := by
  have hS := roAll_sees hs
  refine FnOk.start Try.func7 rfl rfl rfl rfl fun F os tape output => ?_
  refine go 200 ?_
  conv => whnf
  repeat' (first
    | ((with_reducible refine atBr ?_); (first | refine BrM.t rfl ?_ | refine BrM.f rfl ?_ | refine BrM.dec (fun _ => ?_) (fun _ => ?_) | refine BrM.mk (fun _ => ?_) (fun _ => ?_)) <;> conv => whnf)
    | ((with_reducible refine atAr ?_); refine Ar.i64 (by omega) (by omega) ?_; conv => whnf)
    | (fail)
    | ((with_reducible refine atOps ?_); refine go 200 ?_; conv => whnf)
    | ((with_reducible refine atPlan ?_); refine Nx.runP (n := 200) rfl (by repeat (first | exact subB.nil _ | refine subB.cons rfl ?_)) ?_; conv => whnf)
    | ((with_reducible refine atAftL ?_); refine Nx.late ?_)
    | ((fail_if_success (with_reducible refine atRet ?_)); (fail_if_success (with_reducible refine atLoop ?_)); (fail_if_success (with_reducible refine atIn ?_)); (fail_if_success (with_reducible refine atDrawn ?_)); (fail_if_success (with_reducible refine atEnd ?_)); (with_reducible refine atRun ?_); refine go 200 ?_; conv => whnf))
  refine Nx.loop (X := Nat) (fun j => j ≤ l.length ∧ ∀ q, (hq : q < j) → (hl : q < l.length) → OpS l[q]) (fun j => l.length - j)
    (fun j => [(0, sl A l.length c), (5, sl A l.length c), (6, iv l.length), (7, iv j)]) (fun _ => []) [] (fun _ => [(0, roAll m)]) 0 ⟨Nat.zero_le _, fun i hi => by omega⟩ ?_ ?_ ?_ ?_ ?_
  · repeat (first | exact subE.nil _ | refine subE.cons rfl rfl ?_ | refine subE.cons' rfl (fun _ => rfl) ?_)
  · repeat (first | exact subM.nil _ | refine subM.cons rfl rfl rfl ?_)
  · repeat (first | exact subB.nil _ | refine subB.cons rfl ?_)
  · repeat (first | exact subR.nil _ | refine subR.cons rfl rfl ?_)
  intro j ⟨hj, hyes⟩ ih
  by_cases hlt : j < l.length
  · obtain ⟨x, hx⟩ : ∃ x, x = l[j] := ⟨_, rfl⟩
    by_cases sm : OpS x
    · obtain ⟨s1, s2, s3⟩ := sm
      rw [hx] at s1 s2 s3
      repeat' (first
        | ((with_reducible refine atBr ?_); refine BrM.yes (by omega) ?_; conv => whnf)
        | ((with_reducible refine atBr ?_); refine BrM.not (by omega) ?_; conv => whnf)
        | ((with_reducible refine atBr ?_); (first | refine BrM.t rfl ?_ | refine BrM.f rfl ?_ | refine BrM.dec (fun _ => ?_) (fun _ => ?_) | refine BrM.mk (fun _ => ?_) (fun _ => ?_)) <;> conv => whnf)
        | ((with_reducible refine atAr ?_); refine Ar.i64 (by omega) (by omega) ?_; conv => whnf)
        | ((with_reducible refine atIdx ?_); refine Nx.idx 0 (j := j) rfl rfl rfl Try.underlying22 rfl rfl rfl OpH.enc_len hS rfl (by omega) (by omega) fun _ _ _ => ?_)
        | ((with_reducible refine atLoad ?_); first | (refine Nx.load1 0 rfl rfl rfl rfl (SeesAt.sub (by assumption) _ rfl) rfl ?_) | (refine Nx.load1 0 rfl rfl rfl rfl (by assumption) rfl ?_) | (refine Nx.load 0 rfl rfl rfl rfl (by assumption) rfl rfl ?_))
        | ((with_reducible refine atOps ?_); refine go 200 ?_; conv => whnf)
        | ((with_reducible refine atPlan ?_); refine Nx.runP (n := 200) rfl (by repeat (first | exact subB.nil _ | refine subB.cons rfl ?_)) ?_; conv => whnf)
        | ((with_reducible refine atAftL ?_); refine Nx.late ?_)
        | ((fail_if_success (with_reducible refine atRet ?_)); (fail_if_success (with_reducible refine atLoop ?_)); (fail_if_success (with_reducible refine atIn ?_)); (fail_if_success (with_reducible refine atDrawn ?_)); (fail_if_success (with_reducible refine atEnd ?_)); (with_reducible refine atRun ?_); refine go 200 ?_; conv => whnf))
      refine (ih (j + 1) ⟨by omega, fun q hq hl => ?_⟩ (by omega)).weak ?_ ?_ ?_ ?_
      · by_cases e : q = j
        · subst e; exact ⟨s1, s2, s3⟩
        · exact hyes q (by omega) hl
      · repeat (first | exact subE.nil _ | refine subE.cons rfl rfl ?_ | refine subE.cons' rfl (fun _ => rfl) ?_)
      · repeat (first | exact subM.nil _ | refine subM.cons rfl rfl rfl ?_)
      · repeat (first | exact subB.nil _ | refine subB.cons rfl ?_)
      · repeat (first | exact subR.nil _ | refine subR.cons rfl rfl ?_)
    · have e : decide ((∀ x ∈ l, OpS x) ∧ l.length ≤ 120) = false := by
        rw [decide_eq_false_iff_not]
        exact fun h => sm (h.1 x (by rw [hx]; exact List.getElem_mem hlt))
      rw [e]
      have sm' : ¬((l[j]).o.all.length ≤ 30 ∧ (l[j]).o.ahead.length ≤ 30 ∧ (l[j]).o.l.length ≤ 70) := by rw [← hx]; exact sm
      repeat' (first
        | ((with_reducible refine atBr ?_); refine BrM.yes (by omega) ?_; conv => whnf)
        | ((with_reducible refine atBr ?_); refine BrM.not (by omega) ?_; conv => whnf)
        | ((with_reducible refine atBr ?_); (first | refine BrM.t rfl ?_ | refine BrM.f rfl ?_ | refine BrM.dec (fun _ => ?_) (fun _ => ?_) | refine BrM.mk (fun _ => ?_) (fun _ => ?_)) <;> conv => whnf)
        | ((with_reducible refine atAr ?_); refine Ar.i64 (by omega) (by omega) ?_; conv => whnf)
        | ((with_reducible refine atIdx ?_); refine Nx.idx 0 (j := j) rfl rfl rfl Try.underlying22 rfl rfl rfl OpH.enc_len hS rfl (by omega) (by omega) fun _ _ _ => ?_)
        | ((with_reducible refine atLoad ?_); first | (refine Nx.load1 0 rfl rfl rfl rfl (SeesAt.sub (by assumption) _ rfl) rfl ?_) | (refine Nx.load1 0 rfl rfl rfl rfl (by assumption) rfl ?_) | (refine Nx.load 0 rfl rfl rfl rfl (by assumption) rfl rfl ?_))
        | ((with_reducible refine atRet ?_); refine Nx.ret [0] Try.func7 rfl rfl ?_; (exact ⟨rfl, rfl⟩))
        | ((with_reducible refine atOps ?_); refine go 200 ?_; conv => whnf)
        | ((with_reducible refine atPlan ?_); refine Nx.runP (n := 200) rfl (by repeat (first | exact subB.nil _ | refine subB.cons rfl ?_)) ?_; conv => whnf)
        | ((with_reducible refine atAftL ?_); refine Nx.late ?_)
        | ((fail_if_success (with_reducible refine atRet ?_)); (fail_if_success (with_reducible refine atLoop ?_)); (fail_if_success (with_reducible refine atIn ?_)); (fail_if_success (with_reducible refine atDrawn ?_)); (fail_if_success (with_reducible refine atEnd ?_)); (with_reducible refine atRun ?_); refine go 200 ?_; conv => whnf))
  · have e : decide ((∀ x ∈ l, OpS x) ∧ l.length ≤ 120) = decide (l.length ≤ 120) := by
      refine decide_eq_decide.2 ⟨fun h => h.2, fun h => ⟨fun x hx => ?_, h⟩⟩
      obtain ⟨q, hq, rfl⟩ := List.getElem_of_mem hx
      exact hyes q (by omega) hq
    rw [e]
    by_cases h120 : l.length ≤ 120
    · repeat' (first
        | ((with_reducible refine atBr ?_); refine BrM.not (by omega) ?_; conv => whnf)
        | ((with_reducible refine atBr ?_); (first | refine BrM.t rfl ?_ | refine BrM.f rfl ?_ | refine BrM.dec (fun _ => ?_) (fun _ => ?_) | refine BrM.mk (fun _ => ?_) (fun _ => ?_)) <;> conv => whnf)
        | ((with_reducible refine atAr ?_); refine Ar.i64 (by omega) (by omega) ?_; conv => whnf)
        | ((with_reducible refine atRet ?_); refine Nx.ret [0] Try.func7 rfl rfl ?_; (exact ⟨by simp [oneV, h120]; omega, rfl⟩))
        | ((with_reducible refine atOps ?_); refine go 200 ?_; conv => whnf)
        | ((with_reducible refine atPlan ?_); refine Nx.runP (n := 200) rfl (by repeat (first | exact subB.nil _ | refine subB.cons rfl ?_)) ?_; conv => whnf)
        | ((with_reducible refine atAftL ?_); refine Nx.late ?_)
        | ((fail_if_success (with_reducible refine atRet ?_)); (fail_if_success (with_reducible refine atLoop ?_)); (fail_if_success (with_reducible refine atIn ?_)); (fail_if_success (with_reducible refine atDrawn ?_)); (fail_if_success (with_reducible refine atEnd ?_)); (with_reducible refine atRun ?_); refine go 200 ?_; conv => whnf))
    · repeat' (first
        | ((with_reducible refine atBr ?_); refine BrM.not (by omega) ?_; conv => whnf)
        | ((with_reducible refine atBr ?_); (first | refine BrM.t rfl ?_ | refine BrM.f rfl ?_ | refine BrM.dec (fun _ => ?_) (fun _ => ?_) | refine BrM.mk (fun _ => ?_) (fun _ => ?_)) <;> conv => whnf)
        | ((with_reducible refine atAr ?_); refine Ar.i64 (by omega) (by omega) ?_; conv => whnf)
        | ((with_reducible refine atRet ?_); refine Nx.ret [0] Try.func7 rfl rfl ?_; (exact ⟨by simp [oneV, h120]; omega, rfl⟩))
        | ((with_reducible refine atOps ?_); refine go 200 ?_; conv => whnf)
        | ((with_reducible refine atPlan ?_); refine Nx.runP (n := 200) rfl (by repeat (first | exact subB.nil _ | refine subB.cons rfl ?_)) ?_; conv => whnf)
        | ((with_reducible refine atAftL ?_); refine Nx.late ?_)
        | ((fail_if_success (with_reducible refine atRet ?_)); (fail_if_success (with_reducible refine atLoop ?_)); (fail_if_success (with_reducible refine atIn ?_)); (fail_if_success (with_reducible refine atDrawn ?_)); (fail_if_success (with_reducible refine atEnd ?_)); (with_reducible refine atRun ?_); refine go 200 ?_; conv => whnf))
end Go.Proofs.Ytngfadijcpnblaa
