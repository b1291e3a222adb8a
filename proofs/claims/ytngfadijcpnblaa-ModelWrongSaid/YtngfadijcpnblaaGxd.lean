/- The evaluator: 'pureX' says what the model does, and its labels are bounded. -/
import Derived.Test.YtngfadijcpnblaaGxc
namespace Go.Proofs.Ytngfadijcpnblaa
open Go.RowKit

theorem lookG_perm {β : Nat → Nat} : ∀ {gm gm' : GMem} {l : Nat} {x : Nat × Nat × Nat × List Ce}, lookG gm l = some x → delG gm l = some gm' → (gmSP β gm).Perm (grSP β (l, x) :: gmSP β gm')
  | [], _, _, _, h, _ => by cases h
  | (s, y) :: r, gm', l, x, h, hd => by
    rw [lookG_cons] at h
    simp only [delG] at hd
    by_cases e : s = l
    · subst e
      rw [if_pos rfl] at h
      cases h
      simp at hd
      subst hd
      exact List.Perm.refl _
    · rw [if_neg e] at h
      have hb : Nat.beq s l = false := by rw [← Bool.not_eq_true, Nat.beq_eq]; exact e
      rw [hb] at hd
      cases hr : delG r l with
      | none => simp only [hr] at hd; cases hd
      | some r' =>
        simp only [hr] at hd
        cases hd
        exact (List.Perm.cons _ (lookG_perm h hr)).trans (List.Perm.swap _ _ _)
theorem delG_some : ∀ (gm : GMem) (l : Nat), ∃ gm', delG gm l = some gm'
  | [], _ => ⟨_, rfl⟩
  | (s, y) :: r, l => by
    obtain ⟨r', hr⟩ := delG_some r l
    simp only [delG, hr]
    cases Nat.beq s l <;> exact ⟨_, rfl⟩

section
variable {g : Cx} {β : Nat → Nat} {s : GS} {L : Res} {a : Act} {w : World}

theorem RelG.sat' (h : RelG g β s L a w) : SatW (memSP β s.mem ++ (gmSP β s.gm ++ (L.map (·.2) ++ g.F))) w := by
  have := h.sat
  rw [List.map_append, gmRes_snd, List.append_assoc] at this
  exact this
theorem RelG.mk' (h1 : a.defers = []) (h2 : a.tmps.size = g.n) (h3 : ∀ t x, look s.env t = some x → a.tmps[t]? = some (x.den β)) (h5 : w.os = g.os) (h6 : w.tape = g.tape) (h7 : w.output = g.output)
    (h8 : SatW (memSP β s.mem ++ (gmSP β s.gm ++ (L.map (·.2) ++ g.F))) w) : RelG g β s L a w :=
  ⟨h1, h2, h3, fun _ _ h => (by cases h), h5, h6, h7, (by rw [List.map_append, gmRes_snd, List.append_assoc]; exact h8)⟩

structure GrIs (β : Nat → Nat) (w : World) (l e n sz : Nat) (cs : List Ce) (cur : Array Value) : Prop where
  blk : w.heap[β l]? = some (.cells cur e (0, 0))
  take : cur.toList.take (n * sz) = cs.map (Ce.den β)
  len : cs.length = n * sz
  cap : n ≤ β (l + 1)
  max : β (l + 1) ≤ maxLen
  size : cur.size = β (l + 1) * sz
theorem RelG.gr (h : RelG g β s L a w) {l e n sz : Nat} {cs : List Ce} (hl : lookG s.gm l = some (e, n, sz, cs)) : ∃ cur, GrIs β w l e n sz cs cur := by
  obtain ⟨gm', hd⟩ := delG_some s.gm l
  have h1 := h.sat'.swapHead
  have h2 := h1.perm ((lookG_perm hl hd).append_right _)
  obtain ⟨r, hh, x1, x2, x3, r1, k1, k2, y1, y2, y3, y4, y5, y6⟩ := h2
  obtain ⟨z1, z2⟩ := y5
  rcases z2 with ⟨z3, _⟩ | ⟨b, cur, z3, z4, z5, z6, z7, z8⟩
  · cases z3
  · cases z3
    exact ⟨cur, x2 _ _ (y2 _ _ z4), z8, by simpa using z1, z5, z6, z7⟩
theorem GrIs.cell {l e n sz : Nat} {cs : List Ce} {cur : Array Value} (h : GrIs β w l e n sz cs cur) {j : Nat} {y : Ce} (hy : cs[j]? = some y) : w.cell? ⟨β l, j, none⟩ = some (y.den β) := by
  have hj : j < cs.length := (List.getElem?_eq_some_iff.1 hy).1
  rw [cell_of_row w _ _ _ _ _ h.blk]
  have h1 : (cur.toList.take (n * sz))[j]? = some (y.den β) := by rw [h.take]; simp [hy]
  rw [List.getElem?_take, if_pos (by rw [← h.len]; exact hj)] at h1
  simpa using h1

theorem nrm_evn (h : RelG g β s L a w) {x : Operand} {u : SV} (hx : nrm (ev s.env x) = some u) : a.eval x = u.den β := h.evn hx

theorem bdO_ok (h : RelG g β s L a w) {x : Option Operand} {k : Option Nat} (hx : bdO s.env x = some k) : BdV (x.map a.eval) k := by
  cases x with
  | none => simp only [bdO, Option.some.injEq] at hx; subst hx; trivial
  | some x =>
    simp only [bdO] at hx
    split at hx
    · rename_i kk k' hv
      cases hx
      have := nrm_evn h hv
      simp only [Option.map_some, this]
      rfl
    · cases hx

theorem gmLen_ok (h : RelG g β s L a w) : ∀ l N, gmLen s.gm l = some N → N ≤ β (l + 1) := by
  intro l N hN
  unfold gmLen at hN
  split at hN
  · rename_i e n sz cs hl
    cases hN
    obtain ⟨cur, hc⟩ := h.gr hl
    exact hc.cap
  · cases hN

set_option maxHeartbeats 2000000 in
theorem pureY_ok (h : RelG g β s L a w) (o : Oper) : OutOk g.P β (execOp a.eval o) w (pureY g.P s.env s.gm o.op) := by
  obtain ⟨dst, op, ty, pos, after, guard⟩ := o
  cases op <;> try exact trivial
  case load t x =>
    simp only [pureY]
    split <;> try exact trivial
    rename_i l o hx
    have he := h.ev hx
    split <;> try exact trivial
    rename_i e n sz cs hl
    obtain ⟨cur, hc⟩ := h.gr hl
    split <;> try exact trivial
    · rename_i ha
      split <;> try exact trivial
      rename_i y hy
      rw [getL_eq] at hy
      have hcell := hc.cell hy
      have he' : a.eval x = .pointer (some ⟨β l, o, none⟩) := he
      show (execOp a.eval _).run g.P w = _
      simp [execOp, he', Instr.loadAt, Instr.sureAddr, loadVar, aggOf_one ha, hcell, SV.den]
    · rename_i m ha
      split <;> try exact trivial
      rename_i ys hy
      obtain ⟨g1, g2⟩ := aggOf_many ha w
      obtain ⟨c1, c2⟩ := cutL_spec cs o m ys hy
      have hl2 : (loadCells ⟨β l, o, none⟩ m).run g.P w = .ok (cellsOf β ys) w := by
        have := run_loadCells_list (P := g.P) w ⟨β l, o, none⟩ (ys.map (Ce.den β)) (fun j v hv => by
          rw [add_plain']
          rw [List.getElem?_map] at hv
          have hj : j < m := by
            rcases Nat.lt_or_ge j m with hlt | hge
            · exact hlt
            · rw [List.getElem?_eq_none (by omega)] at hv; cases hv
          cases hyj : ys[j]? with
          | none => rw [hyj] at hv; cases hv
          | some y =>
            rw [hyj] at hv
            rw [hc.cell (by rw [c2 j hj]; exact hyj)]
            exact hv)
        simpa [c1, cellsOf] using this
      have he' : a.eval x = .pointer (some ⟨β l, o, none⟩) := he
      show (execOp a.eval _).run g.P w = _
      simp [execOp, he', Instr.loadAt, Instr.sureAddr, loadVar, g1, g2, hl2, SV.den, cellsOf]
  case nilCheck x =>
    simp only [pureY]
    split <;> try exact trivial
    rename_i t l o hx
    have he : a.eval x = .iface t (.pointer (some ⟨β l, o, none⟩)) := h.ev hx
    show (execOp a.eval _).run g.P w = _
    simp [execOp, he, SV.den, Ce.den]
  case binOp op t x y tt =>
    simp only [pureY]
    split
    · rename_i xs hx
      split <;> try exact trivial
      rename_i ys hy
      have e1 := nrm_evn h hx
      have e2 := nrm_evn h hy
      show OutOk g.P β (do pure (.value (← (do eqGuard op t x y (a.eval x) (a.eval y); binOp op t (a.eval x) (a.eval y))))) w _
      rw [e1, e2]
      exact binA_ok
    · rename_i u hne hx
      split <;> try exact trivial
      rename_i v hy
      have e1 := nrm_evn h hx
      have e2 := nrm_evn h hy
      show OutOk g.P β (do pure (.value (← (do eqGuard op t x y (a.eval x) (a.eval y); binOp op t (a.eval x) (a.eval y))))) w _
      rw [e1, e2]
      exact binY_ok
    · exact trivial
  case unOp op t x =>
    cases op <;> try exact trivial
    simp only [pureY]
    split <;> try exact trivial
    rename_i k n hx
    have e1 : a.eval x = .int k n := nrm_evn h hx
    show (execOp a.eval _).run g.P w = _
    cases hk : k.signed <;> simp [execOp, e1, Op.unary, Op.intBits, hk]
  case makeInterface t x =>
    simp only [pureY]
    split <;> try exact trivial
    rename_i hc
    split <;> try exact trivial
    rename_i l o hx
    have he : a.eval x = .pointer (some ⟨β l, o, none⟩) := h.ev hx
    show (execOp a.eval _).run g.P w = _
    unfold Program.concrete at hc
    cases hu : g.P.underlying t with
    | none => simp [hu] at hc
    | some d => cases d <;> simp [hu] at hc <;> simp [execOp, he, Instr.makeInterface, run_underlying hu, SV.den, Ce.den]
  case indexAddr t x i =>
    simp only [pureY]
    split <;> try exact trivial
    rename_i u hx
    split <;> try exact trivial
    rename_i k iv hi
    have e1 := h.ev hx
    have e2 : a.eval i = .int k iv := nrm_evn h hi
    show OutOk g.P β (do pure (.value (← Instr.indexAt t (a.eval x) (a.eval i)))) w _
    rw [e1, e2]
    exact idxY_ok
  case index t x i =>
    simp only [pureY]
    split <;> try exact trivial
    rename_i u hx
    split <;> try exact trivial
    rename_i k iv hi
    have e1 := h.ev hx
    have e2 : a.eval i = .int k iv := nrm_evn h hi
    show OutOk g.P β (do pure (.value (← Instr.index t (a.eval x) (a.eval i)))) w _
    rw [e1, e2]
    exact elmY_ok
  case slice t x lo hi mx =>
    simp only [pureY]
    split <;> try exact trivial
    rename_i u hx
    split <;> try exact trivial
    rename_i l hl
    split <;> try exact trivial
    rename_i hh hhi
    split <;> try exact trivial
    rename_i m hm
    have e1 := h.ev hx
    show OutOk g.P β (do pure (.value (← Instr.sliceAt t (a.eval x) (lo.map a.eval) (hi.map a.eval) (mx.map a.eval)))) w _
    rw [e1]
    exact slcY_ok (bdO_ok h hl) (bdO_ok h hhi) (bdO_ok h hm) (gmLen_ok h)
  case extract x i =>
    simp only [pureY]
    split <;> try exact trivial
    rename_i vs hx
    have e1 : a.eval x = .tuple (vs.map (tpDen β)).toArray := h.ev hx
    split <;> try exact trivial
    · rename_i y hy
      rw [getL_eq] at hy
      show (execOp a.eval _).run g.P w = _
      simp [execOp, e1, Instr.extract, hy, tpDen, SV.den]
    · rename_i cs hy
      rw [getL_eq] at hy
      show (execOp a.eval _).run g.P w = _
      simp [execOp, e1, Instr.extract, hy, tpDen, SV.den]
  case typeAssert x xt t ok =>
    simp only [pureY]
    split <;> try exact trivial
    rename_i u hx
    have e1 := nrm_evn h hx
    show OutOk g.P β (do pure (.value (← Instr.typeAssert (a.eval x) xt t ok))) w _
    rw [e1]
    exact assertY_ok
  case call c =>
    obtain ⟨callee, args, ts⟩ := c
    cases callee <;> try exact trivial
    rename_i b
    cases b <;> try exact trivial
    simp only [pureY]
    split <;> try exact trivial
    rename_i x hargs
    split <;> try exact trivial
    rename_i t ts' hts
    have ea : args = #[x] := by apply Array.ext'; simpa using hargs
    have et : ts[0]? = some t := by rw [← Array.getElem?_toList, hts]; rfl
    split <;> try exact trivial
    rename_i e hu
    split <;> try exact trivial
    · rename_i l o n e' hx
      have he : a.eval x = .slice (some ⟨β l, o, none⟩) n (β (l + 1) - e') := h.ev hx
      show (execOp a.eval _).run g.P w = _
      simp [execOp, resolve, invoke, builtin, Builtin.len_, ea, et, he, run_underlying hu, goInt, SV.den, Ce.den]
    · rename_i l o k z e' hx
      have he : a.eval x = (SV.c (.tl l o k z e')).den β := h.ev hx
      simp only [SV.den, Ce.den] at he
      show (execOp a.eval _).run g.P w = _
      simp [execOp, resolve, invoke, builtin, Builtin.len_, ea, et, he, run_underlying hu, goInt, SV.den, Ce.den]
end

/-- What leaves memory as it is. -/
def pureX (P : Program) (env : Env) (mem : Mem) (gm : GMem) (op : Op) : Out :=
  match pureOp P env mem [] op with
  | .no => pureY P env gm op
  | r => r
theorem pureX_ok {g : Cx} {β : Nat → Nat} {s : GS} {L : Res} {a : Act} {w : World} (h : RelG g β s L a w) (o : Oper) : OutOk g.P β (execOp a.eval o) w (pureX g.P s.env s.mem s.gm o.op) := by
  unfold pureX
  have h1 := pureOp_ok h o
  split
  · exact pureY_ok h o
  · exact h1
end Go.Proofs.Ytngfadijcpnblaa
