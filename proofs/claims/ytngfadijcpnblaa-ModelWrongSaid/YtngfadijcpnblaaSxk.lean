/- More rules: arrays at an index that isn't written out; structs held against each other; an array value's element. -/
import Derived.Test.YtngfadijcpnblaaSxj
namespace Go.Proofs.Ytngfadijcpnblaa
open Go.RowKit

section
variable {g : Cx} {β : Nat → Nat} {env : Env} {mem : Mem} {bnd : Bnd} {L : Res} {a : Act} {w : World} {N : Act → World → Prop} {Q : Exit → Act → World → Prop}

/-- The address of an element of an array of the state's. -/
theorem Nx.arrIdx {o : Oper} {t e : TypeId} {x i : Operand} {l off n sz by_ q b : Nat} {kk : IntKind} {iv : Int} (ho : o.op = .indexAddr t x i) (hx : ev env x = some (.c (.loc l off))) (hb : lookB bnd l = some b) (hi : ev env i = some (.c (.v (.int kk iv)))) (ht : g.P.underlying t = some (.array n e)) (he : elemI g.P e = some (sz, by_)) (hd : dstOk g.n o.dst = true)
    (h0 : 0 ≤ iv) (h1 : iv < n) (hq : off + iv.toNat * sz = q) (hk : Nx g (putE o.dst (.c (.v (.pointer (some ⟨b, q, none⟩)))) env) mem bnd L N) : Nx g env mem bnd L (OneC g o N Q) := by
  intro β a w hr
  obtain ⟨ei, zz, hei, hz, hzs, hpos, hez, hby⟩ := elemI_ok he
  have e1 : a.eval x = .pointer (some ⟨b, off, none⟩) := by rw [hr.ev hx]; simp only [SV.den, Ce.den, hr.bnd l b hb]
  have e2 : a.eval i = .int kk iv := hr.ev hi
  have hrun : (execOp a.eval o).run g.P w = .ok (.value (.pointer (some ⟨b, q, none⟩))) w := by
    subst hq
    simp [execOp, ho, e1, e2, Instr.indexAt, Instr.sureAddr, asIntOf, run_underlying ht, h0, h1, sizeOf, typeInfo, hei, hez, add_plain']
  exact wp_value hrun (hk β _ w (hr.put o.dst (.c (.v (.pointer (some ⟨b, q, none⟩)))) hd))

/-- A load of one cell, at a place that isn't written out. -/
theorem Nx.loadAt (l : Nat) {o : Oper} {t : TypeId} {x : Operand} {q tt b : Nat} {cs : List Ce} {y : Ce} (ho : o.op = .load t x) (hx : ev env x = some (.c (.v (.pointer (some ⟨b, q, none⟩))))) (hb : lookB bnd l = some b) (hl : lookM mem l = some (tt, cs)) (ht : aggOf g.P t = .one) (hd : dstOk g.n o.dst = true)
    (hy : cs[q]? = some y) (hk : Nx g (putE o.dst (.c y) env) mem bnd L N) : Nx g env mem bnd L (OneC g o N Q) := by
  intro β a w hr
  have e1 : a.eval x = .pointer (some ⟨β l, q, none⟩) := by rw [hr.bnd l b hb]; exact hr.ev hx
  have hrun : (execOp a.eval o).run g.P w = .ok (.value ((SV.c y).den β)) w := by
    have := run_load_one hr hl ht (o := q) (y := y) (by rw [getL_eq]; exact hy)
    simp [execOp, ho, e1, Instr.loadAt, Instr.sureAddr, this, SV.den]
  exact wp_value hrun (hk β _ w (hr.put o.dst (.c y) hd))
theorem cutL_all {α : Type} : ∀ cs : List α, cutL cs 0 cs.length = some cs
  | [] => rfl
  | y :: r => by simp only [List.length_cons, cutL, cutL_all r]
/-- A load of a whole block. -/
theorem Nx.loadAll {o : Oper} {t : TypeId} {x : Operand} {l tt n : Nat} {cs : List Ce} (ho : o.op = .load t x) (hx : ev env x = some (.c (.loc l 0))) (hl : lookM mem l = some (tt, cs)) (ht : aggOf g.P t = .many n) (hd : dstOk g.n o.dst = true)
    (hn : cs.length = n) (hk : Nx g (putE o.dst (.agg cs) env) mem bnd L N) : Nx g env mem bnd L (OneC g o N Q) := by
  intro β a w hr
  have e1 : a.eval x = .pointer (some ⟨β l, 0, none⟩) := hr.ev hx
  have hcut : cutL cs 0 n = some cs := by rw [← hn]; exact cutL_all cs
  have hrun : (execOp a.eval o).run g.P w = .ok (.value ((SV.agg cs).den β)) w := by
    have := run_load_many hr hl ht (o := 0) hcut
    simp [execOp, ho, e1, Instr.loadAt, Instr.sureAddr, this, SV.den, cellsOf]
  exact wp_value hrun (hk β _ w (hr.put o.dst (.agg cs) hd))
theorem setsO_one : ∀ (cs : List Ce) (q : Nat) (y : Ce), q < cs.length → fillS.setsO cs q [y] = some (cs.set q y)
  | [], q, y, h => by simp at h
  | x :: r, 0, y, h => by cases r <;> rfl
  | x :: r, q + 1, y, h => by
    have := setsO_one r q y (by simpa using h)
    simp [fillS.setsO, this]
/-- A store of one cell, at a place that isn't written out. -/
theorem Nx.storeAt (l : Nat) {o : Oper} {t : TypeId} {x z : Operand} {q tt b : Nat} {cs : List Ce} {y : Ce} {mem' : Mem} (ho : o.op = .store t x z) (hx : ev env x = some (.c (.v (.pointer (some ⟨b, q, none⟩))))) (hb : lookB bnd l = some b) (hz : ev env z = some (.c y)) (hl : lookM mem l = some (tt, cs)) (ht : (g.P.info? t).map (·.size) = some 1) (hp : y.plain = true) (hd : dstOk g.n o.dst = true)
    (hq : q < cs.length) (hm : setMo mem l (cs.set q y) = some mem') (hk : Nx g (putE o.dst (.c (.v undef)) env) mem' bnd L N) : Nx g env mem bnd L (OneC g o N Q) := by
  intro β a w hr
  rw [setMo_eq] at hm
  cases hm
  cases hi : g.P.info? t with
  | none => rw [hi] at ht; cases ht
  | some i =>
    rw [hi] at ht
    have hsz : i.size = 1 := by simpa using ht
    have hc : cellsS (.c y) = some [y] := by simp [cellsS, hp]
    obtain ⟨w', hrun, hR⟩ := store_ok hr hl (cellsS_den hc β) hi (by simp [hsz]) (by simp; omega) (by simp [allPlain, hp]) (setsO_one cs q y hq)
    have e1 : a.eval x = .pointer (some ⟨β l, q, none⟩) := by rw [hr.bnd l b hb]; exact hr.ev hx
    have e2 := hr.ev hz
    refine wp_skip' (w' := w') ?_ (hk β _ _ (hR.put o.dst (.c (.v undef)) hd))
    simp only [execOp, ho, e1, e2, Sem.run_bind, hrun, Result.andThen_ok, Sem.run_pure]

/-- Two structs held against each other. -/
theorem run_eqS {P : Program} {op : BinOp} {t : TypeId} {xo yo : Operand} {xs ys : Array Value} {b : Bool} (hg : P.eqGuardType P.depth t = false) (he : ∀ w, (Op.equalIn 10000 t (.agg xs) (.agg ys)).run P w = .ok b w) (hop : op = .eql ∨ op = .neq) (w : World) :
    (do pure (Next.value (← (do eqGuard op t xo yo (.agg xs) (.agg ys); binOp op t (.agg xs) (.agg ys)))) : Sem Next).run P w = .ok (.value (.bool (if op = .eql then b else !b))) w := by
  rcases hop with rfl | rfl
  · simp [run_eqGuard_agg w .eql t xo yo xs ys hg, run_eql_struct w t xs ys, he]
  · simp [run_eqGuard_agg w .neq t xo yo xs ys hg, run_neq_struct w t xs ys, he]
theorem eqS_val {o : Oper} {t tt : TypeId} {xo yo : Operand} {xs ys : List Ce} {vx vy : List Value} {b : Bool} {op : BinOp} (ho : o.op = .binOp op t xo yo tt) (hop : op = .eql ∨ op = .neq) (hx : ev env xo = some (.agg xs)) (hy : ev env yo = some (.agg ys)) (hvx : cesV bnd xs = some vx) (hvy : cesV bnd ys = some vy)
    (hg : g.P.eqGuardType g.P.depth t = false) (he : ∀ w, (Op.equalIn 10000 t (.agg vx.toArray) (.agg vy.toArray)).run g.P w = .ok b w) (hr : Rel g β env mem bnd L a w) (w' : World) : (execOp a.eval o).run g.P w' = .ok (.value (.bool (if op = .eql then b else !b))) w' := by
  have e1 : a.eval xo = .agg vx.toArray := by rw [hr.ev hx]; simp only [SV.den, cesV_den hr.bnd hvx]
  have e2 : a.eval yo = .agg vy.toArray := by rw [hr.ev hy]; simp only [SV.den, cesV_den hr.bnd hvy]
  simp only [execOp, ho, e1, e2]
  exact run_eqS hg he hop w'
theorem Nx.eqS {o : Oper} {t tt : TypeId} {xo yo : Operand} {xs ys : List Ce} {vx vy : List Value} {b : Bool} {op : BinOp} (ho : o.op = .binOp op t xo yo tt) (hop : op = .eql ∨ op = .neq) (hx : ev env xo = some (.agg xs)) (hy : ev env yo = some (.agg ys)) (hvx : cesV bnd xs = some vx) (hvy : cesV bnd ys = some vy)
    (hg : g.P.eqGuardType g.P.depth t = false) (he : ∀ w, (Op.equalIn 10000 t (.agg vx.toArray) (.agg vy.toArray)).run g.P w = .ok b w) (hd : dstOk g.n o.dst = true)
    (hk : Nx g (putE o.dst (.c (.v (.bool (if op = .eql then b else !b)))) env) mem bnd L N) : Nx g env mem bnd L (OneC g o N Q) :=
  Nx.val (x := .c (.v (.bool (if op = .eql then b else !b)))) hd (fun _ _ _ hr w' => eqS_val ho hop hx hy hvx hvy hg he hr w') hk
theorem Nx.hoEqS {o : Oper} {t tt : TypeId} {xo yo : Operand} {xs ys : List Ce} {vx vy : List Value} {b : Bool} {op : BinOp} {T : World → Prop} (ho : o.op = .binOp op t xo yo tt) (hop : op = .eql ∨ op = .neq) (hx : ev env xo = some (.agg xs)) (hy : ev env yo = some (.agg ys)) (hvx : cesV bnd xs = some vx) (hvy : cesV bnd ys = some vy)
    (hg : g.P.eqGuardType g.P.depth t = false) (he : ∀ w, (Op.equalIn 10000 t (.agg vx.toArray) (.agg vy.toArray)).run g.P w = .ok b w) (hd : dstOk g.n o.dst = true)
    (hk : Nx g (putE o.dst (.c (.v (.bool (if op = .eql then b else !b)))) env) mem bnd L N) : Nx g env mem bnd L (HoC g T o N) :=
  Nx.hoVal (x := .c (.v (.bool (if op = .eql then b else !b)))) hd (fun _ _ _ hr w' => eqS_val ho hop hx hy hvx hvy hg he hr w') hk

/-- An element of an array value, at an index that is written out. -/
theorem Nx.elem {o : Oper} {t e : TypeId} {x i : Operand} {cs : List Ce} {y : Ce} {n j : Nat} {kk : IntKind} (ho : o.op = .index t x i) (hx : ev env x = some (.agg cs)) (hi : ev env i = some (.c (.v (.int kk j)))) (ht : g.P.underlying t = some (.array n e)) (he : (g.P.info? e).map (·.size) = some 1) (hone : aggOf g.P e = .one) (hd : dstOk g.n o.dst = true)
    (hj : j < n) (hy : cs[j]? = some y) (hk : Nx g (putE o.dst (.c y) env) mem bnd L N) : Nx g env mem bnd L (OneC g o N Q) := by
  refine Nx.val hd (fun β a w hr w' => ?_) hk
  have e1 : a.eval x = .agg (cellsOf β cs) := hr.ev hx
  have e2 : a.eval i = .int kk j := hr.ev hi
  cases hie : g.P.info? e with
  | none => rw [hie] at he; cases he
  | some ie =>
    rw [hie] at he
    have hsz : ie.size = 1 := by simpa using he
    have hp := run_part_one (g := g) (β := β) (w := w') (cs := cs) (o := j) (y := y) hone (by rw [getL_eq]; exact hy)
    have h1 : (j : Int) < n := by omega
    simp [execOp, ho, e1, e2, Instr.index, asIntOf, run_underlying ht, sizeOf, typeInfo, hie, hsz, hp, SV.den]
    omega
end
end Go.Proofs.Ytngfadijcpnblaa
