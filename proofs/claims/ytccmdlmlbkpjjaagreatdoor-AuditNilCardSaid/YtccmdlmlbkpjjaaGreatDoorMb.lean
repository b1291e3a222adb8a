/- The evaluator: append, make, stores: 'effX'. -/
import Derived.Test.YtccmdlmlbkpjjaaGreatDoorMa
import Derived.ProofKit
import Derived.SizedLaws
import Derived.Carry
import Derived.OpenShut
import Derived.Deep.Slices
import Derived.HandedShaped
import Derived.LaidLaws
import Derived.LaidHandle
import Derived.Lay
import Derived.Lib.LaidTab
import Derived.Lib.LaidU8
import Derived.Shelf.Vars
import Derived.Stop.Joined
import Derived.Lib.Bytes
import Derived.Deep.AppendSrc
import Derived.Deep.Upon
import Derived.Lib.ItoaNum
import Derived.Lib.ParseIntB
import Derived.Lib.SplitLaws
import Derived.Lib.Join
import Derived.Stop.Asserts
import Derived.Laws.MakeOwn
set_option linter.unusedSimpArgs false
set_option linter.unusedVariables false
/- More rules: appends of rows that lie elsewhere; stores into a slice of the call's own. -/
namespace Go.Proofs.YtccmdlmlbkpjjaaGreatDoor
open Go.RowKit

section
variable {g : Cx} {β : Nat → Nat} {env : Env} {mem : Mem} {bnd : Bnd} {L : Res} {a : Act} {w : World} {N : Act → World → Prop} {Q : Exit → Act → World → Prop}

theorem ownS_fit {e : TypeId} {A : Option Addr} {n c sz : Nat} {cells : List Value} {r h : PH} (hs : ownS e A n c sz cells r h) : n ≤ c ∧ c ≤ maxLen := by
  rcases hs.2 with ⟨_, rfl, rfl⟩ | ⟨b, cur, h1, h2, h3, h4, h5, h6⟩
  · exact ⟨Nat.le_refl _, Nat.zero_le _⟩
  · exact ⟨h3, h4⟩

/-- append of nothing. -/
theorem run_append_none {P : Program} {t ty e : TypeId} {i : TypeInfo} {A : Option Addr} {n c c2 : Nat} (ht : P.underlying t = some (.slice e)) (hi : P.info? e = some i) (hn : n ≤ c) (w : World) :
    (Builtin.append_ #[t, t] ty #[.slice A n c, .slice none 0 c2]).run P w = .ok (.slice A n c) w := by
  cases A with
  | none => simp [Builtin.append_, run_underlying ht, sizeOf, typeInfo, hi, Builtin.lenOf, Builtin.firstCells, hn]
  | some a => simp [Builtin.append_, run_underlying ht, sizeOf, typeInfo, hi, Builtin.lenOf, Builtin.firstCells, hn, storeCells]

/-- append of a slice that an assertion shows to an owned one. -/
theorem Nx.appendS (nm nm2 : Nat) {o : Oper} {t e : TypeId} {x y : Operand} {A A2 : Option Addr} {n c m c2 : Nat} {L' L2 : Res} {S : SP} {sz by_ : Nat} {cells news : List Value}
    (ho : o.op = .call ⟨.builtin .append, #[x, y], #[t, t]⟩) (hx : ev env x = some (.c (.v (.slice A n c)))) (hy : ev env y = some (.c (.v (.slice A2 m c2)))) (ht : g.P.underlying t = some (.slice e)) (he : elemI g.P e = some (sz, by_)) (hd : dstOk g.n o.dst = true)
    (hp : takeR nm L = some (ownS e A n c sz cells, L')) (hp2 : takeR nm2 L = some (S, L2)) (hs : Sees S A2 m sz news) (hone : ∀ u ∈ news, u.oneCell' = true) (h63 : n + m ≤ maxLen) (hbytes : (n + m) * by_ ≤ 140737488355328)
    (hk : ∀ A' c'', Nx g (putE o.dst (.c (.v (.slice A' (n + m) c''))) env) mem bnd ((nm, ownS e A' (n + m) c'' sz (cells ++ news)) :: L') N) : Nx g env mem bnd L (OneC g o N Q) := by
  intro β a w hr
  obtain ⟨ei, z, hei, hz, hzs, hpos, hes, hby⟩ := elemI_ok he
  subst hes
  subst hby
  have hsat := hr.picked (takeR_pick hp)
  have e1 : a.eval x = .slice A n c := hr.ev hx
  have e2 : a.eval y = .slice A2 m c2 := hr.ev hy
  obtain ⟨hlen, hrd⟩ : Rd (hw w) A2 m ei.size news := by
    obtain ⟨r, h, x1, x2, x3, r1, h1', h2', y1, y2, y3, y4, y5, y6⟩ := hr.picked (takeR_pick hp2)
    exact (hs r1 h1' (PH.dj_mono x3 y1 y2) y5).mono (PH.un_le (PH.le_trans y1 x1) (PH.le_trans y2 x2))
  have key : ∃ A' c'' w', (Builtin.append_ #[t, t] o.type #[.slice A n c, .slice A2 m c2]).run g.P w = .ok (.slice A' (n + m) c'') w' ∧ w'.os = w.os ∧ w'.tape = w.tape ∧ w'.output = w.output ∧ SatW (ownS e A' (n + m) c'' ei.size (cells ++ news) :: (memSP β mem ++ (L'.map (·.2) ++ g.F))) w' := by
    rcases Nat.eq_zero_or_pos m with h0 | h0
    · subst h0
      have hn0 : news = [] := List.eq_nil_of_length_eq_zero (by rw [hlen]; omega)
      subst hn0
      cases A2 with
      | none =>
        have hfit : n ≤ c := by
          obtain ⟨r, h, x1, x2, x3, r1, h1', h2', y1, y2, y3, y4, y5, y6⟩ := hsat
          exact (ownS_fit y5).1
        refine ⟨A, c, w, run_append_none ht hei hfit w, rfl, rfl, rfl, ?_⟩
        simpa using hsat
      | some ad => exact own_append (P := g.P) (ty := o.type) ht hei hz hzs hpos hsat ad 0 c2 [] (by simp) (fun j u hu => by simp at hu) (by simp) h63 hbytes
    · obtain ⟨b, off, cs, tt, fr, rfl, hb, hc⟩ := hrd h0
      refine own_append (P := g.P) (ty := o.type) ht hei hz hzs hpos hsat ⟨b, off, none⟩ m c2 news hlen (fun j u hu => ?_) hone h63 hbytes
      have hj : j < news.length := (List.getElem?_eq_some_iff.1 hu).1
      rw [add_plain', cell_of_row w _ _ _ _ _ hb, hc j (by omega)]
      exact hu
  obtain ⟨A', c'', w', hrun, h1, h2, h3, h4⟩ := key
  have hrun' : (execOp a.eval o).run g.P w = .ok (.value (.slice A' (n + m) c'')) w' := by
    simp [execOp, ho, resolve, e1, e2, invoke, builtin, hrun]
  refine wp_value hrun' (hk A' c'' β _ _ ?_)
  exact (hr.unpicked (ns := [nm]) (Ps := [_]) h4 h1 h2 h3).put o.dst (.c (.v (.slice A' (n + m) c''))) hd

/-- The address of an element of a slice whose place is known: no memory is asked. -/
theorem idxO_run {o : Oper} {t e : TypeId} {x i : Operand} {b off n c : Nat} {k : IntKind} {iv : Int} {sz by_ : Nat} (hr : Rel g β env mem bnd L a w)
    (ho : o.op = .indexAddr t x i) (hx : ev env x = some (.c (.v (.slice (some ⟨b, off, none⟩) n c)))) (hi : ev env i = some (.c (.v (.int k iv)))) (ht : g.P.underlying t = some (.slice e)) (he : elemI g.P e = some (sz, by_))
    (h0 : 0 ≤ iv) (h1 : iv < n) (w' : World) : (execOp a.eval o).run g.P w' = .ok (.value (.pointer (some ⟨b, off + iv.toNat * sz, none⟩))) w' := by
  obtain ⟨ei, zz, hei, hz, hzs, hpos, hez, hby⟩ := elemI_ok he
  have e1 : a.eval x = .slice (some ⟨b, off, none⟩) n c := hr.ev hx
  have e2 : a.eval i = .int k iv := hr.ev hi
  subst hez
  simp [execOp, ho, e1, e2, Instr.indexAt, asIntOf, run_underlying ht, h0, h1, sizeOf, typeInfo, hei, add_plain']
theorem Nx.idxO {o : Oper} {t e : TypeId} {x i : Operand} {b off n c : Nat} {k : IntKind} {iv : Int} {sz by_ q : Nat}
    (ho : o.op = .indexAddr t x i) (hx : ev env x = some (.c (.v (.slice (some ⟨b, off, none⟩) n c)))) (hi : ev env i = some (.c (.v (.int k iv)))) (ht : g.P.underlying t = some (.slice e)) (he : elemI g.P e = some (sz, by_)) (hd : dstOk g.n o.dst = true)
    (h0 : 0 ≤ iv) (h1 : iv < n) (hq : off + iv.toNat * sz = q) (hk : Nx g (putE o.dst (.c (.v (.pointer (some ⟨b, q, none⟩)))) env) mem bnd L N) : Nx g env mem bnd L (OneC g o N Q) := by
  subst hq
  exact Nx.val (x := .c (.v (.pointer (some ⟨b, off + iv.toNat * sz, none⟩)))) hd (fun β a w hr w' => idxO_run hr ho hx hi ht he h0 h1 w') hk
theorem Nx.hoIdxO {o : Oper} {t e : TypeId} {x i : Operand} {b off n c : Nat} {k : IntKind} {iv : Int} {sz by_ q : Nat} {T : World → Prop}
    (ho : o.op = .indexAddr t x i) (hx : ev env x = some (.c (.v (.slice (some ⟨b, off, none⟩) n c)))) (hi : ev env i = some (.c (.v (.int k iv)))) (ht : g.P.underlying t = some (.slice e)) (he : elemI g.P e = some (sz, by_)) (hd : dstOk g.n o.dst = true)
    (h0 : 0 ≤ iv) (h1 : iv < n) (hq : off + iv.toNat * sz = q) (hk : Nx g (putE o.dst (.c (.v (.pointer (some ⟨b, q, none⟩)))) env) mem bnd L N) : Nx g env mem bnd L (HoC g T o N) := by
  subst hq
  exact Nx.hoVal (x := .c (.v (.pointer (some ⟨b, off + iv.toNat * sz, none⟩)))) hd (fun β a w hr w' => idxO_run hr ho hx hi ht he h0 h1 w') hk

/-- A store into an element of an owned slice. -/
theorem Nx.storeO (nm : Nat) {o : Oper} {t e : TypeId} {x z : Operand} {b n c sz q : Nat} {cells ys : List Value} {L' : Res} {s : SV} {cs : List Ce}
    (ho : o.op = .store t x z) (hx : ev env x = some (.c (.v (.pointer (some ⟨b, q, none⟩))))) (hz : ev env z = some s) (hcs : cellsS s = some cs) (hv : cesV bnd cs = some ys) (ht : (g.P.info? t).map (·.size) = some ys.length)
    (hone : (ys.all fun u => u.oneCell') = true) (hd : dstOk g.n o.dst = true) (hp : takeR nm L = some (ownS e (some ⟨b, 0, none⟩) n c sz cells, L')) (hq : q + ys.length ≤ n * sz)
    (hk : Nx g (putE o.dst (.c (.v undef)) env) mem bnd ((nm, ownS e (some ⟨b, 0, none⟩) n c sz (cells.take q ++ ys ++ cells.drop (q + ys.length))) :: L') N) : Nx g env mem bnd L (OneC g o N Q) := by
  intro β a w hr
  have hpick := hr.picked (takeR_pick hp)
  obtain ⟨r, h, x1, x2, x3, r1, h1', h2', y1, y2, y3, y4, y5, y6⟩ := hpick
  obtain ⟨hlen, hcase⟩ := y5
  rcases hcase with ⟨hA, _⟩ | ⟨b', cur, hA, h2, h3, h4, h5, h6⟩
  · cases hA
  · cases hA
    have hb : w.heap[b]? = some (.cells cur e (0, 0)) := (PH.le_trans y2 x2) _ _ h2
    have hblk : SatW (blk b (.cells cur e (0, 0)) :: (memSP β mem ++ (L'.map (·.2) ++ g.F))) w := ⟨r, h, x1, x2, x3, r1, h1', h2', y1, y2, y3, y4, h2, y6⟩
    have hnc : n * sz ≤ c * sz := Nat.mul_le_mul_right _ h3
    have hst := run_storeCells_at g.P b q e ys 0 cur w hb (by omega) (by simpa using hone)
    obtain ⟨i, hi, hsz⟩ : ∃ i, g.P.info? t = some i ∧ i.size = ys.length := by
      cases hi : g.P.info? t with
      | none => rw [hi] at ht; cases ht
      | some i => rw [hi] at ht; exact ⟨i, rfl, by simpa using ht⟩
    have hcells : (s.den β).cells = ys.toArray := by
      rw [cellsS_den hcs β]
      unfold cellsOf
      rw [cesV_den hr.bnd hv]
    have e1 : a.eval x = .pointer (some ⟨b, q, none⟩) := hr.ev hx
    have e2 : a.eval z = s.den β := hr.ev hz
    have hfold : ∃ cur' : Array Value, (storeCells ⟨b, q, none⟩ ys).run g.P w = .ok () (w.setRow b cur') ∧ cur'.toList = cur.toList.take q ++ ys ++ cur.toList.drop (q + ys.length) := by
      exact ⟨(cur.toList.take q ++ ys ++ cur.toList.drop (q + ys.length)).toArray, hst, by simp⟩
    obtain ⟨cur', hrun, hcur⟩ := hfold
    have hsat2 : SatW (blk b (.cells cur' e (0, 0)) :: (memSP β mem ++ (L'.map (·.2) ++ g.F))) (w.setRow b cur') :=
      SatW.move hblk (fun k u hn hu => by rw [setRow_other w _ k _ hn]; exact hu) (setRow_heap w _ _ _ _ _ hb) (.inl rfl)
    have hlen2 : cur'.size = cur.size := by
      rw [← Array.length_toList, hcur]
      simp
      omega
    have htake : cur'.toList.take (n * sz) = cells.take q ++ ys ++ cells.drop (q + ys.length) := by
      have hql : q ≤ cur.toList.length := by simp; omega
      have hX : (cur.toList.take q ++ ys).length = q + ys.length := by rw [List.length_append, List.length_take, Nat.min_eq_left hql]
      rw [hcur, ← h6, List.take_take, Nat.min_eq_left (by omega), List.drop_take, List.take_append, hX, List.take_of_length_le (by rw [hX]; omega)]
    have h5' : SatW ([ownS e (some ⟨b, 0, none⟩) n c sz (cells.take q ++ ys ++ cells.drop (q + ys.length))] ++ (memSP β mem ++ (L'.map (·.2) ++ g.F))) (w.setRow b cur') :=
      hsat2.imp fun r h hs => ⟨by simp [hlen]; omega, .inr ⟨b, cur', rfl, hs, h3, h4, by rw [hlen2, h5], htake⟩⟩
    refine wp_skip' (w' := w.setRow b cur') ?_ (hk β _ _ ((hr.unpicked (ns := [nm]) (Ps := [_]) h5' rfl rfl rfl).put o.dst (.c (.v undef)) hd))
    have e3 : (s.den β).cells.size = i.size := by rw [hcells, hsz]; simp
    have e4 : (s.den β).cells.toList = ys := by rw [hcells]
    simp [execOp, ho, e1, e2, Instr.storeAt, Instr.sureAddr, storeVar, sizeOf, typeInfo, hi, e3, e4, hrun]

/-! ### Whole numbers -/
theorem Nx.convI {o : Oper} {src dst : TypeId} {x : Operand} {k k' kd : IntKind} {i r : Int} (ho : o.op = .convert src dst x) (hx : ev env x = some (.c (.v (.int k i)))) (hs : g.P.underlying src = some (.int k')) (hdt : g.P.underlying dst = some (.int kd)) (hd : dstOk g.n o.dst = true)
    (hr : kd.wrap i = r) (hk : Nx g (putE o.dst (.c (.v (.int kd r))) env) mem bnd L N) : Nx g env mem bnd L (OneC g o N Q) := by
  subst hr
  refine Nx.val (x := .c (.v (.int kd (kd.wrap i)))) hd (fun β a w hr w' => ?_) hk
  have e1 : a.eval x = .int k i := hr.ev hx
  simp [execOp, ho, e1, convert, run_underlying hs, run_underlying hdt, Conv.intToInt, SV.den, Ce.den]
theorem Nx.divI {o : Oper} {t tt : TypeId} {x y : Operand} {k : IntKind} {i j r : Int} {op : BinOp} (ho : o.op = .binOp op t x y tt) (hop : (op = .rem ∧ i.tmod j = r) ∨ (op = .quo ∧ k.wrap (i.tdiv j) = r)) (hx : ev env x = some (.c (.v (.int k i)))) (hy : ev env y = some (.c (.v (.int k j)))) (hj : j ≠ 0) (hd : dstOk g.n o.dst = true)
    (hk : Nx g (putE o.dst (.c (.v (.int k r))) env) mem bnd L N) : Nx g env mem bnd L (OneC g o N Q) := by
  refine Nx.val (x := .c (.v (.int k r))) hd (fun β a w hr w' => ?_) hk
  have e1 : a.eval x = .int k i := hr.ev hx
  have e2 : a.eval y = .int k j := hr.ev hy
  rcases hop with ⟨rfl, rfl⟩ | ⟨rfl, rfl⟩ <;> simp [execOp, ho, e1, e2, eqGuard, binOp, Op.intDiv, hj, SV.den, Ce.den]
end
end Go.Proofs.YtccmdlmlbkpjjaaGreatDoor

/- Rules: loops that are unrolled; arrays of the call's own at an index that is written out. -/
namespace Go.Proofs.YtccmdlmlbkpjjaaGreatDoor
open Go.RowKit
section
variable {g : Cx} {β : Nat → Nat} {env : Env} {mem : Mem} {bnd : Bnd} {L : Res} {a : Act} {w : World} {N : Act → World → Prop} {Q : Exit → Act → World → Prop} {c : Code} {k : List Item}

theorem Nx.unroll (h : Nx g env mem bnd L (RunC g (.code c :: .inLoop c :: k))) : Nx g env mem bnd L (RunC g (.code (.loop c) :: k)) :=
  fun β a w hr => Ret.one (fun _ => step_loop) (h β a w hr)
theorem Nx.again (h : Nx g env mem bnd L (RunC g (.code c :: .inLoop c :: k))) : Nx g env mem bnd L (RunC g (.inLoop c :: k)) :=
  fun β a w hr => Ret.one (fun _ => step_inLoop) (h β a w hr)

theorem arr_run (hr : Rel g β env mem bnd L a w) {o : Oper} {t e : TypeId} {x i : Operand} {l off n sz by_ j : Nat} {kk : IntKind} (ho : o.op = .indexAddr t x i) (hx : ev env x = some (.c (.loc l off))) (hi : ev env i = some (.c (.v (.int kk j)))) (ht : g.P.underlying t = some (.array n e)) (he : elemI g.P e = some (sz, by_)) (hj : j < n) (w' : World) :
    (execOp a.eval o).run g.P w' = .ok (.value ((SV.c (.loc l (off + j * sz))).den β)) w' := by
  obtain ⟨ei, zz, hei, hz, hzs, hpos, hez, hby⟩ := elemI_ok he
  have e1 : a.eval x = .pointer (some ⟨β l, off, none⟩) := hr.ev hx
  have e2 : a.eval i = .int kk j := hr.ev hi
  have e3 : (j : Int) < n := by omega
  simp [execOp, ho, e1, e2, Instr.indexAt, Instr.sureAddr, asIntOf, run_underlying ht, e3, sizeOf, typeInfo, hei, hez, add_plain', SV.den, Ce.den]
  try (intro hbad; omega)
theorem Nx.arr {o : Oper} {t e : TypeId} {x i : Operand} {l off n sz by_ j q : Nat} {kk : IntKind} {iv : Int} (ho : o.op = .indexAddr t x i) (hx : ev env x = some (.c (.loc l off))) (hi : ev env i = some (.c (.v (.int kk iv)))) (ht : g.P.underlying t = some (.array n e)) (he : elemI g.P e = some (sz, by_)) (hd : dstOk g.n o.dst = true) (hiv : iv = (j : Int)) (hj : j < n) (hq : off + j * sz = q)
    (hk : Nx g (putE o.dst (.c (.loc l q)) env) mem bnd L N) : Nx g env mem bnd L (OneC g o N Q) := by
  subst hiv; subst hq
  exact Nx.val hd (fun _ _ _ hr w' => arr_run hr ho hx hi ht he hj w') hk
theorem Nx.hoArr {T : World → Prop} {o : Oper} {t e : TypeId} {x i : Operand} {l off n sz by_ j q : Nat} {kk : IntKind} {iv : Int} (ho : o.op = .indexAddr t x i) (hx : ev env x = some (.c (.loc l off))) (hi : ev env i = some (.c (.v (.int kk iv)))) (ht : g.P.underlying t = some (.array n e)) (he : elemI g.P e = some (sz, by_)) (hd : dstOk g.n o.dst = true) (hiv : iv = (j : Int)) (hj : j < n) (hq : off + j * sz = q)
    (hk : Nx g (putE o.dst (.c (.loc l q)) env) mem bnd L N) : Nx g env mem bnd L (HoC g T o N) := by
  subst hiv; subst hq
  exact Nx.hoVal hd (fun _ _ _ hr w' => arr_run hr ho hx hi ht he hj w') hk
/-- append of a row of the call's own to a slice without room, which stays as it is. -/
theorem Nx.appendG (nm nm2 : Nat) {o : Oper} {t e : TypeId} {x y : Operand} {A : Option Addr} {n : Nat} {L2 : Res} {S : SP} {sz l m c' tt : Nat} {cells news : List Value} {by_ : Nat} {cs : List Ce}
    (ho : o.op = .call ⟨.builtin .append, #[x, y], #[t, t]⟩) (hx : ev env x = some (.c (.v (.slice A n n)))) (hy : ev env y = some (.c (.locs l 0 m c'))) (hl : lookM mem l = some (tt, cs)) (hv : cesV bnd cs = some news)
    (ht : g.P.underlying t = some (.slice e)) (he : elemI g.P e = some (sz, by_)) (hd : dstOk g.n o.dst = true)
    (hp2 : takeR nm2 L = some (S, L2)) (hs : Sees S A n sz cells) (hm : 0 < m) (hlen : Nat.beq news.length (m * sz) = true) (h63 : n + m ≤ maxLen) (hbytes : (n + m) * by_ ≤ 140737488355328)
    (hk : ∀ A' c'', Nx g (putE o.dst (.c (.v (.slice A' (n + m) c''))) env) mem bnd ((nm, ownS e A' (n + m) c'' sz (cells ++ news)) :: L) N) : Nx g env mem bnd L (OneC g o N Q) := by
  intro β a w hr
  obtain ⟨ei, z, hei, hz, hzs, hpos, hes, hby⟩ := elemI_ok he
  subst hes
  subst hby
  have e1 : a.eval x = .slice A n n := hr.ev hx
  have e2 : a.eval y = .slice (some ⟨β l, 0, none⟩) m c' := hr.ev hy
  have hblk := hr.block hl
  have hcv : cellsOf β cs = news.toArray := by unfold cellsOf; rw [cesV_den hr.bnd hv]
  obtain ⟨hln, hrd⟩ : Rd (hw w) A n ei.size cells := by
    obtain ⟨r, h, x1, x2, x3, r1, h1', h2', y1, y2, y3, y4, y5, y6⟩ := hr.picked (takeR_pick hp2)
    exact (hs r1 h1' (PH.dj_mono x3 y1 y2) y5).mono (PH.un_le (PH.le_trans y1 x1) (PH.le_trans y2 x2))
  have hnl : news.length = m * ei.size := by simpa using hlen
  have hnews : ∀ j u, news[j]? = some u → w.cell? ((⟨β l, 0, none⟩ : Addr).add j) = some u := fun j u hu => by
    rw [add_plain', Nat.zero_add, cell_of_row w _ _ _ _ _ hblk, hcv]
    simpa using hu
  have hsm : n + m ≤ 9223372036854775807 := by simp only [maxLen] at h63; omega
  have hge := grownCap_ge w (n + m) n e
  have hcm := grownCap_le_maxLen w (n + m) n e h63
  have key : ∃ w', (Builtin.append_ #[t, t] o.type #[.slice A n n, .slice (some ⟨β l, 0, none⟩) m c']).run g.P w = .ok (.slice (some ⟨w.heap.size, 0, none⟩) (n + m) (grownCap w (n + m) n e)) w' ∧
      w' = w.drew.alloc (.cells (cells.toArray ++ news.toArray ++ Builtin.zeroCells z.cells (grownCap w (n + m) n e - (n + m))) e) := by
    cases A with
    | none =>
      have hn0 : n = 0 := by
        rcases Nat.eq_zero_or_pos n with h | h
        · exact h
        · obtain ⟨b, o', _, _, _, hh, _⟩ := hrd h; cases hh
      subst hn0
      have hc0 : cells = [] := List.eq_nil_of_length_eq_zero (by rw [hln]; omega)
      subst hc0
      have := run_append_nil (P := g.P) w t o.type e ei z ht hei hz ⟨β l, 0, none⟩ m c' news hnl hnews hm (by omega) (by simp only [Nat.zero_add] at hbytes; omega)
      refine ⟨_, ?_, rfl⟩
      simp only [Nat.zero_add] at this ⊢
      rw [this]
      simp
    | some ad =>
      have hold : ∀ j v, cells[j]? = some v → w.cell? (ad.add j) = some v := by
        intro j v hj
        have hjl : j < cells.length := (List.getElem?_eq_some_iff.1 hj).1
        rcases Nat.eq_zero_or_pos n with h | h
        · subst h; omega
        · obtain ⟨b, off, cs2, t2, fr2, hh, hb, hc⟩ := hrd h
          cases hh
          rw [add_plain', cell_of_row w _ _ _ _ _ hb, hc j (by omega)]
          exact hj
      exact ⟨_, run_append_grow (P := g.P) w t o.type e ei z ht hei hz ad n n cells hln hold ⟨β l, 0, none⟩ m c' news hnl hnews (by omega) (by omega) (growslice_fits (by omega) hbytes), rfl⟩
  obtain ⟨w', hrun, hw'⟩ := key
  have hrun' : (execOp a.eval o).run g.P w = .ok (.value (.slice (some ⟨w.heap.size, 0, none⟩) (n + m) (grownCap w (n + m) n e))) w' := by
    simp [execOp, ho, resolve, e1, e2, invoke, builtin, hrun]
  refine wp_value hrun' (hk (some ⟨w.heap.size, 0, none⟩) (grownCap w (n + m) n e) β _ _ ?_)
  have hsat : SatW (memSP β mem ++ ((ownS e (some ⟨w.heap.size, 0, none⟩) (n + m) (grownCap w (n + m) n e) ei.size (cells ++ news) :: L.map (·.2)) ++ g.F)) w' := by
    have h1 := (hr.sat.heap (w' := w.drew) rfl).alloc (.cells (cells.toArray ++ news.toArray ++ Builtin.zeroCells z.cells (grownCap w (n + m) n e - (n + m))) e)
    rw [← hw'] at h1
    have h2 := h1.imp (Q := ownS e (some ⟨w.heap.size, 0, none⟩) (n + m) (grownCap w (n + m) n e) ei.size (cells ++ news)) (fun r h hb => by
      refine ⟨by rw [List.length_append, hln, hnl, Nat.add_mul], .inr ⟨w.heap.size, _, rfl, hb, hge, hcm, ?_, ?_⟩⟩
      · simp only [Array.size_append, List.size_toArray, size_zeroCells, hzs, hln, hnl, ← Nat.add_mul]
        congr 1
        omega
      · have hlen2 : (cells ++ news).length = (n + m) * ei.size := by rw [List.length_append, hln, hnl, Nat.add_mul]
        simp only [Array.toList_append, List.append_assoc]
        rw [← List.append_assoc, ← hlen2]
        exact List.take_left)
    exact h2.perm (List.perm_middle.symm)
  have hwo : w'.os = w.os ∧ w'.tape = w.tape ∧ w'.output = w.output := by subst hw'; exact ⟨rfl, rfl, rfl⟩
  have hR : Rel g β env mem bnd ((nm, ownS e (some ⟨w.heap.size, 0, none⟩) (n + m) (grownCap w (n + m) n e) ei.size (cells ++ news)) :: L) a w' :=
    ⟨hr.defers, hr.size, hr.env, hr.bnd, hwo.1.trans hr.os, hwo.2.1.trans hr.tape, hwo.2.2.trans hr.output, by simpa using hsat⟩
  exact hR.put o.dst (.c (.v (.slice (some ⟨w.heap.size, 0, none⟩) (n + m) (grownCap w (n + m) n e)))) hd
end
end Go.Proofs.YtccmdlmlbkpjjaaGreatDoor

/- Heads: cheap looks at what a goal stands at, for steps that are tried in turn. -/
namespace Go.Proofs.YtccmdlmlbkpjjaaGreatDoor
section
variable {g : Cx} {env : Env} {mem : Mem} {bnd : Bnd} {L : Res} {N : Act → World → Prop} {Q : Exit → Act → World → Prop} {k : List Item} {kN : Act → World → Prop} {c : Code} {i : Nat} {ops : Array Oper}
  {dst : Option Tmp} {op : Op} {ty : TypeId} {pos : String} {af : Array Edge} {gd : Option (Nat × Bool)}
theorem atRet (h : Nx g env mem bnd L (RunC g (.code .ret :: k))) : Nx g env mem bnd L (RunC g (.code .ret :: k)) := h
theorem atEnd (h : Nx g env mem bnd L (RunC g [])) : Nx g env mem bnd L (RunC g []) := h
theorem atLoop (h : Nx g env mem bnd L (RunC g (.code (.loop c) :: k))) : Nx g env mem bnd L (RunC g (.code (.loop c) :: k)) := h
theorem atIn (h : Nx g env mem bnd L (RunC g (.inLoop c :: k))) : Nx g env mem bnd L (RunC g (.inLoop c :: k)) := h
theorem atDrawn (h : Nx g env mem bnd L (RunC g (.code (.region i ops true) :: k))) : Nx g env mem bnd L (RunC g (.code (.region i ops true) :: k)) := h
theorem atDrawnN (i : Nat) {ops : Array Oper} (h : Nx g env mem bnd L (RunC g (.code (.region i ops true) :: k))) : Nx g env mem bnd L (RunC g (.code (.region i ops true) :: k)) := h
theorem atRun (h : Nx g env mem bnd L (RunC g k)) : Nx g env mem bnd L (RunC g k) := h
theorem atOps {all : Array Oper} {rest : List Oper} (h : Nx g env mem bnd L (OpsC g all rest k)) : Nx g env mem bnd L (OpsC g all rest k) := h
theorem atIdx {t : TypeId} {x j : Operand} (h : Nx g env mem bnd L (OneC g ⟨dst, .indexAddr t x j, ty, pos, af, gd⟩ N Q)) : Nx g env mem bnd L (OneC g ⟨dst, .indexAddr t x j, ty, pos, af, gd⟩ N Q) := h
theorem atLoad {t : TypeId} {x : Operand} (h : Nx g env mem bnd L (OneC g ⟨dst, .load t x, ty, pos, af, gd⟩ N Q)) : Nx g env mem bnd L (OneC g ⟨dst, .load t x, ty, pos, af, gd⟩ N Q) := h
theorem atStore {t : TypeId} {x y : Operand} (h : Nx g env mem bnd L (OneC g ⟨dst, .store t x y, ty, pos, af, gd⟩ N Q)) : Nx g env mem bnd L (OneC g ⟨dst, .store t x y, ty, pos, af, gd⟩ N Q) := h
theorem atCall (f : Nat) {ars : Array Operand} {ts : Array TypeId} (h : Nx g env mem bnd L (OneC g ⟨dst, .call ⟨.value (.func f), ars, ts⟩, ty, pos, af, gd⟩ N Q)) : Nx g env mem bnd L (OneC g ⟨dst, .call ⟨.value (.func f), ars, ts⟩, ty, pos, af, gd⟩ N Q) := h
theorem atApp {ars : Array Operand} {ts : Array TypeId} (h : Nx g env mem bnd L (OneC g ⟨dst, .call ⟨.builtin .append, ars, ts⟩, ty, pos, af, gd⟩ N Q)) : Nx g env mem bnd L (OneC g ⟨dst, .call ⟨.builtin .append, ars, ts⟩, ty, pos, af, gd⟩ N Q) := h
theorem atOne (h : Nx g env mem bnd L (OneC g ⟨dst, op, ty, pos, af, gd⟩ N Q)) : Nx g env mem bnd L (OneC g ⟨dst, op, ty, pos, af, gd⟩ N Q) := h
theorem atHoIdx {T : World → Prop} {t : TypeId} {x j : Operand} (h : Nx g env mem bnd L (HoC g T ⟨dst, .indexAddr t x j, ty, pos, af, gd⟩ N)) : Nx g env mem bnd L (HoC g T ⟨dst, .indexAddr t x j, ty, pos, af, gd⟩ N) := h
theorem atHoLoad {T : World → Prop} {t : TypeId} {x : Operand} (h : Nx g env mem bnd L (HoC g T ⟨dst, .load t x, ty, pos, af, gd⟩ N)) : Nx g env mem bnd L (HoC g T ⟨dst, .load t x, ty, pos, af, gd⟩ N) := h
theorem atHo {T : World → Prop} (h : Nx g env mem bnd L (HoC g T ⟨dst, op, ty, pos, af, gd⟩ N)) : Nx g env mem bnd L (HoC g T ⟨dst, op, ty, pos, af, gd⟩ N) := h
theorem atPlan {H : Held} {hold : Bool} {plan : List PI} (h : Nx g env mem bnd L (planHead g ops H hold plan kN)) : Nx g env mem bnd L (planHead g ops H hold plan kN) := h
theorem atAftK {H : Held} {plan : List PI} (h : Nx g env mem bnd L (AftC g ops H true plan kN)) : Nx g env mem bnd L (AftC g ops H true plan kN) := h
theorem atAftL {H : Held} {plan : List PI} (h : Nx g env mem bnd L (AftC g ops H false plan kN)) : Nx g env mem bnd L (AftC g ops H false plan kN) := h
theorem atBr {b : Bool} {X Y : Prop} (h : BrM b X Y) : BrM b X Y := h
theorem atAr {kk : IntKind} {n : Int} {C : Int → Prop} (h : Ar kk n C) : Ar kk n C := h
end
end Go.Proofs.YtccmdlmlbkpjjaaGreatDoor

/- The framework, whole. -/
namespace Go.Proofs.YtccmdlmlbkpjjaaGreatDoor
abbrev iv (n : Int) : SV := .c (.v (.int .i64 n))
abbrev bv (b : Bool) : SV := .c (.v (.bool b))
abbrev sl (A : Option Addr) (n c : Nat) : SV := .c (.v (.slice A n c))
end Go.Proofs.YtccmdlmlbkpjjaaGreatDoor

/- From a contract of a law to its row: arguments opened, 'true' given back, nothing old turned. -/
namespace Go.Proofs.YtccmdlmlbkpjjaaGreatDoor
open Go.ChangeShapes Go.WideShapes Go.ChangeAt Go.RowKit Go.Deep

theorem below_of_le {W w' : World} (h : PH.le (hw W) (hw w')) (ho : w'.os = W.os) (ht : w'.tape = W.tape) (hu : w'.output = W.output) : Below W.heap.size W w' := by
  refine ⟨ho, ht, hu, ?_, ?_⟩
  · rcases Nat.eq_zero_or_pos W.heap.size with h0 | h0
    · omega
    · have hl : W.heap.size - 1 < W.heap.size := by omega
      have := h _ _ (show hw W (W.heap.size - 1) = some W.heap[W.heap.size - 1] from Array.getElem?_eq_getElem hl)
      have := (Array.getElem?_eq_some_iff.1 this).1
      omega
  · intro k hk
    have := h k _ (show hw W k = some W.heap[k] from Array.getElem?_eq_getElem hk)
    exact this.trans (Array.getElem?_eq_getElem hk).symm

theorem FnOk.law {P : Program} {f : FuncId} {args : List Value} {W : World} {Q0 : Value → List SP → Prop} (h : FnOk P f args [roAll (hw W)] Q0) (hq : ∀ v Q, Q0 v Q → v = .bool true) :
    Calls P f args.toArray W fun e W' => e = .returned (.bool true) ∧ Below W.heap.size W W' :=
  (h.2 [roAll (hw W)] W ((SatW.start W).dup (pers_roAll _))).mono fun e w' ⟨v, Q, h1, h2, h3, h4, h5, h6⟩ => by
    have := hq v Q h2
    subst this
    obtain ⟨r, hh, a, b, c, d⟩ := h6
    exact ⟨h1, below_of_le (SatW.stays ⟨r, hh, a, b, c, Sat.app_right d⟩) h3 h4 h5⟩

theorem FnOk.law2 {P : Program} {f : FuncId} {args : List Value} {W : World} {Q0 : Value → List SP → Prop} (h : FnOk P f args [roAll (hw W), roAll (hw W)] Q0) (hq : ∀ v Q, Q0 v Q → v = .bool true) :
    Calls P f args.toArray W fun e W' => e = .returned (.bool true) ∧ Below W.heap.size W W' :=
  (h.2 [roAll (hw W)] W (((SatW.start W).dup (pers_roAll _)).dup (pers_roAll _))).mono fun e w' ⟨v, Q, h1, h2, h3, h4, h5, h6⟩ => by
    have := hq v Q h2
    subst this
    obtain ⟨r, hh, a, b, c, d⟩ := h6
    exact ⟨h1, below_of_le (SatW.stays ⟨r, hh, a, b, c, Sat.app_right d⟩) h3 h4 h5⟩

theorem TrodAll_stays {H : Type} {enc : TypeId × Value → H} {P : Program} (hl : laidOutB P = true) {W W' : World} (hb : Below W.heap.size W W') :
    ∀ {ts : List TypeId} {vs : List Value} {ds : List (DataW H)} {ps : List MemPlace}, (ts.all fun t => P.readableRec t && decide (t < P.types.size)) = true →
      DataW.TrodAll enc P W 0 (fun _ => true) true ts vs ds ps → (∀ x ∈ ps, x.block < W.heap.size) → DataW.TrodAll enc P W' 0 (fun b => decide (b < W.heap.size)) true ts vs ds ps
  | [], vs, ds, ps, _, h, _ => by
    obtain ⟨rfl, rfl, rfl⟩ := trodAll_nil h
    exact trodAll_mk0
  | t :: ts, vs, ds, ps, hr, h, hlt => by
    obtain ⟨v, vs', d, ds', p, q, rfl, rfl, rfl, h1, h2⟩ := trodAll_cons h
    simp only [List.all_cons, Bool.and_eq_true, decide_eq_true_eq] at hr
    exact trodAll_cons_mk (Below.trod hl hr.1.1 hr.1.2 h1 hb fun x hx => hlt x (List.mem_append_left _ hx)) (TrodAll_stays hl hb (by simpa using hr.2) h2 fun x hx => hlt x (List.mem_append_right _ hx))

theorem trodAll_len {H : Type} {enc : TypeId × Value → H} {P : Program} {w : World} {base : Nat} {spare : Nat → Bool} {held : Bool} :
    ∀ {ts : List TypeId} {vs : List Value} {ds : List (DataW H)} {ps : List MemPlace}, DataW.TrodAll enc P w base spare held ts vs ds ps → ds.length = ts.length
  | [], vs, ds, ps, h => by
    obtain ⟨rfl, rfl, rfl⟩ := trodAll_nil h
    rfl
  | t :: ts, vs, ds, ps, h => by
    obtain ⟨v, vs', d, ds', p, q, rfl, rfl, rfl, h1, h2⟩ := trodAll_cons h
    simp [trodAll_len h2]

/-- A law: true, and the arguments read as they did. -/
theorem law_lifted {C : Checked} {f : FuncId} {fn : Func} {s : ChangeSpec} {tb : TypeId} {conds : List PathCond} {os : Os} {H : Type} {enc : TypeId × Value → H} (hl : laidOutB C.prog = true)
    (hvars : s.vars = []) (hrt : fn.resultTypes = #[tb]) (htb : C.prog.underlying tb = some .bool)
    (hfn : ∀ ds : List (DataW H), ds.length = fn.params.toList.length → (s.fn H ds).results = [.lit (.bool true)] ∧ (s.fn H ds).args = ds ∧ (s.fn H ds).vars = [])
    (hrd : (fn.params.toList.all fun t => C.prog.readableRec t && decide (t < C.prog.types.size)) = true)
    (own : ownKnob C.prog.godebug = none) (started : os.Started) (noInit : C.prog.inits.idxOf? f = none) (hfu : C.prog.funcs[f]? = some fn)
    (witness : ∃ (w : World) (tape : Tape) (i : Input), w.os = os ∧ (w.forCall tape i).Shaped C.prog ∧ i.vars = [] ∧ Input.okWide C.prog (w.forCall tape i) .any w.heap.size f i ∧
      s.pre6 enc C.prog fn conds false (w.forCall tape i).memory i.args ∧ ({} : Assume).holds C.prog (lone (Frame.enter C.prog f i.args .normal) [] (w.forCall tape i)))
    (contract : ∀ (W : World) (base : Nat) (args : List Value) (ds : List (DataW H)) (ps : List MemPlace),
      (∀ (j : Nat) t v, fn.params[j]? = some t → args[j]? = some v → Value.okWide C.prog W .any base t v) →
      DataW.TrodAll enc C.prog W 0 (fun _ => true) true fn.params.toList args ds ps →
      Calls C.prog f args.toArray W fun e W' => e = .returned (.bool true) ∧ Below W.heap.size W W') :
    ReturnsInHanded {} C os f .any (s.pre6 enc C.prog fn conds false) (s.post enc C.prog fn false true false false) := by
  refine returnsInHanded_of_change_sized (C := C) own started noInit hfu witness ?_
  intro W base args ds gs before hval hW _ _ _
  have hW' := hW
  obtain ⟨p, q, hA, hV, rfl, _, _⟩ := hW
  rw [hvars] at hV
  obtain ⟨rfl, rfl⟩ := trodVars_none hV
  have hlen := trodAll_len hA
  have hc := contract W base args.toList ds p (fun j t v h1 h2 => hval j t v h1 (by simpa using h2)) hA
  refine hc.mono fun e W' ⟨he, hb⟩ => ⟨_, he, ?_⟩
  obtain ⟨h1, h2, h3⟩ := hfn ds hlen
  have hlt : ∀ x ∈ p, x.block < W.heap.size := fun x hx => hW'.lt x (List.mem_append_left _ hx)
  refine ⟨ds, [], p ++ [], [], p, [], hW', ?_, ?_, ?_, hb.frame _, fun h => by cases h⟩
  · rw [List.append_nil, h1, hrt]
    exact trodAll_mk1 (shut_bool htb true)
  · rw [List.append_nil, h2]
    exact TrodAll_stays hl hb hrd hA hlt
  · rw [List.append_nil, h3, hvars]
    rfl

/-- .. with the bytes that the arguments take: a law: true, and the arguments read as they did. -/
theorem law_lifted_sized {C : Checked} {f : FuncId} {fn : Func} {s : ChangeSpec} {tb : TypeId} {conds : List PathCond} {os : Os} {H : Type} {enc : TypeId × Value → H} (hl : laidOutB C.prog = true)
    (hvars : s.vars = []) (hrt : fn.resultTypes = #[tb]) (htb : C.prog.underlying tb = some .bool)
    (hfn : ∀ ds : List (DataW H), ds.length = fn.params.toList.length → (s.fn H ds).results = [.lit (.bool true)] ∧ (s.fn H ds).args = ds ∧ (s.fn H ds).vars = [])
    (hrd : (fn.params.toList.all fun t => C.prog.readableRec t && decide (t < C.prog.types.size)) = true)
    (own : ownKnob C.prog.godebug = none) (started : os.Started) (noInit : C.prog.inits.idxOf? f = none) (hfu : C.prog.funcs[f]? = some fn)
    (witness : ∃ (w : World) (tape : Tape) (i : Input), w.os = os ∧ (w.forCall tape i).Shaped C.prog ∧ i.vars = [] ∧ Input.okWide C.prog (w.forCall tape i) .any w.heap.size f i ∧
      s.pre6 enc C.prog fn conds false (w.forCall tape i).memory i.args ∧ ({} : Assume).holds C.prog (lone (Frame.enter C.prog f i.args .normal) [] (w.forCall tape i)))
    (contract : ∀ (W : World) (base : Nat) (args : List Value) (ds : List (DataW H)) (ps : List MemPlace),
      (∀ (j : Nat) t v, fn.params[j]? = some t → args[j]? = some v → Value.okWide C.prog W .any base t v) →
      DataW.TrodAll enc C.prog W 0 (fun _ => true) true fn.params.toList args ds ps →
      (DataW.weightsEach C.prog (fn.params.toList ++ s.plain.varTypes C.prog) (ds ++ [])).all (· ≤ reachBytes) = true →
      Calls C.prog f args.toArray W fun e W' => e = .returned (.bool true) ∧ Below W.heap.size W W') :
    ReturnsInHanded {} C os f .any (s.pre6 enc C.prog fn conds false) (s.post enc C.prog fn false true false false) := by
  refine returnsInHanded_of_change_sized (C := C) own started noInit hfu witness ?_
  intro W base args ds gs before hval hW _ hsz _
  have hW' := hW
  obtain ⟨p, q, hA, hV, rfl, _, _⟩ := hW
  rw [hvars] at hV
  obtain ⟨rfl, rfl⟩ := trodVars_none hV
  have hlen := trodAll_len hA
  have hc := contract W base args.toList ds p (fun j t v h1 h2 => hval j t v h1 (by simpa using h2)) hA hsz
  refine hc.mono fun e W' ⟨he, hb⟩ => ⟨_, he, ?_⟩
  obtain ⟨h1, h2, h3⟩ := hfn ds hlen
  have hlt : ∀ x ∈ p, x.block < W.heap.size := fun x hx => hW'.lt x (List.mem_append_left _ hx)
  refine ⟨ds, [], p ++ [], [], p, [], hW', ?_, ?_, ?_, hb.frame _, fun h => by cases h⟩
  · rw [List.append_nil, h1, hrt]
    exact trodAll_mk1 (shut_bool htb true)
  · rw [List.append_nil, h2]
    exact TrodAll_stays hl hb hrd hA hlt
  · rw [List.append_nil, h3, hvars]
    rfl

theorem slice_len {H : Type} {enc : TypeId × Value → H} {P : Program} {w : World} {base : Nat} {spare : Nat → Bool} {held : Bool} {t e : TypeId} {A : Option Addr} {n c : Nat} {d : DataW H} {p : List MemPlace} (ht : P.underlying t = some (.slice e)) (h : DataW.Trod enc P w base spare held t (.slice A n c) d p) :
    n = 0 ∨ ∃ xs ys, d = .slice xs ys ∧ xs.length = n := by
  obtain ⟨fuel, hf⟩ := h
  rcases open_slice ht hf with ⟨hcs, _⟩ | ⟨a, len', cap', m, k, D, Pl, hcs, _, hlc, hcm, hm, hx, hi⟩
  · simp [Value.cells] at hcs
    exact .inl hcs.2.1
  · simp [Value.cells] at hcs
    obtain ⟨rfl, rfl, rfl⟩ := hcs
    simp only [Prod.mk.injEq] at hx
    exact .inr ⟨_, _, hx.1, by simp⟩

/-! ### Arguments opened -/
def I64 (n : Int) : Prop := -9223372036854775808 ≤ n ∧ n ≤ 9223372036854775807
theorem I64.of_wf {n : Int} (h : (Lit.int .i64 n).wf = true) : I64 n := by
  simp [Lit.wf, IntKind.min, IntKind.max, IntKind.signed, IntKind.bits] at h
  exact ⟨by omega, by omega⟩

def tiled (P : Program) (ok : TypeId → Bool) (T : Nat) : Nat → List Field → Bool
  | o, [] => o == T
  | o, f :: r => f.offset == o && (ok f.type && tiled P ok T (o + P.cellsOf f.type) r)
def intTree (P : Program) : Nat → TypeId → Bool
  | 0, _ => false
  | n + 1, t => match P.underlying t with
    | some (.int .i64) => true
    | some (.struct fs) => tiled P (intTree P n) (P.cellsOf t) 0 fs.toList
    | _ => false
abbrev ints64 (l : List Int) : List Value := l.map fun n => .int .i64 n
section
variable {H : Type} {enc : TypeId × Value → H} {P : Program} {w : World} {base : Nat} {spare : Nat → Bool} {held : Bool}
theorem trod_ints : ∀ (k : Nat) {fuel : Nat} {t : TypeId} {cs : List Value} {x : DataW H × List MemPlace}, intTree P k t = true → DataW.trod enc P w base spare held fuel t cs = some x →
    ∃ l : List Int, cs = ints64 l ∧ ∀ n ∈ l, I64 n
  | 0, _, _, _, _, h, _ => by simp [intTree] at h
  | k + 1, fuel, t, cs, x, h, ht => by
    unfold intTree at h
    split at h
    · rename_i hu
      obtain ⟨n, rfl, _, hw⟩ := DataW.trod_int hu ht
      exact ⟨[n], rfl, by simpa using I64.of_wf hw⟩
    · rename_i fs hu
      obtain ⟨xs, n, _, _, hlen, hxl, hf⟩ := DataW.trod_struct hu ht
      have hall : ∀ f ∈ fs.toList, intTree P k f.type = true → ∃ l : List Int, (cs.drop f.offset).take (P.cellsOf f.type) = ints64 l ∧ ∀ n ∈ l, I64 n := by
        intro f hfm hi
        obtain ⟨i, hi1, hi2⟩ := List.getElem_of_mem hfm
        have hil : i < fs.size := by simpa using hi1
        have h1 := hf i f (by rw [← hi2]; simp [hil])
        rw [List.getElem?_eq_getElem (by omega)] at h1
        exact trod_ints k hi h1
      have key : ∀ (l : List Field) (o : Nat), (∀ f ∈ l, f ∈ fs.toList) → tiled P (intTree P k) (P.cellsOf t) o l = true → ∃ z : List Int, cs.drop o = ints64 z ∧ ∀ n ∈ z, I64 n := by
        intro l
        induction l with
        | nil =>
          intro o _ ho
          simp only [tiled, beq_iff_eq] at ho
          exact ⟨[], by rw [List.drop_eq_nil_of_le (by omega)]; rfl, by simp⟩
        | cons f r ih =>
          intro o hm ho
          simp only [tiled, Bool.and_eq_true, beq_iff_eq] at ho
          obtain ⟨z1, e1, r1⟩ := hall f (hm f (by simp)) ho.2.1
          obtain ⟨z2, e2, r2⟩ := ih _ (fun g hg => hm g (by simp [hg])) ho.2.2
          refine ⟨z1 ++ z2, ?_, ?_⟩
          · rw [← List.take_append_drop (P.cellsOf f.type) (cs.drop o), List.drop_drop, e2, ← ho.1, e1]
            simp
          · intro n hn
            rcases List.mem_append.1 hn with hn | hn
            · exact r1 n hn
            · exact r2 n hn
      obtain ⟨z, e, r⟩ := key fs.toList 0 (fun _ h => h) h
      exact ⟨z, by simpa using e, r⟩
    · simp at h

theorem list_of {α : Type} {F : Nat → α → Prop} : ∀ (n : Nat), (∀ i, i < n → ∃ x, F i x) → ∃ l : List α, l.length = n ∧ ∀ i (h : i < l.length), F i l[i]
  | 0, _ => ⟨[], rfl, fun i h => by simp at h⟩
  | n + 1, h => by
    obtain ⟨l, hl, hf⟩ := list_of n fun i hi => h i (by omega)
    obtain ⟨x, hx⟩ := h n (by omega)
    refine ⟨l ++ [x], by simp [hl], fun i hi => ?_⟩
    rw [List.getElem_append]
    split
    · rename_i h1; exact hf i h1
    · rename_i h1
      have : i = n := by simp at hi; omega
      subst this
      simpa using hx

/-- A slice of what is laid flat: its elements, where they lie. -/
theorem open_flat {α : Type} {encA : α → List Value} {Q : α → Prop} {t e : TypeId} {C : Nat} {r : Reach} {b0 : Nat} {v : Value} {d : DataW H} {p : List MemPlace} (ht : P.underlying t = some (.slice e)) (hC : P.cellsOf e = C) (hC0 : 0 < C)
    (hopen : ∀ (n : Nat) (cs : List Value) (y : DataW H × List MemPlace), DataW.trod enc P w base spare held n e cs = some y → ∃ x, cs = encA x ∧ Q x) (he : ∀ x, (encA x).length = C)
    (hval : Value.okWide P w r b0 t v) (h : DataW.Trod enc P w base spare held t v d p) :
    ∃ (A : Option Addr) (l : List α) (c : Nat), v = .slice A l.length c ∧ Rd (hw w) A l.length C (l.flatMap encA) ∧ (∀ x ∈ l, Q x) ∧ l.length ≤ c ∧ c ≤ maxLen := by
  obtain ⟨a0, len, cap, rfl⟩ := okWide_slice ht hval
  obtain ⟨fuel, hf⟩ := h
  rcases open_slice ht hf with ⟨hcs, _⟩ | ⟨a, len', cap', m, n, D, Pl, hcs, _, hlc, hcm, hm, _, hi⟩
  · simp [Value.cells] at hcs
    obtain ⟨rfl, rfl, rfl⟩ := hcs
    exact ⟨none, [], 0, rfl, ⟨by simp, fun h => by simp at h⟩, by simp, Nat.le_refl _, Nat.zero_le _⟩
  · simp [Value.cells] at hcs
    obtain ⟨rfl, rfl, rfl⟩ := hcs
    have hml : len ≤ m := by rw [hm]; split <;> omega
    obtain ⟨l, hl, hq⟩ := list_of (F := fun i x => w.cells? base (a.add (i * C)) C = some (encA x) ∧ Q x) len (fun i hi' => by
      obtain ⟨cs', h1, h2⟩ := hi i (by omega)
      obtain ⟨x, rfl, hx⟩ := hopen _ _ _ h2
      rw [hC] at h1
      exact ⟨x, h1, hx⟩)
    subst hl
    refine ⟨some a, l, cap, rfl, ⟨flat_len he l, fun hpos => ?_⟩, fun x hx => ?_, hlc, hcm⟩
    · have hcell : ∀ j, j < l.length * C → w.cell? (a.add j) = (l.flatMap encA)[j]? := by
        intro j hj
        have hjC : j % C < C := Nat.mod_lt _ hC0
        have hjd : j / C < l.length := Nat.div_lt_of_lt_mul (by rw [Nat.mul_comm]; exact hj)
        have e1 : j = j / C * C + j % C := by rw [Nat.mul_comm]; exact (Nat.div_add_mod j C).symm
        obtain ⟨_, _, hat⟩ := World.cells?_some (hq _ hjd).1
        have h2 := hat _ hjC
        rw [Go.Deep.add_add, ← e1] at h2
        rw [h2, ← flat_at he l _ hjd _ hjC, ← e1]
      have h0 := hcell 0 (by exact Nat.mul_pos hpos hC0)
      have hlen := flat_len he l
      have hp0 : 0 < (l.flatMap encA).length := by rw [hlen]; exact Nat.mul_pos hpos hC0
      rw [List.getElem?_eq_getElem hp0] at h0
      obtain ⟨b, off, spot⟩ := a
      have hspot : spot = none := by simpa [Addr.add] using World.cell?_spot h0
      subst hspot
      unfold World.cell? at h0
      split at h0
      · rename_i c tt fr hb
        simp only [Addr.add, if_true] at hb
        refine ⟨b, off, c, tt, fr, rfl, hb, fun j hj => ?_⟩
        have := hcell j hj
        rw [← this, add_plain]
        unfold World.cell?
        dsimp only
        rw [hb]
        rfl
      · cases h0
    · obtain ⟨i, hi1, rfl⟩ := List.getElem_of_mem hx
      exact (hq i hi1).2

theorem open_i64 {r : Reach} {b0 : Nat} {t : TypeId} {v : Value} {d : DataW H} {p : List MemPlace} (ht : P.underlying t = some (.int .i64)) (hval : Value.okWide P w r b0 t v) (h : DataW.Trod enc P w base spare held t v d p) :
    ∃ n, v = .int .i64 n ∧ I64 n := by
  obtain ⟨n, h1, _, _, h2⟩ := open_int ht hval h
  exact ⟨n, h1, I64.of_wf h2⟩
end
end Go.Proofs.YtccmdlmlbkpjjaaGreatDoor

/- Laws whose rows list package-level variables with what they hold; slices within structs. -/
namespace Go.Proofs.YtccmdlmlbkpjjaaGreatDoor
open Go.ChangeShapes Go.WideShapes Go.ChangeAt Go.RowKit Go.Deep

theorem law_laid {C : Checked} {f : FuncId} {fn : Func} {s : ChangeSpec} {tb : TypeId} {conds : List PathCond} {os : Os} {H : Type} {enc : TypeId × Value → H} {laid : List (String × DataW Unit)} (hl : laidOutB C.prog = true)
    (hvars : s.vars = []) (hrt : fn.resultTypes = #[tb]) (htb : C.prog.underlying tb = some .bool)
    (hfn : ∀ ds : List (DataW H), ds.length = fn.params.toList.length → (s.fn H ds).results = [.lit (.bool true)] ∧ (s.fn H ds).args = ds ∧ (s.fn H ds).vars = [])
    (hrd : (fn.params.toList.all fun t => C.prog.readableRec t && decide (t < C.prog.types.size)) = true)
    (own : ownKnob C.prog.godebug = none) (started : os.Started) (noInit : C.prog.inits.idxOf? f = none) (hfu : C.prog.funcs[f]? = some fn)
    (witness : ∃ (w : World) (tape : Tape) (i : Input), w.os = os ∧ (w.forCall tape i).Shaped C.prog ∧ i.vars = [] ∧ Input.okWide C.prog (w.forCall tape i) .any w.heap.size f i ∧
      ((s.pre enc C.prog fn conds false (w.forCall tape i).memory i.args ∧ laidMetH C.prog laid (w.forCall tape i).memory) ∧ sizedMet enc C.prog fn (OpenSpec.ofChange s) false (w.forCall tape i).memory i.args) ∧ ({} : Assume).holds C.prog (lone (Frame.enter C.prog f i.args .normal) [] (w.forCall tape i)))
    (contract : ∀ (W : World) (base : Nat) (args : List Value) (ds : List (DataW H)) (ps : List MemPlace),
      (∀ (j : Nat) t v, fn.params[j]? = some t → args[j]? = some v → Value.okWide C.prog W .any base t v) →
      DataW.TrodAll enc C.prog W 0 (fun _ => true) true fn.params.toList args ds ps →
      (DataW.weightsEach C.prog (fn.params.toList ++ s.plain.varTypes C.prog) (ds ++ [])).all (· ≤ reachBytes) = true →
      W.ShapedOpen C.prog → laidMetH C.prog laid W →
      Calls C.prog f args.toArray W fun e W' => e = .returned (.bool true) ∧ Below W.heap.size W W') :
    ReturnsInHanded {} C os f .any (fun w args => (s.pre enc C.prog fn conds false w args ∧ laidMetH C.prog laid w) ∧ sizedMet enc C.prog fn (OpenSpec.ofChange s) false w args) (s.post enc C.prog fn false true false false) := by
  refine returnsInHanded_of_calls own started noInit witness ?_
  intro w tape i _ hsh _ hok hpre _
  obtain ⟨_, _, _, fn', hfn', _, _, _, _, hval⟩ := hok
  have e : fn' = fn := Option.some.inj (hfn'.symm.trans hfu)
  subst e
  obtain ⟨⟨⟨ds, gs, before, hw, hc⟩, hx⟩, hz⟩ := hpre
  have hW := DataW.Whole.of_heap (w' := w.forCall tape i) (by rfl) hw
  have hsz := hz.weights hw
  have hlay : laidMetH C.prog laid (w.forCall tape i) := laidMetH.of_heap (by rfl) hx
  generalize w.forCall tape i = W at *
  have hW' := hW
  obtain ⟨p, q, hA, hV, rfl, _, _⟩ := hW
  rw [hvars] at hV
  obtain ⟨rfl, rfl⟩ := trodVars_none hV
  have hlen := trodAll_len hA
  have hcc := contract W w.heap.size i.args.toList ds p (fun j t v h1 h2 => hval j t v h1 (by simpa using h2)) hA hsz hsh hlay
  refine hcc.mono fun e W' ⟨he, hb⟩ => ?_
  subst he
  obtain ⟨h1, h2, h3⟩ := hfn ds hlen
  have hlt : ∀ x ∈ p, x.block < W.heap.size := fun x hx => hW'.lt x (List.mem_append_left _ hx)
  refine ChangeSpec.post_blind ⟨ds, [], p ++ [], [], p, [], hW', ?_, ?_, ?_, hb.frame _, fun h => by cases h⟩
  · rw [List.append_nil, h1, hrt]
    exact trodAll_mk1 (shut_bool htb true)
  · rw [List.append_nil, h2]
    exact TrodAll_stays hl hb hrd hA hlt
  · rw [List.append_nil, h3, hvars]
    rfl

section
variable {H : Type} {enc : TypeId × Value → H} {P : Program} {w : World} {base : Nat} {spare : Nat → Bool} {held : Bool}
theorem open_cells {α : Type} {encA : α → List Value} {Q : α → Prop} {t e : TypeId} {C : Nat} {fuel : Nat} {cs0 : List Value} {x0 : DataW H × List MemPlace} (ht : P.underlying t = some (.slice e)) (hC : P.cellsOf e = C) (hC0 : 0 < C)
    (hopen : ∀ (n : Nat) (cs : List Value) (y : DataW H × List MemPlace), DataW.trod enc P w base spare held n e cs = some y → ∃ x, cs = encA x ∧ Q x) (he : ∀ x, (encA x).length = C)
    (h : DataW.trod enc P w base spare held fuel t cs0 = some x0) :
    ∃ (A : Option Addr) (l : List α) (c : Nat), cs0 = [.slice A l.length c] ∧ Rd (hw w) A l.length C (l.flatMap encA) ∧ (∀ x ∈ l, Q x) ∧ l.length ≤ c ∧ c ≤ maxLen := by
  rcases open_slice ht h with ⟨hcs, _⟩ | ⟨a, len, cap, m, n, D, Pl, hcs, _, hlc, hcm, hm, _, hi⟩
  · exact ⟨none, [], 0, hcs, ⟨by simp, fun h => by simp at h⟩, by simp, Nat.le_refl _, Nat.zero_le _⟩
  · have hml : len ≤ m := by rw [hm]; split <;> omega
    obtain ⟨l, hl, hq⟩ := list_of (F := fun i x => w.cells? base (a.add (i * C)) C = some (encA x) ∧ Q x) len (fun i hi' => by
      obtain ⟨cs', h1, h2⟩ := hi i (by omega)
      obtain ⟨x, rfl, hx⟩ := hopen _ _ _ h2
      rw [hC] at h1
      exact ⟨x, h1, hx⟩)
    subst hl
    refine ⟨some a, l, cap, hcs, ⟨flat_len he l, fun hpos => ?_⟩, fun x hx => ?_, hlc, hcm⟩
    · have hcell : ∀ j, j < l.length * C → w.cell? (a.add j) = (l.flatMap encA)[j]? := by
        intro j hj
        have hjC : j % C < C := Nat.mod_lt _ hC0
        have hjd : j / C < l.length := Nat.div_lt_of_lt_mul (by rw [Nat.mul_comm]; exact hj)
        have e1 : j = j / C * C + j % C := by rw [Nat.mul_comm]; exact (Nat.div_add_mod j C).symm
        obtain ⟨_, _, hat⟩ := World.cells?_some (hq _ hjd).1
        have h2 := hat _ hjC
        rw [Go.Deep.add_add, ← e1] at h2
        rw [h2, ← flat_at he l _ hjd _ hjC, ← e1]
      have h0 := hcell 0 (by exact Nat.mul_pos hpos hC0)
      have hlen := flat_len he l
      have hp0 : 0 < (l.flatMap encA).length := by rw [hlen]; exact Nat.mul_pos hpos hC0
      rw [List.getElem?_eq_getElem hp0] at h0
      obtain ⟨b, off, spot⟩ := a
      have hspot : spot = none := by simpa [Addr.add] using World.cell?_spot h0
      subst hspot
      unfold World.cell? at h0
      split at h0
      · rename_i c tt fr hb
        simp only [Addr.add, if_true] at hb
        refine ⟨b, off, c, tt, fr, rfl, hb, fun j hj => ?_⟩
        have := hcell j hj
        rw [← this, add_plain]
        unfold World.cell?
        dsimp only
        rw [hb]
        rfl
      · cases h0
    · obtain ⟨i, hi1, rfl⟩ := List.getElem_of_mem hx
      exact (hq i hi1).2

end
/-- A listed variable's block. -/
theorem var_block {P : Program} {w : World} {n : String} {g : Nat} {cs : Array Value} (hg : P.globalNamed n = some g) (h : w.var? P n = some cs) : ∃ t fr, hw w g = some (.cells cs t fr) := by
  simp only [World.var?, hg, Option.bind_some] at h
  unfold hw
  split at h
  · rename_i c t fr hb; cases h; exact ⟨t, fr, hb⟩
  · cases h
theorem reads_block {P : Program} {w : World} {n : String} {d : DataW Unit} {g t : Nat} (h : Lib.VarReads P w n d) (hg : P.globalNamed n = some g) (ht : (P.globals[g]?).map (·.type) = some t) :
    ∃ cs tt fr fuel p, hw w g = some (.cells cs tt fr) ∧ DataW.trod (fun _ => ()) P w 0 (fun _ => true) false fuel t cs.toList = some (d, p) := by
  obtain ⟨g', t', cs, fuel, p, h1, h2, h3, h4⟩ := h
  obtain rfl := Option.some.inj (hg.symm.trans h1)
  obtain rfl := Option.some.inj (ht.symm.trans h2)
  obtain ⟨tt, fr, hb⟩ := var_block hg h3
  exact ⟨cs, tt, fr, fuel, p, hb, h4⟩
/-- An array of strings that reads as these holds them. -/
theorem strs_of_tab {H : Type} {enc : TypeId × Value → H} {P : Program} {w : World} {base : Nat} {sp : Nat → Bool} {held : Bool} {fuel : Nat} {t e : TypeId} {n : Nat} {cs : List Value} {zs : List (List UInt8)} {p : List MemPlace}
    (ht : P.underlying t = some (.array n e)) (he : P.underlying e = some .string) (hce : P.cellsOf e = 1) (hct : P.cellsOf t = n)
    (h : DataW.trod enc P w base sp held fuel t cs = some (.agg (zs.map fun z => .lit (.string z)), p)) : cs = zs.map fun z => Value.string ⟨z.toArray⟩ := by
  cases fuel with
  | zero => simp [DataW.trod] at h
  | succ fuel =>
    simp only [DataW.trod, ht, hce, hct, Nat.mul_one] at h
    split at h
    · rename_i hl
      obtain ⟨xs, hm, hx⟩ := Option.map_eq_some_iff.1 h
      have hxs : xs.map (·.1) = zs.map fun z => (DataW.lit (.string z) : DataW H) := by
        have := congrArg Prod.fst hx
        simpa using this
      have hxl : xs.length = n := by simpa using Lib.mapM_length hm
      have hzl : zs.length = n := by
        have := congrArg List.length hxs
        simp at this
        omega
      apply List.ext_getElem?
      intro i
      by_cases hi : i < n
      · obtain ⟨b, hb, hf⟩ := Lib.mapM_at hm i i (by simp [hi])
        obtain ⟨z, hc, rfl, _⟩ := DataW.trod_string he hf
        have h1 : cs[i]? = some (.string z) := by
          have := congrArg (·[0]?) hc
          simpa [List.getElem?_take, List.getElem?_drop] using this
        have h2 : (xs.map (·.1))[i]? = some (DataW.lit (.string z.data.toList) : DataW H) := by simp [hb]
        rw [hxs] at h2
        simp only [List.getElem?_map, Option.map_eq_some_iff, DataW.lit.injEq, Lit.string.injEq] at h2
        obtain ⟨z', hz', rfl⟩ := h2
        rw [h1]
        simp [hz']
      · rw [List.getElem?_eq_none (by omega), List.getElem?_eq_none (by simp; omega)]
    · cases h
/-- A variable of an interface's type that doesn't read as nil. -/
theorem iface_of {H : Type} {enc : TypeId × Value → H} {P : Program} {w : World} {base : Nat} {sp : Nat → Bool} {held : Bool} {fuel : Nat} {t : TypeId} {ms : Array (String × TypeId)} {cs : List Value} {s : String} {d : DataW H} {p : List MemPlace}
    (ht : P.underlying t = some (.interface ms)) (h : DataW.trod enc P w base sp held fuel t cs = some (.iface s d, p)) : ∃ u v, cs = [.iface u v] := by
  cases fuel with
  | zero => simp [DataW.trod] at h
  | succ fuel =>
    unfold DataW.trod at h
    rw [ht] at h
    split at h <;> first | (simp_all; done) | exact ⟨_, _, rfl⟩ | skip
end Go.Proofs.YtccmdlmlbkpjjaaGreatDoor

/- Rules for strings, as lists of bytes. -/
namespace Go.Proofs.YtccmdlmlbkpjjaaGreatDoor
open Go.RowKit

abbrev str (l : List UInt8) : Value := .string ⟨l.toArray⟩
abbrev sv (l : List UInt8) : SV := .c (.v (.string ⟨l.toArray⟩))
theorem toList_str (l : List UInt8) : ByteArray.toList ⟨l.toArray⟩ = l := by rw [Lib.toList_data]
theorem str_inj {a b : List UInt8} : str a = str b ↔ a = b := by
  constructor
  · intro h
    injection h with h
    have := congrArg ByteArray.toList h
    rwa [toList_str, toList_str] at this
  · intro h; rw [h]
theorem data_app (a b : List UInt8) : (⟨a.toArray⟩ : ByteArray) ++ ⟨b.toArray⟩ = ⟨(a ++ b).toArray⟩ := by
  apply ByteArray.ext
  simp
theorem data_ext (a : List UInt8) (l h : Nat) (hh : h ≤ a.length) : (⟨a.toArray⟩ : ByteArray).extract l h = ⟨((a.take h).drop l).toArray⟩ := by
  apply ByteArray.ext
  simp only [ByteArray.data_extract, List.extract_toArray]
  congr 1
  rw [List.extract_eq_take_drop, List.drop_take]
theorem Ar.to {k : IntKind} {n : Int} {C : Int → Prop} (m : Int) (e : n = m) (h : inR k m) (c : C m) : Ar k n C := by subst e; exact Ar.ok h c
/-- The byte at a place. -/
def byteAt (l : List UInt8) (i : Int) : Int := (l.getD i.toNat 0).toNat

section
variable {g : Cx} {β : Nat → Nat} {env : Env} {mem : Mem} {bnd : Bnd} {L : Res} {a : Act} {w : World} {N : Act → World → Prop} {Q : Exit → Act → World → Prop} {T : World → Prop}

theorem cat_run (hr : Rel g β env mem bnd L a w) {o : Oper} {t tt : TypeId} {x y : Operand} {l m : List UInt8} (ho : o.op = .binOp .add t x y tt) (hx : ev env x = some (sv l)) (hy : ev env y = some (sv m)) (hl : l.length + m.length ≤ 9223372036854775807) (w' : World) :
    (execOp a.eval o).run g.P w' = .ok (.value ((sv (l ++ m)).den β)) w' := by
  have e1 : a.eval x = str l := hr.ev hx
  have e2 : a.eval y = str m := hr.ev hy
  have h1 : ¬ ((((⟨l.toArray⟩ : ByteArray).size + (⟨m.toArray⟩ : ByteArray).size : Nat) : Int) > IntKind.i64.max) := by
    have : IntKind.i64.max = 9223372036854775807 := rfl
    rw [this]
    simp only [ByteArray.size, List.size_toArray]
    omega
  simp only [execOp, ho, e1, e2]
  have hg : eqGuard .add t x y (str l) (str m) = pure () := eqGuard_other _ _ _ _ _ _ rfl
  simp only [hg, Sem.run_bind, Sem.run_pure, Result.andThen_ok, binOp, Op.stringOp, if_neg h1, data_app, SV.den, Ce.den]
theorem Nx.cat {o : Oper} {t tt : TypeId} {x y : Operand} {l m : List UInt8} (ho : o.op = .binOp .add t x y tt) (hx : ev env x = some (sv l)) (hy : ev env y = some (sv m)) (hd : dstOk g.n o.dst = true) (hl : l.length + m.length ≤ 9223372036854775807)
    (hk : Nx g (putE o.dst (sv (l ++ m)) env) mem bnd L N) : Nx g env mem bnd L (OneC g o N Q) :=
  Nx.val hd (fun _ _ _ hr w' => cat_run hr ho hx hy hl w') hk
theorem Nx.hoCat {o : Oper} {t tt : TypeId} {x y : Operand} {l m : List UInt8} (ho : o.op = .binOp .add t x y tt) (hx : ev env x = some (sv l)) (hy : ev env y = some (sv m)) (hd : dstOk g.n o.dst = true) (hl : l.length + m.length ≤ 9223372036854775807)
    (hk : Nx g (putE o.dst (sv (l ++ m)) env) mem bnd L N) : Nx g env mem bnd L (HoC g T o N) :=
  Nx.hoVal hd (fun _ _ _ hr w' => cat_run hr ho hx hy hl w') hk

theorem sidx_run (hr : Rel g β env mem bnd L a w) {o : Oper} {t : TypeId} {x i : Operand} {l : List UInt8} {k : IntKind} {iv : Int} (ho : o.op = .index t x i) (hx : ev env x = some (sv l)) (hi : ev env i = some (.c (.v (.int k iv)))) (ht : g.P.underlying t = some .string) (h0 : 0 ≤ iv) (h1 : iv < l.length) (w' : World) :
    (execOp a.eval o).run g.P w' = .ok (.value ((SV.c (.v (.int .u8 (byteAt l iv)))).den β)) w' := by
  have e1 : a.eval x = str l := hr.ev hx
  have e2 : a.eval i = .int k iv := hr.ev hi
  have hs : (⟨l.toArray⟩ : ByteArray)[iv.toNat]? = some (l.getD iv.toNat 0) := by
    have h2 : iv.toNat < (⟨l.toArray⟩ : ByteArray).size := by simp only [ByteArray.size, List.size_toArray]; omega
    rw [getElem?_pos (⟨l.toArray⟩ : ByteArray) iv.toNat h2, ByteArray.getElem_eq_getElem_data]
    have h3 : iv.toNat < l.length := by omega
    simp [h3]
  simp only [execOp, ho, e1, e2, Instr.index, asIntOf, Sem.run_bind, Sem.run_pure, Result.andThen_ok, run_underlying ht]
  rw [if_pos h0, hs]
  rfl
theorem Nx.sidx {o : Oper} {t : TypeId} {x i : Operand} {l : List UInt8} {k : IntKind} {iv : Int} (ho : o.op = .index t x i) (hx : ev env x = some (sv l)) (hi : ev env i = some (.c (.v (.int k iv)))) (ht : g.P.underlying t = some .string) (hd : dstOk g.n o.dst = true) (h0 : 0 ≤ iv) (h1 : iv < l.length)
    (hk : Nx g (putE o.dst (.c (.v (.int .u8 (byteAt l iv)))) env) mem bnd L N) : Nx g env mem bnd L (OneC g o N Q) :=
  Nx.val (x := .c (.v (.int .u8 (byteAt l iv)))) hd (fun _ _ _ hr w' => sidx_run hr ho hx hi ht h0 h1 w') hk
theorem Nx.hoSidx {o : Oper} {t : TypeId} {x i : Operand} {l : List UInt8} {k : IntKind} {iv : Int} (ho : o.op = .index t x i) (hx : ev env x = some (sv l)) (hi : ev env i = some (.c (.v (.int k iv)))) (ht : g.P.underlying t = some .string) (hd : dstOk g.n o.dst = true) (h0 : 0 ≤ iv) (h1 : iv < l.length)
    (hk : Nx g (putE o.dst (.c (.v (.int .u8 (byteAt l iv)))) env) mem bnd L N) : Nx g env mem bnd L (HoC g T o N) :=
  Nx.hoVal (x := .c (.v (.int .u8 (byteAt l iv)))) hd (fun _ _ _ hr w' => sidx_run hr ho hx hi ht h0 h1 w') hk

theorem ssl_run (hr : Rel g β env mem bnd L a w) {o : Oper} {t : TypeId} {x : Operand} {lo hi : Option Operand} {s : List UInt8} {l h : Int}
    (ho : o.op = .slice t x lo hi none) (hx : ev env x = some (sv s)) (ht : g.P.underlying t = some .string)
    (hlo : evN env lo 0 = some l) (hhi : evN env hi s.length = some h) (h0 : 0 ≤ l) (h1 : l ≤ h) (h2 : h ≤ s.length) (w' : World) : (execOp a.eval o).run g.P w' = .ok (.value ((sv ((s.take h.toNat).drop l.toNat)).den β)) w' := by
  have e1 : a.eval x = str s := hr.ev hx
  obtain ⟨l, rfl⟩ := Int.eq_ofNat_of_zero_le h0
  obtain ⟨h, rfl⟩ := Int.eq_ofNat_of_zero_le (Int.le_trans h0 h1)
  have hb : ∀ (k : IntKind) (i j : Nat) (code : BoundsCode), i ≤ j → (Instr.sliceBound (.int k i) j code).run g.P w' = .ok i w' := by
    intro k i j code hij
    have : (0 : Int) ≤ i ∧ (i : Int) ≤ j := ⟨by omega, by omega⟩
    simp [Instr.sliceBound, asIntOf, this]
  have hsz : (⟨s.toArray⟩ : ByteArray).size = s.length := by simp [ByteArray.size]
  have hbs : (Instr.sliceBounds false s.length s.length (lo.map a.eval) (hi.map a.eval) none).run g.P w' = .ok (l, h, s.length) w' := by
    have b2 : ∀ (k : IntKind) (code : BoundsCode), (Instr.sliceBound (.int k h) s.length code).run g.P w' = .ok h w' := fun k code => hb k h s.length code (by omega)
    have b3 : ∀ (k : IntKind) (code : BoundsCode), (Instr.sliceBound (.int k l) h code).run g.P w' = .ok l w' := fun k code => hb k l h code (by omega)
    cases hi with
    | none =>
      have eh : s.length = h := by
        have : (s.length : Int) = h := by simpa [evN] using hhi
        omega
      subst eh
      cases lo with
      | none =>
        have el : 0 = l := by
          have : (0 : Int) = l := by simpa [evN] using hlo
          omega
        subst el
        simp [Instr.sliceBounds]
      | some y =>
        obtain ⟨k, hy⟩ := evN_eval hr hlo
        simp [Instr.sliceBounds, hy, b3]
    | some z =>
      obtain ⟨k2, hz⟩ := evN_eval hr hhi
      cases lo with
      | none =>
        have el : 0 = l := by
          have : (0 : Int) = l := by simpa [evN] using hlo
          omega
        subst el
        simp [Instr.sliceBounds, hz, b2]
      | some y =>
        obtain ⟨k, hy⟩ := evN_eval hr hlo
        simp [Instr.sliceBounds, hy, hz, b2, b3]
  have hext := data_ext s l h (by omega)
  simp only [execOp, ho, e1, Instr.sliceAt, Instr.slice, Option.map_none, Sem.run_bind, run_underlying ht, Result.andThen_ok, hsz, Option.isSome_none, Bool.false_eq_true, if_false, hbs, Sem.run_pure, hext, Int.toNat_natCast, SV.den, Ce.den]
theorem Nx.ssl {o : Oper} {t : TypeId} {x : Operand} {lo hi : Option Operand} {s : List UInt8} {l h : Int}
    (ho : o.op = .slice t x lo hi none) (hx : ev env x = some (sv s)) (ht : g.P.underlying t = some .string) (hd : dstOk g.n o.dst = true)
    (hlo : evN env lo 0 = some l) (hhi : evN env hi s.length = some h) (h0 : 0 ≤ l) (h1 : l ≤ h) (h2 : h ≤ s.length)
    (hk : Nx g (putE o.dst (sv ((s.take h.toNat).drop l.toNat)) env) mem bnd L N) : Nx g env mem bnd L (OneC g o N Q) :=
  Nx.val hd (fun _ _ _ hr w' => ssl_run hr ho hx ht hlo hhi h0 h1 h2 w') hk

theorem Nx.hoSsl {o : Oper} {t : TypeId} {x : Operand} {lo hi : Option Operand} {s : List UInt8} {l h : Int}
    (ho : o.op = .slice t x lo hi none) (hx : ev env x = some (sv s)) (ht : g.P.underlying t = some .string) (hd : dstOk g.n o.dst = true)
    (hlo : evN env lo 0 = some l) (hhi : evN env hi s.length = some h) (h0 : 0 ≤ l) (h1 : l ≤ h) (h2 : h ≤ s.length)
    (hk : Nx g (putE o.dst (sv ((s.take h.toNat).drop l.toNat)) env) mem bnd L N) : Nx g env mem bnd L (HoC g T o N) :=
  Nx.hoVal hd (fun _ _ _ hr w' => ssl_run hr ho hx ht hlo hhi h0 h1 h2 w') hk

/-- The address of an element of an array at a real address. -/
theorem gidx_run (hr : Rel g β env mem bnd L a w) {o : Oper} {t e : TypeId} {x i : Operand} {b p n sz by_ : Nat} {kk : IntKind} {iv : Int} (ho : o.op = .indexAddr t x i) (hx : ev env x = some (.c (.v (.pointer (some ⟨b, p, none⟩))))) (hi : ev env i = some (.c (.v (.int kk iv)))) (ht : g.P.underlying t = some (.array n e)) (he : elemI g.P e = some (sz, by_)) (h0 : 0 ≤ iv) (h1 : iv < n) (w' : World) :
    (execOp a.eval o).run g.P w' = .ok (.value ((SV.c (.v (.pointer (some ⟨b, p + iv.toNat * sz, none⟩)))).den β)) w' := by
  obtain ⟨ei, zz, hei, hz, hzs, hpos, hez, hby⟩ := elemI_ok he
  have e1 : a.eval x = .pointer (some ⟨b, p, none⟩) := hr.ev hx
  have e2 : a.eval i = .int kk iv := hr.ev hi
  simp [execOp, ho, e1, e2, Instr.indexAt, Instr.sureAddr, asIntOf, run_underlying ht, h0, h1, sizeOf, typeInfo, hei, hez, add_plain', SV.den, Ce.den]
theorem Nx.gidx {o : Oper} {t e : TypeId} {x i : Operand} {b p n sz by_ q : Nat} {kk : IntKind} {iv : Int} (ho : o.op = .indexAddr t x i) (hx : ev env x = some (.c (.v (.pointer (some ⟨b, p, none⟩))))) (hi : ev env i = some (.c (.v (.int kk iv)))) (ht : g.P.underlying t = some (.array n e)) (he : elemI g.P e = some (sz, by_)) (hd : dstOk g.n o.dst = true) (h0 : 0 ≤ iv) (h1 : iv < n) (hq : p + iv.toNat * sz = q)
    (hk : Nx g (putE o.dst (.c (.v (.pointer (some ⟨b, q, none⟩)))) env) mem bnd L N) : Nx g env mem bnd L (OneC g o N Q) := by
  subst hq
  exact Nx.val (x := .c (.v (.pointer (some ⟨b, p + iv.toNat * sz, none⟩)))) hd (fun _ _ _ hr w' => gidx_run hr ho hx hi ht he h0 h1 w') hk
theorem Nx.hoGidx {o : Oper} {t e : TypeId} {x i : Operand} {b p n sz by_ q : Nat} {kk : IntKind} {iv : Int} (ho : o.op = .indexAddr t x i) (hx : ev env x = some (.c (.v (.pointer (some ⟨b, p, none⟩))))) (hi : ev env i = some (.c (.v (.int kk iv)))) (ht : g.P.underlying t = some (.array n e)) (he : elemI g.P e = some (sz, by_)) (hd : dstOk g.n o.dst = true) (h0 : 0 ≤ iv) (h1 : iv < n) (hq : p + iv.toNat * sz = q)
    (hk : Nx g (putE o.dst (.c (.v (.pointer (some ⟨b, q, none⟩)))) env) mem bnd L N) : Nx g env mem bnd L (HoC g T o N) := by
  subst hq
  exact Nx.hoVal (x := .c (.v (.pointer (some ⟨b, p + iv.toNat * sz, none⟩)))) hd (fun _ _ _ hr w' => gidx_run hr ho hx hi ht he h0 h1 w') hk

/-- The address of an element of a row of the call's own; a load there. -/
theorem lidx_run (hr : Rel g β env mem bnd L a w) {o : Oper} {t e : TypeId} {x i : Operand} {l p n c sz by_ : Nat} {kk : IntKind} {iv : Int} (ho : o.op = .indexAddr t x i) (hx : ev env x = some (.c (.locs l p n c))) (hi : ev env i = some (.c (.v (.int kk iv)))) (ht : g.P.underlying t = some (.slice e)) (he : elemI g.P e = some (sz, by_)) (h0 : 0 ≤ iv) (h1 : iv < n) (w' : World) :
    (execOp a.eval o).run g.P w' = .ok (.value ((SV.c (.loc l (p + iv.toNat * sz))).den β)) w' := by
  obtain ⟨ei, zz, hei, hz, hzs, hpos, hez, hby⟩ := elemI_ok he
  have e1 : a.eval x = .slice (some ⟨β l, p, none⟩) n c := hr.ev hx
  have e2 : a.eval i = .int kk iv := hr.ev hi
  simp [execOp, ho, e1, e2, Instr.indexAt, asIntOf, run_underlying ht, h0, h1, sizeOf, typeInfo, hei, hez, add_plain', SV.den, Ce.den]
theorem Nx.lidx {o : Oper} {t e : TypeId} {x i : Operand} {l p n c sz by_ q b : Nat} {kk : IntKind} {iv : Int} (ho : o.op = .indexAddr t x i) (hx : ev env x = some (.c (.locs l p n c))) (hb : lookB bnd l = some b) (hi : ev env i = some (.c (.v (.int kk iv)))) (ht : g.P.underlying t = some (.slice e)) (he : elemI g.P e = some (sz, by_)) (hd : dstOk g.n o.dst = true) (h0 : 0 ≤ iv) (h1 : iv < n) (hq : p + iv.toNat * sz = q)
    (hk : Nx g (putE o.dst (.c (.v (.pointer (some ⟨b, q, none⟩)))) env) mem bnd L N) : Nx g env mem bnd L (OneC g o N Q) := by
  subst hq
  intro β a w hr
  have h := lidx_run hr ho hx hi ht he h0 h1 w
  have e : (SV.c (.loc l (p + iv.toNat * sz))).den β = .pointer (some ⟨b, p + iv.toNat * sz, none⟩) := by simp only [SV.den, Ce.den, hr.bnd l b hb]
  rw [e] at h
  exact wp_value h (hk β _ w (hr.put o.dst (.c (.v (.pointer (some ⟨b, p + iv.toNat * sz, none⟩)))) hd))

/-- A string of bytes that an assertion lets see. -/
abbrev u8s (l : List UInt8) : List Value := l.map fun b => .int .u8 b.toNat
theorem Nx.bstr (nm : Nat) {o : Oper} {src dst e : TypeId} {x : Operand} {A : Option Addr} {n c : Nat} {S : SP} {L' : Res} {l : List UInt8}
    (ho : o.op = .convert src dst x) (hx : ev env x = some (.c (.v (.slice A n c)))) (hs : g.P.underlying src = some (.slice e)) (he : g.P.underlying e = some (.int .u8)) (hdt : g.P.underlying dst = some .string) (hd : dstOk g.n o.dst = true)
    (hp : takeR nm L = some (S, L')) (hse : Sees S A n 1 (u8s l)) (hn : 0 < n)
    (hk : Nx g (putE o.dst (sv l) env) mem bnd L N) : Nx g env mem bnd L (OneC g o N Q) := by
  intro β a w hr
  obtain ⟨hlen, hrd⟩ : Rd (hw w) A n 1 (u8s l) := by
    obtain ⟨r, h, x1, x2, x3, r1, h1', h2', y1, y2, y3, y4, y5, y6⟩ := hr.picked (takeR_pick hp)
    exact (hse r1 h1' (PH.dj_mono x3 y1 y2) y5).mono (PH.un_le (PH.le_trans y1 x1) (PH.le_trans y2 x2))
  obtain ⟨b, off, cs, tt, fr, rfl, hb, hc⟩ := hrd hn
  have e1 : a.eval x = .slice (some ⟨b, off, none⟩) n c := hr.ev hx
  have hln : l.length = n := by simpa using hlen
  have hl : (loadCells ⟨b, off, none⟩ n).run g.P w = .ok ((l.map fun b => (b.toNat : Int)).map (Value.int .u8)).toArray w := by
    have := run_loadCells_list (P := g.P) w ⟨b, off, none⟩ (u8s l) (fun j v hv => by
      have hj : j < (u8s l).length := (List.getElem?_eq_some_iff.1 hv).1
      rw [add_plain', cell_of_row w _ _ _ _ _ hb, hc j (by simp at hj ⊢; omega)]
      exact hv)
    simp only [List.length_map, hln] at this
    rw [this]
    simp
  have hrun : (execOp a.eval o).run g.P w = .ok (.value ((sv l).den β)) w := by
    simp only [execOp, ho, e1]
    rw [Sem.run_bind, run_convert_bytes_string w src dst e _ n c hs he hdt, run_bytesToString w _ n c _ hl]
    have : ∀ (l : List UInt8) (s : ByteArray), (l.map fun b => (b.toNat : Int)).foldl (fun r n => r.push (UInt8.ofNat n.toNat)) s = s ++ ⟨l.toArray⟩ := by
      intro l
      induction l with
      | nil => intro s; apply ByteArray.ext; simp
      | cons x r ih =>
        intro s
        rw [List.map_cons, List.foldl_cons, ih]
        apply ByteArray.ext
        simp
    rw [this]
    have e0 : ByteArray.empty ++ (⟨l.toArray⟩ : ByteArray) = ⟨l.toArray⟩ := by apply ByteArray.ext; simp
    rw [e0]
    rfl
  exact wp_value hrun (hk β _ w (hr.put o.dst (sv l) hd))
end

section
variable {g : Cx} {env : Env} {mem : Mem} {bnd : Bnd} {L : Res} {N : Act → World → Prop} {Q : Exit → Act → World → Prop} {dst : Option Tmp} {ty : TypeId} {pos : String} {af : Array Edge} {gd : Option (Nat × Bool)}
theorem atIndex {t : TypeId} {x j : Operand} (h : Nx g env mem bnd L (OneC g ⟨dst, .index t x j, ty, pos, af, gd⟩ N Q)) : Nx g env mem bnd L (OneC g ⟨dst, .index t x j, ty, pos, af, gd⟩ N Q) := h
theorem atAdd {t tt : TypeId} {x y : Operand} (h : Nx g env mem bnd L (OneC g ⟨dst, .binOp .add t x y tt, ty, pos, af, gd⟩ N Q)) : Nx g env mem bnd L (OneC g ⟨dst, .binOp .add t x y tt, ty, pos, af, gd⟩ N Q) := h
theorem atSlice {t : TypeId} {x : Operand} {lo hi mx : Option Operand} (h : Nx g env mem bnd L (OneC g ⟨dst, .slice t x lo hi mx, ty, pos, af, gd⟩ N Q)) : Nx g env mem bnd L (OneC g ⟨dst, .slice t x lo hi mx, ty, pos, af, gd⟩ N Q) := h
theorem atConv {s d : TypeId} {x : Operand} (h : Nx g env mem bnd L (OneC g ⟨dst, .convert s d x, ty, pos, af, gd⟩ N Q)) : Nx g env mem bnd L (OneC g ⟨dst, .convert s d x, ty, pos, af, gd⟩ N Q) := h
theorem atEsc {X : Type} {E : X → Env} {M : Mem} {B : X → Bnd} (h : ∀ b : X, Nx g (E b) M (B b) L N) : ∀ b : X, Nx g (E b) M (B b) L N := h
theorem atRem {t tt : TypeId} {x y : Operand} (h : Nx g env mem bnd L (OneC g ⟨dst, .binOp .rem t x y tt, ty, pos, af, gd⟩ N Q)) : Nx g env mem bnd L (OneC g ⟨dst, .binOp .rem t x y tt, ty, pos, af, gd⟩ N Q) := h
theorem atQuo {t tt : TypeId} {x y : Operand} (h : Nx g env mem bnd L (OneC g ⟨dst, .binOp .quo t x y tt, ty, pos, af, gd⟩ N Q)) : Nx g env mem bnd L (OneC g ⟨dst, .binOp .quo t x y tt, ty, pos, af, gd⟩ N Q) := h
theorem atHoIndex {T : World → Prop} {t : TypeId} {x j : Operand} (h : Nx g env mem bnd L (HoC g T ⟨dst, .index t x j, ty, pos, af, gd⟩ N)) : Nx g env mem bnd L (HoC g T ⟨dst, .index t x j, ty, pos, af, gd⟩ N) := h
theorem atHoSlice {T : World → Prop} {t : TypeId} {x : Operand} {lo hi mx : Option Operand} (h : Nx g env mem bnd L (HoC g T ⟨dst, .slice t x lo hi mx, ty, pos, af, gd⟩ N)) : Nx g env mem bnd L (HoC g T ⟨dst, .slice t x lo hi mx, ty, pos, af, gd⟩ N) := h
theorem atHoAdd {T : World → Prop} {t tt : TypeId} {x y : Operand} (h : Nx g env mem bnd L (HoC g T ⟨dst, .binOp .add t x y tt, ty, pos, af, gd⟩ N)) : Nx g env mem bnd L (HoC g T ⟨dst, .binOp .add t x y tt, ty, pos, af, gd⟩ N) := h
end
end Go.Proofs.YtccmdlmlbkpjjaaGreatDoor

/- Rules: slices of the call's own that begin anywhere in their blocks: reading, cutting, append. -/
namespace Go.Proofs.YtccmdlmlbkpjjaaGreatDoor
open Go.RowKit

/-- A slice of the call's own, wherever it begins. -/
def ownT (e : TypeId) (A : Option Addr) (n c sz : Nat) (cells : List Value) : SP := fun _ h =>
  cells.length = n * sz ∧ n ≤ c ∧ c ≤ maxLen ∧ ((n = 0 ∧ c = 0) ∨
    ∃ b off cur, A = some ⟨b, off, none⟩ ∧ h b = some (.cells cur e (0, 0)) ∧ off + c * sz ≤ cur.size ∧ ∀ j, j < n * sz → cur[off + j]? = cells[j]?)
theorem ownT_fit {e : TypeId} {A : Option Addr} {n c sz : Nat} {cells : List Value} {r h : PH} (hs : ownT e A n c sz cells r h) : n ≤ c ∧ c ≤ maxLen := ⟨hs.2.1, hs.2.2.1⟩
theorem ownT_rd {e : TypeId} {A : Option Addr} {n c sz : Nat} {cells : List Value} {r h : PH} (hs : ownT e A n c sz cells r h) : Rd h A n sz cells := by
  refine ⟨hs.1, fun hn => ?_⟩
  rcases hs.2.2.2 with ⟨h0, _⟩ | ⟨b, off, cur, h1, h2, _, h4⟩
  · omega
  · exact ⟨b, off, cur, e, (0, 0), h1, h2, h4⟩
theorem ownT_sees (e : TypeId) (A : Option Addr) (n c sz : Nat) (cells : List Value) : Sees (ownT e A n c sz cells) A n sz cells :=
  fun _ _ d hs => (ownT_rd hs).mono (PH.le_un_right d)
theorem ownT_share {e : TypeId} {A : Option Addr} {n c sz : Nat} {cells : List Value} : ∀ r h, r.dj h → ownT e A n c sz cells r h → rdS A n sz cells (r.un h) PH.em :=
  fun _ _ d hs => (ownT_rd hs).mono (PH.le_un_right d)
theorem ownT_nil (e : TypeId) (A : Option Addr) (sz : Nat) (r h : PH) : ownT e A 0 0 sz [] r h := ⟨by simp, Nat.le_refl _, Nat.zero_le _, .inl ⟨rfl, rfl⟩⟩
theorem own_T {e : TypeId} {A : Option Addr} {n c sz : Nat} {cells : List Value} {r h : PH} (hs : ownS e A n c sz cells r h) : ownT e A n c sz cells r h := by
  rcases hs.2 with ⟨rfl, rfl, rfl⟩ | ⟨b, cur, h1, h2, h3, h4, h5, h6⟩
  · exact ⟨hs.1, Nat.le_refl _, Nat.zero_le _, .inl ⟨rfl, rfl⟩⟩
  · refine ⟨hs.1, h3, h4, .inr ⟨b, 0, cur, h1, h2, by omega, fun j hj => ?_⟩⟩
    rw [← h6, List.getElem?_take, if_pos hj]
    simp
theorem ownT_cut {e : TypeId} {A : Option Addr} {n c sz : Nat} {cells : List Value} {r h : PH} (l k : Nat) (h1 : l ≤ k) (h2 : k ≤ n) (hs : ownT e A n c sz cells r h) :
    ownT e (resl A l c sz) (k - l) (c - l) sz ((cells.drop (l * sz)).take ((k - l) * sz)) r h := by
  obtain ⟨a1, a2, a3, a4⟩ := hs
  have hm : k * sz ≤ n * sz := Nat.mul_le_mul_right _ h2
  have hk : (k - l) * sz = k * sz - l * sz := Nat.sub_mul ..
  have hl : l * sz ≤ k * sz := Nat.mul_le_mul_right _ h1
  refine ⟨?_, by omega, by omega, ?_⟩
  · rw [List.length_take, List.length_drop, a1]; omega
  rcases a4 with ⟨rfl, rfl⟩ | ⟨b, off, cur, e1, e2, e3, e4⟩
  · exact .inl ⟨by omega, by omega⟩
  · by_cases hc : c = l
    · exact .inl ⟨by omega, by omega⟩
    · refine .inr ⟨b, off + l * sz, cur, ?_, e2, ?_, fun j hj => ?_⟩
      · unfold resl; rw [if_neg hc, e1, Option.map_some, add_plain']
      · have : (c - l) * sz = c * sz - l * sz := Nat.sub_mul ..
        have : l * sz ≤ c * sz := Nat.mul_le_mul_right _ (by omega)
        omega
      · rw [Nat.add_assoc, e4 _ (by omega), List.getElem?_take, if_pos hj, List.getElem?_drop]

theorem setCells_heap (b : Nat) (e : TypeId) : ∀ (vs : List Value) (o : Nat) (w : World) (cur : Array Value), w.heap[b]? = some (.cells cur e (0, 0)) → o + vs.length ≤ cur.size →
    ∃ cur', (w.setCells b o vs).heap[b]? = some (.cells cur' e (0, 0)) ∧ cur'.size = cur.size ∧ ∀ k, cur'[k]? = if o ≤ k ∧ k < o + vs.length then vs[k - o]? else cur[k]?
  | [], o, w, cur, h, _ => ⟨cur, h, rfl, fun k => by rw [if_neg (by simp only [List.length_nil]; omega)]⟩
  | v :: r, o, w, cur, h, hl => by
    simp only [List.length_cons] at hl
    have h1 : (w.setCell ⟨b, o, none⟩ v).heap[b]? = some (.cells (cur.setIfInBounds o v) e (0, 0)) := by
      unfold World.setCell
      simp [Array.getElem?_modify, h]
    obtain ⟨cur', a1, a2, a3⟩ := setCells_heap b e r (o + 1) (w.setCell ⟨b, o, none⟩ v) (cur.setIfInBounds o v) h1 (by simp; omega)
    refine ⟨cur', a1, by simpa using a2, fun k => ?_⟩
    rw [a3 k]
    simp only [List.length_cons]
    by_cases e1 : k = o
    · subst e1
      rw [if_neg (by omega), if_pos (by omega), Array.getElem?_setIfInBounds, if_pos rfl, if_pos (by omega), Nat.sub_self]
      rfl
    · by_cases e2 : o + 1 ≤ k ∧ k < o + 1 + r.length
      · rw [if_pos e2, if_pos (by omega), show k - o = (k - (o + 1)) + 1 by omega]; rfl
      · rw [if_neg e2, if_neg (by omega)]
        rw [Array.getElem?_setIfInBounds, if_neg (fun h : o = k => e1 h.symm)]
theorem setCells_other (b : Nat) : ∀ (vs : List Value) (o : Nat) (w : World) (k : Nat), k ≠ b → (w.setCells b o vs).heap[k]? = w.heap[k]?
  | [], _, _, _, _ => rfl
  | v :: r, o, w, k, h => by
    show ((w.setCell ⟨b, o, none⟩ v).setCells b (o + 1) r).heap[k]? = _
    rw [setCells_other b r (o + 1) _ k h]
    unfold World.setCell
    simp only [Array.getElem?_modify]
    rw [if_neg (fun e : b = k => h e.symm)]
theorem setCells_rest (b : Nat) : ∀ (vs : List Value) (o : Nat) (w : World), (w.setCells b o vs).os = w.os ∧ (w.setCells b o vs).tape = w.tape ∧ (w.setCells b o vs).output = w.output
  | [], _, _ => ⟨rfl, rfl, rfl⟩
  | v :: r, o, w => setCells_rest b r (o + 1) (w.setCell ⟨b, o, none⟩ v)
theorem own_appendT {L : List SP} {w : World} {P : Program} {t tx ty e : TypeId} {i : TypeInfo} {z : Value} {A : Option Addr} {n c : Nat} {cells : List Value} (ht : P.underlying t = some (.slice e)) (hi : P.info? e = some i) (hz : i.zero = some z)
    (hzs : z.cells.size = i.size) (H : SatW (ownT e A n c i.size cells :: L) w) (x : Value) (m : Nat) (news : List Value) (hsrc : Src P i.size tx x m news w) (hm : 0 < m)
    (h63 : n + m ≤ maxLen) (hbytes : (n + m) * i.bytes ≤ 140737488355328) :
    ∃ A' c'' w', (Builtin.append_ #[t, tx] ty #[.slice A n c, x]).run P w = .ok (.slice A' (n + m) c'') w' ∧ w'.os = w.os ∧ w'.tape = w.tape ∧ w'.output = w.output ∧ SatW (ownT e A' (n + m) c'' i.size (cells ++ news) :: L) w' := by
  obtain ⟨q1, q2, q3, q4⟩ := H.pure (fun _ _ h => (⟨h.1, h.2.1, h.2.2.1, trivial⟩ : cells.length = n * i.size ∧ n ≤ c ∧ c ≤ maxLen ∧ True))
  have hlen : (cells ++ news).length = (n + m) * i.size := by rw [List.length_append, q1, hsrc.newsLen, Nat.add_mul]
  have hrd : Rd (hw w) A n i.size cells := by
    obtain ⟨r, h, a, hb, cc, r1, k1, k2, a1, a2, a3, a4, a5, a6⟩ := H
    exact (ownT_rd a5).mono (PH.le_trans a2 hb)
  by_cases hroom : n + m ≤ c
  · -- there is room
    have H' := H
    obtain ⟨r, h, a, hb, cc, r1, k1, k2, a1, a2, a3, a4, a5, a6⟩ := H'
    rcases a5.2.2.2 with ⟨_, h0⟩ | ⟨b, off, cur, rfl, h2, h3, h4⟩
    · omega
    have hbw : w.heap[b]? = some (.cells cur e (0, 0)) := hb _ _ (a2 _ _ h2)
    have hfit : off + n * i.size + news.length ≤ cur.size := by
      have : (n + m) * i.size ≤ c * i.size := Nat.mul_le_mul_right _ hroom
      rw [Nat.add_mul] at this
      rw [hsrc.newsLen]; omega
    have hrun := run_append_room_src (P := P) w t tx ty e i ht hi b off n c x m news hsrc hroom (fun j hj => by
      unfold World.cell?
      simp only
      rw [hbw]
      simp only [if_true]
      rw [Array.getElem?_eq_getElem (by omega)]
      rfl) (fun j hj => by
      unfold World.frozen?
      simp only
      rw [hbw]
      simp)
    obtain ⟨cur', c1, c2, c3⟩ := setCells_heap b e news (off + n * i.size) w cur hbw hfit
    obtain ⟨o1, o2, o3⟩ := setCells_rest b news (off + n * i.size) w
    refine ⟨_, _, _, hrun, o1, o2, o3, ?_⟩
    have hblk : SatW (blk b (.cells cur e (0, 0)) :: L) w := ⟨r, h, a, hb, cc, r1, k1, k2, a1, a2, a3, a4, h2, a6⟩
    have := hblk.set (w' := w.setCells b (off + n * i.size) news) (fun k hk => setCells_other b news _ w k hk) c1
    refine this.imp fun r h hs => ⟨hlen, hroom, q3, .inr ⟨b, off, cur', rfl, hs, by rw [c2]; exact h3, fun j hj => ?_⟩⟩
    rw [c3]
    by_cases hj2 : j < n * i.size
    · rw [if_neg (by omega), h4 j hj2, List.getElem?_append_left (by omega)]
    · rw [if_pos (by rw [hsrc.newsLen]; rw [Nat.add_mul] at hj; omega), List.getElem?_append_right (by omega), q1]
      congr 1
      omega
  · -- there is none
    have hold : (Builtin.firstCells i.size n (.slice A n c)).run P w.drew = .ok cells.toArray w.drew := by
      by_cases hn : 0 < n
      · obtain ⟨b, o, cs, t', fr, rfl, hbk, hc⟩ := hrd.2 hn
        refine run_firstCells_some (P := P) w.drew i.size n ⟨b, o, none⟩ n c cells q1 fun j v hv => ?_
        have hj : j < n * i.size := by rw [← q1]; exact (List.getElem?_eq_some_iff.1 hv).1
        have : w.cell? ((⟨b, o, none⟩ : Addr).add j) = some v := by
          have hbk' : w.heap[b]? = some (.cells cs t' fr) := hbk
          rw [add_plain', cell_of_row w _ _ _ _ _ hbk', hc j hj, hv]
        simpa using this
      · have hn0 : n = 0 := by omega
        subst hn0
        have hx : cells = [] := List.eq_nil_of_length_eq_zero (by simpa using q1)
        subst hx
        cases A with
        | none => exact run_firstCells_none w.drew i.size 0 0 c
        | some ad => exact run_firstCells_some (P := P) w.drew i.size 0 ad 0 c [] (by simp) (fun j v h => by simp at h)
    have hrun := run_append_grow_src (P := P) w t tx ty e i z ht hi hz A n c cells hold x m news hsrc (by omega) (by simp only [maxLen] at h63; omega)
      (growslice_fits (by omega) hbytes)
    have hge := grownCap_ge w (n + m) c e
    have hcm : grownCap w (n + m) c e ≤ maxLen := grownCap_le_maxLen w (n + m) c e h63
    refine ⟨_, _, _, hrun, rfl, rfl, rfl, ?_⟩
    have h1 := (H.tail.heap (w' := w.drew) rfl).alloc (.cells ((cells ++ news).toArray ++ Builtin.zeroCells z.cells (grownCap w (n + m) c e - (n + m))) e)
    refine h1.imp fun r h hs => ⟨hlen, hge, hcm, .inr ⟨_, 0, _, rfl, hs, ?_, fun j hj => ?_⟩⟩
    · simp only [Array.size_append, List.size_toArray, size_zeroCells, hzs, hlen, Nat.zero_add]
      rw [← Nat.add_mul]
      exact Nat.mul_le_mul_right _ (by omega)
    · rw [Nat.zero_add, Array.getElem?_append_left (by simpa [hlen] using hj)]
      simp
section
variable {g : Cx} {β : Nat → Nat} {env : Env} {mem : Mem} {bnd : Bnd} {L : Res} {a : Act} {w : World} {N : Act → World → Prop} {Q : Exit → Act → World → Prop}
/-- append of a row of the call's own to such a slice. -/
theorem Nx.appendT (nm : Nat) {o : Oper} {t e : TypeId} {x y : Operand} {A : Option Addr} {n c : Nat} {L' : Res} {sz l m c' tt : Nat} {cells news : List Value} {by_ : Nat} {cs : List Ce}
    (ho : o.op = .call ⟨.builtin .append, #[x, y], #[t, t]⟩) (hx : ev env x = some (.c (.v (.slice A n c)))) (hy : ev env y = some (.c (.locs l 0 m c'))) (hl : lookM mem l = some (tt, cs)) (hv : cesV bnd cs = some news)
    (ht : g.P.underlying t = some (.slice e)) (he : elemI g.P e = some (sz, by_)) (hd : dstOk g.n o.dst = true)
    (hp : takeR nm L = some (ownT e A n c sz cells, L')) (hlen : Nat.beq news.length (m * sz) = true) (hone : (news.all fun u => u.oneCell') = true) (hm : 0 < m) (h63 : n + m ≤ maxLen) (hbytes : (n + m) * by_ ≤ 140737488355328)
    (hk : ∀ A' c'', Nx g (putE o.dst (.c (.v (.slice A' (n + m) c''))) env) mem bnd ((nm, ownT e A' (n + m) c'' sz (cells ++ news)) :: L') N) : Nx g env mem bnd L (OneC g o N Q) := by
  intro β a w hr
  obtain ⟨ei, z, hei, hz, hzs, hpos, hes, hby⟩ := elemI_ok he
  subst hes
  subst hby
  have hsat := hr.picked (takeR_pick hp)
  have hblk := hr.block hl
  have hcv : cellsOf β cs = news.toArray := by unfold cellsOf; rw [cesV_den hr.bnd hv]
  have hsrc : Src g.P ei.size t (.slice (some ⟨β l, 0, none⟩) m c') m news w := Src.ofSlice w ht ⟨β l, 0, none⟩ m c' news (by simpa using hlen) (fun j u hu => by
    rw [add_plain', Nat.zero_add, cell_of_row w _ _ _ _ _ hblk, hcv]
    simpa using hu) (by simpa using hone)
  obtain ⟨A', c'', w', hrun, h1, h2, h3, h4⟩ := own_appendT (P := g.P) (ty := o.type) ht hei hz hzs hsat _ m news hsrc hm h63 hbytes
  have hrun' : (execOp a.eval o).run g.P w = .ok (.value (.slice A' (n + m) c'')) w' := by
    have e1 : a.eval x = .slice A n c := hr.ev hx
    have e2 : a.eval y = .slice (some ⟨β l, 0, none⟩) m c' := hr.ev hy
    simp [execOp, ho, resolve, e1, e2, invoke, builtin, hrun]
  refine wp_value hrun' (hk A' c'' β _ _ ?_)
  exact (hr.unpicked (ns := [nm]) (Ps := [_]) h4 h1 h2 h3).put o.dst (.c (.v (.slice A' (n + m) c''))) hd
end
end Go.Proofs.YtccmdlmlbkpjjaaGreatDoor

/- Rules: assertions made of many; a store into a block of which an assertion speaks. -/
namespace Go.Proofs.YtccmdlmlbkpjjaaGreatDoor
open Go.RowKit

/-! ### Assertions made of many -/
theorem Sat.mem {P : SP} : ∀ {L : List SP} {r h : PH}, Sat L r h → P ∈ L → ∃ r1 h1, PH.le r1 r ∧ PH.le h1 h ∧ P r1 h1
  | [], _, _, _, hm => by cases hm
  | Q :: L, r, h, ⟨r1, h1, h2, a1, a2, a3, a4, a5, a6⟩, hm => by
    rcases List.mem_cons.1 hm with rfl | hm
    · exact ⟨r1, h1, a1, a2, a5⟩
    · obtain ⟨r3, h3, b1, b2, b3⟩ := a6.mem hm
      exact ⟨r3, h3, b1, PH.le_trans b2 a3, b3⟩
theorem star_at {P : SP} {L : List SP} (hm : P ∈ L) {b p : Nat} {ys : List Value} (hs : SeesAt P b p ys) : SeesAt (star L) b p ys := by
  intro r h d hS
  obtain ⟨r1, h1, a, c, e⟩ := Sat.mem (show Sat L r h from hS) hm
  obtain ⟨cs, t, fr, h2, h3⟩ := hs r1 h1 (PH.dj_mono d a c) e
  exact ⟨cs, t, fr, PH.un_le (PH.le_trans a (PH.le_un_left _ _)) (PH.le_trans c (PH.le_un_right d)) _ _ h2, h3⟩
theorem star_sees {P : SP} {L : List SP} (hm : P ∈ L) {A : Option Addr} {n sz : Nat} {cells : List Value} (hs : Sees P A n sz cells) : Sees (star L) A n sz cells := by
  intro r h d hS
  obtain ⟨r1, h1, a, c, e⟩ := Sat.mem (show Sat L r h from hS) hm
  exact (hs r1 h1 (PH.dj_mono d a c) e).mono (PH.un_le (PH.le_trans a (PH.le_un_left _ _)) (PH.le_trans c (PH.le_un_right d)))
theorem blk_at (b t : Nat) (ys : List Value) : SeesAt (blk b (.cells ys.toArray t (0, 0))) b 0 ys := by
  intro r h d hs
  exact ⟨_, _, _, PH.le_un_right d _ _ hs, fun j hj => by simp⟩
theorem Pers.at {S : SP} {b p : Nat} {ys : List Value} (hs : SeesAt S b p ys) : SeesAt S b p ys := hs
/-- A list of assertions that is had from another one by its order. -/
theorem star_perm {L L' : List SP} (p : L.Perm L') : ∀ r h, star L r h → star L' r h := fun _ _ H => Sat.perm p H

/-! ### A store -/
def updH (h : PH) (b : Nat) (o : Obj) : PH := fun n => if n = b then some o else h n
/-- What an assertion becomes when a cell of a block of its own is stored to. -/
def SetAt (S : SP) (b p : Nat) (y : Value) (S' : SP) : Prop := ∀ r h, S r h → ∃ cs t, h b = some (.cells cs t (0, 0)) ∧ p < cs.size ∧ S' r (updH h b (.cells (cs.setIfInBounds p y) t (0, 0)))
theorem blk_set {b t p : Nat} {ys : List Value} {y : Value} (hp : p < ys.length) : SetAt (blk b (.cells ys.toArray t (0, 0))) b p y (blk b (.cells (ys.set p y).toArray t (0, 0))) := by
  intro r h hs
  refine ⟨_, _, hs, by simpa using hp, ?_⟩
  show updH h b _ b = _
  unfold updH
  rw [if_pos rfl]
  simp
theorem ownT_set {e : TypeId} {b off n c sz : Nat} {cells : List Value} {j : Nat} {y : Value} (hj : j < n * sz) : SetAt (ownT e (some ⟨b, off, none⟩) n c sz cells) b (off + j) y (ownT e (some ⟨b, off, none⟩) n c sz (cells.set j y)) := by
  rintro r h ⟨h1, h2, h3, h4⟩
  have hnc : n * sz ≤ c * sz := Nat.mul_le_mul_right _ h2
  rcases h4 with ⟨rfl, _⟩ | ⟨b', off', cur, e1, e2, e3, e4⟩
  · omega
  · cases e1
    refine ⟨cur, e, e2, by omega, by simpa using h1, h2, h3, .inr ⟨b, off, _, rfl, by unfold updH; rw [if_pos rfl], by simpa using e3, fun k hk => ?_⟩⟩
    rw [Array.getElem?_setIfInBounds, List.getElem?_set]
    by_cases ek : j = k
    · subst ek
      rw [if_pos rfl, if_pos rfl, if_pos (by omega), if_pos (by omega)]
    · rw [if_neg (by omega), if_neg ek, e4 k hk]
theorem Sat.set {L : List SP} {b p : Nat} {y : Value} : ∀ {k : Nat} {P P' : SP} {r h : PH}, L[k]? = some P → SetAt P b p y P' → Sat L r h → ∃ cs t, h b = some (.cells cs t (0, 0)) ∧ p < cs.size ∧ Sat (L.set k P') r (updH h b (.cells (cs.setIfInBounds p y) t (0, 0))) := by
  induction L with
  | nil => intro k P P' r h hk; simp at hk
  | cons Q L ih =>
    intro k P P' r h hk hs hS
    obtain ⟨r1, h1, h2, a1, a2, a3, a4, a5, a6⟩ := hS
    cases k with
    | zero =>
      simp only [List.getElem?_cons_zero, Option.some.injEq] at hk
      subst hk
      obtain ⟨cs, t, e1, e2, e3⟩ := hs r1 h1 a5
      have hn2 : h2 b = none := (a4 b).resolve_left (by rw [e1]; simp)
      refine ⟨cs, t, a2 _ _ e1, e2, r1, _, h2, a1, ?_, ?_, ?_, e3, a6⟩
      · intro n o ho
        unfold updH at ho ⊢
        split at ho
        · rw [if_pos (by assumption)]; exact ho
        · rw [if_neg (by assumption)]; exact a2 _ _ ho
      · intro n o ho
        unfold updH
        by_cases e : n = b
        · subst e; rw [hn2] at ho; cases ho
        · rw [if_neg e]; exact a3 _ _ ho
      · intro n
        by_cases e : n = b
        · subst e; exact .inr hn2
        · unfold updH; rw [if_neg e]; exact a4 n
    | succ k =>
      simp only [List.getElem?_cons_succ] at hk
      obtain ⟨cs, t, e1, e2, e3⟩ := ih hk hs a6
      have hn1 : h1 b = none := (a4 b).resolve_right (by rw [e1]; simp)
      refine ⟨cs, t, a3 _ _ e1, e2, r1, h1, _, a1, ?_, ?_, ?_, a5, e3⟩
      · intro n o ho
        unfold updH
        by_cases e : n = b
        · subst e; rw [hn1] at ho; cases ho
        · rw [if_neg e]; exact a2 _ _ ho
      · intro n o ho
        unfold updH at ho ⊢
        split at ho
        · rw [if_pos (by assumption)]; exact ho
        · rw [if_neg (by assumption)]; exact a3 _ _ ho
      · intro n
        by_cases e : n = b
        · subst e; exact .inl hn1
        · unfold updH; rw [if_neg e]; exact a4 n
theorem star_set {L : List SP} {k b p : Nat} {P P' : SP} {y : Value} (hk : L[k]? = some P) (hs : SetAt P b p y P') : SetAt (star L) b p y (star (L.set k P')) :=
  fun _ _ hS => Sat.set hk hs hS
theorem SetAt.mono {S S' S2 : SP} {b p : Nat} {y : Value} (h : SetAt S b p y S') (k : ∀ r m, S' r m → S2 r m) : SetAt S b p y S2 :=
  fun r m hs => let ⟨cs, t, e1, e2, e3⟩ := h r m hs; ⟨cs, t, e1, e2, k _ _ e3⟩
theorem SatW.setAt {S S' : SP} {L : List SP} {b p : Nat} {y : Value} {w : World} (H : SatW (S :: L) w) (hs : SetAt S b p y S') : (∃ cs t, w.heap[b]? = some (.cells cs t (0, 0)) ∧ p < cs.size) ∧ SatW (S' :: L) (w.setCell ⟨b, p, none⟩ y) := by
  obtain ⟨r, h, a, hb, c, hS⟩ := H
  obtain ⟨cs, t, e1, e2, e3⟩ := Sat.set (k := 0) (L := S :: L) rfl hs hS
  have hbw : w.heap[b]? = some (.cells cs t (0, 0)) := hb _ _ e1
  have hrb : r b = none := (c b).resolve_right (by rw [e1]; simp)
  have hset : (w.setCell ⟨b, p, none⟩ y).heap[b]? = some (.cells (cs.setIfInBounds p y) t (0, 0)) := by
    unfold World.setCell
    simp [Array.getElem?_modify, hbw]
  have hoth : ∀ n, n ≠ b → (w.setCell ⟨b, p, none⟩ y).heap[n]? = w.heap[n]? := fun n hn => setCells_other b [y] p w n hn
  refine ⟨⟨cs, t, hbw, e2⟩, r, _, ?_, ?_, ?_, e3⟩
  · intro n o ho
    show (w.setCell ⟨b, p, none⟩ y).heap[n]? = _
    by_cases e : n = b
    · subst e; rw [hrb] at ho; cases ho
    · rw [hoth n e]; exact a _ _ ho
  · intro n o ho
    show (w.setCell ⟨b, p, none⟩ y).heap[n]? = _
    unfold updH at ho
    by_cases e : n = b
    · subst e; rw [if_pos rfl] at ho; rw [hset]; exact ho
    · rw [if_neg e] at ho; rw [hoth n e]; exact hb _ _ ho
  · intro n
    by_cases e : n = b
    · subst e; exact .inl hrb
    · unfold updH; rw [if_neg e]; exact c n
section
variable {g : Cx} {β : Nat → Nat} {env : Env} {mem : Mem} {bnd : Bnd} {L : Res} {a : Act} {w : World} {N : Act → World → Prop} {Q : Exit → Act → World → Prop}
/-- A store of one cell. -/
theorem Nx.storeW (nm : Nat) {S : SP} (S' : SP) {o : Oper} {t : TypeId} {x z : Operand} {b q : Nat} {L' : Res} {s : SV} {y : Value} {c : Ce}
    (ho : o.op = .store t x z) (hx : ev env x = some (.c (.v (.pointer (some ⟨b, q, none⟩))))) (hz : ev env z = some s) (hcs : cellsS s = some [c]) (hv : cesV bnd [c] = some [y]) (ht : (g.P.info? t).map (·.size) = some 1)
    (hone : y.oneCell' = true) (hd : dstOk g.n o.dst = true) (hp : takeR nm L = some (S, L')) (hs : SetAt S b q y S')
    (hk : Nx g (putE o.dst (.c (.v undef)) env) mem bnd ((nm, S') :: L') N) : Nx g env mem bnd L (OneC g o N Q) := by
  intro β a w hr
  obtain ⟨⟨cs, tt, hb, hlt⟩, hsat⟩ := (hr.picked (takeR_pick hp)).setAt hs
  obtain ⟨i, hi, hsz⟩ : ∃ i, g.P.info? t = some i ∧ i.size = 1 := by
    cases hi : g.P.info? t with
    | none => rw [hi] at ht; cases ht
    | some i => rw [hi] at ht; exact ⟨i, rfl, by simpa using ht⟩
  have hcells : (s.den β).cells = #[y] := by
    rw [cellsS_den hcs β]
    unfold cellsOf
    rw [cesV_den hr.bnd hv]
  have e1 : a.eval x = .pointer (some ⟨b, q, none⟩) := hr.ev hx
  have e2 : a.eval z = s.den β := hr.ev hz
  have hrun := run_storeCells_at g.P b q tt [y] 0 cs w hb (by simp; omega) (by simpa using hone)
  have hst := run_storeCells_cells (P := g.P) b q [y] 0 w (fun j hj => by
    have : j = 0 := by simpa using hj
    subst this
    unfold World.cell?
    simp only
    rw [hb]
    simp only [if_true, Nat.add_zero]
    rw [Array.getElem?_eq_getElem hlt]
    rfl) (fun j hj => by
    unfold World.frozen?
    simp only
    rw [hb]
    simp) (by simpa using hone)
  have hrun : (storeCells ⟨b, q, none⟩ [y]).run g.P w = .ok () (w.setCell ⟨b, q, none⟩ y) := by
    simpa [storeCells, World.setCells] using hst
  have h5 : SatW ([S'] ++ (memSP β mem ++ (L'.map (·.2) ++ g.F))) (w.setCell ⟨b, q, none⟩ y) := hsat
  refine wp_skip' (w' := w.setCell ⟨b, q, none⟩ y) ?_ (hk β _ _ ((hr.unpicked (ns := [nm]) (Ps := [_]) h5 rfl rfl rfl).put o.dst (.c (.v undef)) hd))
  have e3 : (s.den β).cells.size = i.size := by rw [hcells, hsz]; rfl
  have e4 : (s.den β).cells.toList = [y] := by rw [hcells]
  simp [execOp, ho, e1, e2, Instr.storeAt, Instr.sureAddr, storeVar, sizeOf, typeInfo, hi, e3, e4, hrun]
end
end Go.Proofs.YtccmdlmlbkpjjaaGreatDoor

/- Regions whose order is drawn, with several that act ready at once: a plan is a tree, each order of it is met. -/
namespace Go.Proofs.YtccmdlmlbkpjjaaGreatDoor
open Go.RowKit

inductive PF where
  | nil
  | pure (i : Nat) (r : PF)
  | held (i : Nat) (r : PF)
  /-- One that acts, the plan behind it, and what else may come first. -/
  | alt (i : Nat) (keep : Bool) (r o : PF)

section
variable {P : Program} {ops : Array Oper} {Q : Exit → Act → World → Prop} {S T : World → Prop} {late : Nat → Bool}
def planRunF (P : Program) (ops : Array Oper) (Q : Exit → Act → World → Prop) (S : World → Prop) : PF → Bool → Act → World → Prop
  | .nil, false, a, w => Q .normal a w
  | .nil, true, _, _ => True
  | .pure i r, _, a, w => ∃ o v, ops[i]? = some o ∧ YieldsIf P ops (fun _ => True) o v a ∧ planRunF P ops Q S r false (a.put o.dst v) w
  | .held i r, _, a, w => ∃ o v, ops[i]? = some o ∧ YieldsIf P ops S o v a ∧ S w ∧ planRunF P ops Q S r false (a.put o.dst v) w
  | .alt i keep r q, _, a, w => (∃ o, ops[i]? = some o ∧
      (Region.wanted o (yielded ops a.tmps) = true ∧ o.wp P a w (fun a' w' => (keep = true → S w → S w') ∧ planRunF P ops Q S r false a' w') Q ∨ Region.wanted o (yielded ops a.tmps) = false ∧ planRunF P ops Q S r false (a.put o.dst undef) w)) ∧ planRunF P ops Q S q true a w
def isLateF : PF → Nat → Bool
  | .nil, _ => false
  | .pure _ r, j => isLateF r j
  | .held _ r, j => isLateF r j
  | .alt i keep r q, j => (match keep with | true => false | false => Nat.beq i j) || isLateF r j || isLateF q j
def idsF : PF → List Nat
  | .alt i _ _ q => i :: idsF q
  | _ => []
def planOkF (ops : Array Oper) (late : Nat → Bool) : PF → Bool → Nat → Array Bool → Bool
  | .nil, false, n, listed => Nat.beq n 0 && (Region.ready .any ops listed).isEmpty
  | .nil, true, _, _ => true
  | .pure i r, false, n + 1, listed => (Region.ready .any ops listed).contains i && Region.free .any ops listed i && planOkF ops late r false n (listed.setIfInBounds i true)
  | .held i r, false, n + 1, listed => (Region.ready .any ops listed).contains i && Region.free .any ops listed i && lateWait ops late i && planOkF ops late r false n (listed.setIfInBounds i true)
  | .alt i keep r q, b, n + 1, listed => (b || Region.ready .any ops listed == idsF (.alt i keep r q)) && (late i == !keep) && planOkF ops late r false n (listed.setIfInBounds i true) && planOkF ops late q true (n + 1) listed
  | _, _, _, _ => false

theorem plan_soundF (hsel : Region.noSelect ops = true) (hQ : ∀ c a w, ¬ Q (.panic c) a w) : ∀ (p : PF),
    (∀ (n : Nat) (listed : Array Bool) (a : Act) (w : World), planOkF ops late p false n listed = true → planRunF P ops Q S p false a w → wpX P ops Q S late n listed a w) ∧
    (∀ (n : Nat) (listed : Array Bool) (a : Act) (w : World), planOkF ops late p true (n + 1) listed = true → planRunF P ops Q S p true a w → ∀ i ∈ idsF p, wpOp P ops Q i (fun a' w' => (late i = false → S w → S w') ∧ wpX P ops Q S late n (listed.setIfInBounds i true) a' w') a w)
  | .nil => ⟨fun n listed a w hp h => by
      simp only [planOkF, Bool.and_eq_true, List.isEmpty_iff, Nat.beq_eq] at hp
      obtain ⟨rfl, hp⟩ := hp
      exact ⟨hp, h⟩, fun n listed a w _ _ i hi => by cases hi⟩
  | .pure i r => ⟨fun n listed a w hp h => by
      cases n with
      | zero => cases hp
      | succ n =>
        simp only [planOkF, Bool.and_eq_true] at hp
        obtain ⟨o, v, ho, hy, hr⟩ := h
        refine wpX_first ho (Region.noSelect_spec hsel) (fun c a w hq => absurd hq (hQ c _ w)) (T := fun _ => True) (fun _ _ _ _ _ _ _ _ => trivial) n listed a w (Region.free_spec ho hp.1.2) (by simpa using hp.1.1) hy trivial ?_
        exact (plan_soundF hsel hQ r).1 n _ _ w hp.2 hr, fun n listed a w _ _ i hi => by cases hi⟩
  | .held i r => ⟨fun n listed a w hp h => by
      cases n with
      | zero => cases hp
      | succ n =>
        simp only [planOkF, Bool.and_eq_true] at hp
        obtain ⟨o, v, ho, hy, hS, hr⟩ := h
        refine wpX_first ho (Region.noSelect_spec hsel) (fun c a w hq => absurd hq (hQ c _ w)) (T := S) (fun j oj hj hno w w' hw hk => ?_) n listed a w (Region.free_spec ho hp.1.1.2) (by simpa using hp.1.1.1) hy hS ?_
        · refine hk ?_ hw
          have hl := hp.1.2
          simp only [lateWait, List.all_eq_true, List.mem_range] at hl
          have h1 := hl j (Array.getElem?_eq_some_iff.1 hj).1
          simp only [hj, Bool.or_eq_true, Bool.not_eq_true'] at h1
          rcases h1 with h1 | h1
          · exact h1
          · obtain ⟨e, he, hb⟩ := Array.any_eq_true'.1 h1
            simp only [Bool.and_eq_true, beq_iff_eq] at hb
            exact absurd hb.2 (hno e he hb.1)
        · exact (plan_soundF hsel hQ r).1 n _ _ w hp.2 hr, fun n listed a w _ _ i hi => by cases hi⟩
  | .alt i keep r q => by
    have key : ∀ (b : Bool) (n : Nat) (listed : Array Bool) (a : Act) (w : World), planOkF ops late (.alt i keep r q) b (n + 1) listed = true → planRunF P ops Q S (.alt i keep r q) b a w →
        ∀ j ∈ idsF (.alt i keep r q), wpOp P ops Q j (fun a' w' => (late j = false → S w → S w') ∧ wpX P ops Q S late n (listed.setIfInBounds j true) a' w') a w := by
      intro b n listed a w hp h j hj
      simp only [planOkF, Bool.and_eq_true, beq_iff_eq] at hp
      simp only [planRunF] at h
      obtain ⟨⟨o, ho, h1⟩, h2⟩ := h
      rcases List.mem_cons.1 hj with rfl | hj
      · unfold wpOp
        simp only [ho]
        rcases h1 with ⟨hw, h1⟩ | ⟨hw, h1⟩
        · rw [if_pos hw]
          left
          refine Oper.wp_mono (fun a' w' h3 => ⟨fun hl hS => h3.1 (by rw [hp.1.1.2] at hl; simpa using hl) hS, (plan_soundF hsel hQ r).1 n _ a' w' hp.1.2 h3.2⟩) h1
        · rw [if_neg (by rw [hw]; simp)]
          exact ⟨fun _ h => h, (plan_soundF hsel hQ r).1 n _ _ w hp.1.2 h1⟩
      · exact (plan_soundF hsel hQ q).2 n listed a w hp.2 h2 j hj
    refine ⟨fun n listed a w hp h => ?_, fun n listed a w hp h => key true n listed a w hp h⟩
    cases n with
    | zero => simp [planOkF] at hp
    | succ n =>
      have hk := key false n listed a w hp h
      simp only [planOkF, Bool.and_eq_true, beq_iff_eq, Bool.false_or] at hp
      rw [← hp.1.1.1] at hk
      exact ⟨fun h0 => (by rw [hp.1.1.1] at h0; cases h0), hk⟩
/-- A row of steps ahead of a tree. -/
def PF.pre : List PI → PF → PF
  | [], p => p
  | .pure i :: r, p => .pure i (PF.pre r p)
  | .held i :: r, p => .held i (PF.pre r p)
  | .ex i keep :: r, p => .alt i keep (PF.pre r p) .nil
theorem not_letsN {N : Act → World → Prop} : ¬ LetsOut (endN N) := fun h => by
  obtain ⟨_, _, h⟩ := h
  exact h
theorem wp_endN {N K : Act → World → Prop} {o : Oper} {a : Act} {w : World} (h : o.wp P a w K (endN N)) : o.wp P a w K Q := by
  unfold Oper.wp at *
  generalize (execOp a.eval o).run P w = r at *
  cases r with
  | ok n w' =>
    cases n <;> simp only [Oper.upon] at h ⊢ <;>
      first
        | exact h
        | exact Calls.mono h (fun e w'' he => by cases e <;> first | exact he | exact he.elim | exact absurd he not_letsN)
  | halt x w' => cases x <;> simp only [Oper.upon] at h ⊢ <;> first | exact h | exact h.elim
theorem runF_pre {N : Act → World → Prop} {p : PF} (hN : ∀ a w, N a w → planRunF P ops Q S p false a w) : ∀ (seg : List PI) (a : Act) (w : World), planRun P ops (endN N) S seg a w → planRunF P ops Q S (PF.pre seg p) false a w
  | [], a, w, h => hN a w h
  | .pure i :: r, a, w, ⟨o, v, ho, hy, h⟩ => ⟨o, v, ho, hy, runF_pre hN r _ w h⟩
  | .held i :: r, a, w, ⟨o, v, ho, hy, hs, h⟩ => ⟨o, v, ho, hy, hs, runF_pre hN r _ w h⟩
  | .ex i keep :: r, a, w, ⟨o, ho, h⟩ => by
    refine ⟨⟨o, ho, ?_⟩, trivial⟩
    rcases h with ⟨hw, h⟩ | ⟨hw, h⟩
    · refine .inl ⟨hw, ?_⟩
      have h2 := Oper.wp_mono (fun a' w' h3 => (⟨h3.1, runF_pre hN r a' w' h3.2⟩ : (keep = true → S w → S w') ∧ planRunF P ops Q S (PF.pre r p) false a' w')) h
      exact wp_endN h2
    · exact .inr ⟨hw, runF_pre hN r _ w h⟩
end

/-- What is to be met of a tree, upon a state. -/
def endF (g : Cx) (ops : Array Oper) (H : Held) (b : Bool) (p : PF) (k : List Item) : Act → World → Prop := fun a w => planRunF g.P ops (Qn g k) (heldW H) p b a w
section
variable {g : Cx} {β : Nat → Nat} {env : Env} {mem : Mem} {bnd : Bnd} {L : Res} {ops : Array Oper} {H : Held} {k : List Item} {b : Bool}
/-- The beginning of such a region. -/
theorem Nx.drawnF {i : Nat} (ns : List Nat) (seg : List PI) (p : PF) {Ps Qs : List SP} {L' : Res} (hm : g.P.follows .mixedOrders = true) (hsel : Region.noSelect ops = true) (hok : planOkF ops (isLateF (PF.pre seg p)) (PF.pre seg p) false ops.size (Array.replicate ops.size false) = true)
    (hP : pinS bnd mem = some Ps) (hB : subB bnd bnd) (hp : pick ns L = some (Qs, L'))
    (h : Nx g env mem bnd L (planHead g ops ⟨mem, bnd, Qs⟩ true seg (endF g ops ⟨mem, bnd, Qs⟩ false p k))) : Nx g env mem bnd L (RunC g (.code (.region i ops true) :: k)) := by
  intro β a w hr
  have hr' : Rel g β env mem bnd L a { w with drawn := w.drawn + 1 } := hr.world rfl rfl rfl rfl
  refine Ret.code (wp_region_any hm (wpX_any _ _ _ _ (S := heldW ⟨mem, bnd, Qs⟩) (late := isLateF (PF.pre seg p)) ?_))
  refine (plan_soundF hsel (fun c a w h => h) (PF.pre seg p)).1 _ _ _ _ hok ?_
  exact runF_pre (fun a w h => h) seg a _ (h β a _ hr' (hr'.heldN (H := ⟨mem, bnd, Qs⟩) hP hB (subM.refl _) hp))
/-- Each that may come first. -/
theorem Nx.forkF {i : Nat} {keep : Bool} {seg : List PI} {r q : PF} (h1 : Nx g env mem bnd L (planHead g ops H false (.ex i keep :: seg) (endF g ops H false r k))) (h2 : Nx g env mem bnd L (endF g ops H true q k)) : Nx g env mem bnd L (endF g ops H b (.alt i keep (PF.pre seg r) q) k) := by
  intro β a w hr
  have h3 := runF_pre (Q := Qn g k) (p := r) (fun a w h => h) _ a w (h1 β a w hr)
  exact ⟨h3.1, h2 β a w hr⟩
theorem Nx.forkN : Nx g env mem bnd L (endF g ops H true .nil k) := fun _ _ _ _ => trivial
theorem Nx.forkE (h : Nx g env mem bnd L (RunC g k)) : Nx g env mem bnd L (endF g ops H false .nil k) := fun β a w hr => h β a w hr
theorem atFork {p : PF} (h : Nx g env mem bnd L (endF g ops H b p k)) : Nx g env mem bnd L (endF g ops H b p k) := h
end
end Go.Proofs.YtccmdlmlbkpjjaaGreatDoor

/- Short forms of the rules, for texts that must be small: no guards are needed where the heads are irreducible. -/
namespace Go.Proofs.YtccmdlmlbkpjjaaGreatDoor
section
variable {g : Cx} {env : Env} {mem : Mem} {bnd : Bnd} {L : Res} {N : Act → World → Prop} {Q : Exit → Act → World → Prop} {ops : Array Oper} {H : Held} {kN : Act → World → Prop} {k : List Item}
/-- May the executor go on here? -/
def runOk : Ctl → Bool
  | .run [] => false
  | .run (.code .ret :: _) => false
  | .run (.code (.loop _) :: _) => false
  | .run (.code (.region _ _ true) :: _) => false
  | .run (.inLoop _ :: _) => false
  | _ => true
theorem gO {c : Ctl} (_ : runOk c = true) (h : sx false 200 g env mem bnd L c) : Nx g env mem bnd L (headC g c) := go 200 h
/-- One step of what is run, as far as the region's end. -/
def stepOf : Ctl → Nat
  | .run _ => 1
  | .ops _ _ _ => 200
theorem gR {c : Ctl} (_ : runOk c = true) (h : sx true (stepOf c) g env mem bnd L c) : Nx g env mem bnd L (headC g c) := goR _ h
theorem gP {hold : Bool} {plan : List PI} {Ps : List SP} (hP : pinS H.bnd H.mem = some Ps) (hB : subB H.bnd bnd) (h : sxP 200 g ops H hold env mem bnd L plan kN) : Nx g env mem bnd L (planHead g ops H hold plan kN) := Nx.runP hP hB h
theorem hL1 {o : Oper} {t : TypeId} {x : Operand} {b p : Nat} {S : SP} {y : Value} {Ps : List SP}
    (ho : o.op = .load t x) (hx : ev env x = some (.c (.v (.pointer (some ⟨b, p, none⟩))))) (hd : dstOk g.n o.dst = true) (hP : pinS H.bnd H.mem = some Ps) (hs : SeesAt S b p [y]) (hS : S ∈ H.ps)
    (ht : aggOf g.P t = .one) (hk : Nx g (putE o.dst (.c (.v y)) env) mem bnd L N) : Nx g env mem bnd L (HoC g (heldW H) o N) := Nx.hoLoad1 ho hx hd hP hS hs ht hk
theorem hLm {o : Oper} {t : TypeId} {x : Operand} {b p : Nat} {S : SP} {ys : List Value} {cs : List Ce} {Ps : List SP}
    (ho : o.op = .load t x) (hx : ev env x = some (.c (.v (.pointer (some ⟨b, p, none⟩))))) (hd : dstOk g.n o.dst = true) (hP : pinS H.bnd H.mem = some Ps) (hs : SeesAt S b p ys) (hS : S ∈ H.ps)
    (ht : aggOf g.P t = .many ys.length) (hy : valsO ys = some cs) (hk : Nx g (putE o.dst (.agg cs) env) mem bnd L N) : Nx g env mem bnd L (HoC g (heldW H) o N) := Nx.hoLoad ho hx hd hP hS hs ht hy hk
theorem cE (ns ns' : List Nat) {o : Oper} {x : Operand} {ars : Array Operand} {ts : Array TypeId} {f : Nat} {first cap : Array Value} {vs args : List Value} {Pre : List SP} {c : Value} {R : List SP} {L' : Res}
    (ho : o.op = .call ⟨.value x, ars, ts⟩) (hx : ev env x = some (.c (.v (.func (.func f) first cap)))) (hv : opsV env bnd ars.toList = some vs) (ha : first.toList ++ (vs ++ cap.toList) = args) (hd : dstOk g.n o.dst = true)
    (h : FnOk g.P f args Pre (fun v Q => v = c ∧ Q = R)) (hp : pick ns L = some (Pre, L'))
    (hk : Nx g (putE o.dst (ofV c) env) mem bnd (ns'.zip R ++ L') N) : Nx g env mem bnd L (OneC g o N Q) :=
  Nx.call ns ns' ho hx hv ha hd h hp fun v Q e => by obtain ⟨rfl, rfl⟩ := e; exact hk
/-- A plan out of numbers: four times the place, and 0 pure, 1 held, 2 acts and keeps, 3 acts. -/
def planOf : List Nat → List PI
  | [] => []
  | n :: r => (match n % 4 with
    | 0 => PI.pure (n / 4)
    | 1 => PI.held (n / 4)
    | 2 => PI.ex (n / 4) true
    | _ => PI.ex (n / 4) false) :: planOf r
theorem dN (i : Nat) (ns : List Nat) (plan : List Nat) {Ps Qs : List SP} {L' : Res} (hm : g.P.follows .mixedOrders = true) (hsel : Region.noSelect ops = true) (hlen : (planOf plan).length = ops.size) (hok : planOk ops (isLate (planOf plan)) (Array.replicate ops.size false) (planOf plan) = true)
    (hP : pinS bnd mem = some Ps) (hB : subB bnd bnd) (hp : pick ns L = some (Qs, L'))
    (h : Nx g env mem bnd L (planHead g ops ⟨mem, bnd, Qs⟩ true (planOf plan) (RunC g k))) : Nx g env mem bnd L (RunC g (.code (.region i ops true) :: k)) := Nx.drawn0 ns (planOf plan) hm hsel hlen hok hP hB hp h
/-- The first block of the call's own that has no number yet. -/
def unbound : Mem → Bnd → Option Nat
  | [], _ => none
  | (l, _, _) :: r, bnd => match lookB bnd l with
    | none => some l
    | some _ => unbound r bnd
theorem unbound_none : ∀ {mem : Mem} {bnd : Bnd} {l : Nat}, unbound mem bnd = some l → lookB bnd l = none
  | [], _, _, h => by cases h
  | (l', t, cs) :: r, bnd, l, h => by
    unfold unbound at h
    split at h
    · rename_i e
      cases h
      exact e
    · exact unbound_none h
theorem Nx.bind1 {l : Nat} (h : unbound mem bnd = some l) (k : ∀ b, Nx g env mem ((l, b) :: bnd) L N) : Nx g env mem bnd L N := Nx.bind k (unbound_none h)
end
end Go.Proofs.YtccmdlmlbkpjjaaGreatDoor

/- Plain laws: numbers as words. -/
namespace Go.Proofs.YtccmdlmlbkpjjaaGreatDoor
open Go.Lib
abbrev Str := List UInt8

def isDig (c : UInt8) : Prop := 48 ≤ c.toNat ∧ c.toNat ≤ 57
def digStep (a : Nat) (c : UInt8) : Nat := a * 10 + (c.toNat - 48)
def valFrom (acc : Nat) (d : Str) : Nat := d.foldl digStep acc
theorem valFrom_cons (a : Nat) (c : UInt8) (r : Str) : valFrom a (c :: r) = valFrom (a * 10 + (c.toNat - 48)) r := by
  unfold valFrom; rw [List.foldl_cons, digStep]
abbrev val (d : Str) : Nat := valFrom 0 d
theorem valFrom_nil (a : Nat) : valFrom a [] = a := rfl
theorem valFrom_append (a : Nat) (x y : Str) : valFrom a (x ++ y) = valFrom (valFrom a x) y := by
  unfold valFrom; rw [List.foldl_append]
theorem val_snoc (x : Str) (c : UInt8) : val (x ++ [c]) = val x * 10 + (c.toNat - 48) := by
  rw [val, valFrom_append, valFrom_cons, valFrom_nil]
theorem le_valFrom (a : Nat) (x : Str) : a ≤ valFrom a x := by
  induction x generalizing a with
  | nil => exact Nat.le_refl _
  | cons c x ih =>
    rw [valFrom_cons]
    have := ih (a * 10 + (c.toNat - 48))
    omega
theorem valFrom_take (x : Str) (k : Nat) (a : Nat) : valFrom a (x.take k) ≤ valFrom a x := by
  conv => rhs; rw [← List.take_append_drop k x, valFrom_append]
  exact le_valFrom _ _

theorem dig_ofNat {u : Nat} (h : u < 10) : (UInt8.ofNat (48 + u)).toNat = 48 + u := by
  rw [UInt8.toNat_ofNat']; omega
theorem dig_eta {c : UInt8} (h : isDig c) : UInt8.ofNat (48 + (c.toNat - 48)) = c := by
  have : 48 + (c.toNat - 48) = c.toNat := by have := h.1; omega
  rw [this, UInt8.ofNat_toNat]

theorem decDigits_small {u : Nat} (h : u < 10) : decDigits u = [UInt8.ofNat (48 + u)] := by rw [decDigits, dif_pos h]
theorem decDigits_big {u : Nat} (h : ¬ u < 10) : decDigits u = decDigits (u / 10) ++ [UInt8.ofNat (48 + u % 10)] := by rw [decDigits, dif_neg h]
theorem decDigits_ne (u : Nat) : decDigits u ≠ [] := by
  by_cases h : u < 10
  · rw [decDigits_small h]; simp
  · rw [decDigits_big h]; simp
theorem decDigits_dig (u : Nat) : ∀ c ∈ decDigits u, isDig c := by
  induction u using Nat.strongRecOn with
  | _ u ih =>
    by_cases h : u < 10
    · rw [decDigits_small h]
      intro c hc
      rw [List.mem_singleton] at hc
      subst hc
      unfold isDig
      rw [dig_ofNat h]; omega
    · rw [decDigits_big h]
      intro c hc
      rcases List.mem_append.1 hc with hc | hc
      · exact ih _ (by omega) c hc
      · rw [List.mem_singleton] at hc
        subst hc
        unfold isDig
        rw [dig_ofNat (by omega)]; omega
theorem val_decDigits (u : Nat) : val (decDigits u) = u := by
  induction u using Nat.strongRecOn with
  | _ u ih =>
    by_cases h : u < 10
    · rw [decDigits_small h]
      rw [val, valFrom_cons, dig_ofNat h]
      unfold valFrom
      rw [List.foldl_nil]; omega
    · rw [decDigits_big h, val_snoc, ih _ (by omega), dig_ofNat (by omega)]; omega
/-- No nought ahead, but of the nought itself. -/
def lead (d : Str) : Prop := 1 < d.length → d[0]? ≠ some 48
theorem decDigits_lead (u : Nat) : lead (decDigits u) ∧ (0 < u → (decDigits u)[0]? ≠ some 48) := by
  induction u using Nat.strongRecOn with
  | _ u ih =>
    by_cases h : u < 10
    · rw [decDigits_small h]
      refine ⟨fun hl => by simp at hl, fun h0 he => ?_⟩
      simp only [List.getElem?_cons_zero, Option.some.injEq] at he
      have := congrArg UInt8.toNat he
      rw [dig_ofNat h] at this
      have e : (48 : UInt8).toNat = 48 := rfl
      omega
    · have h2 := (ih (u / 10) (by omega)).2 (by omega)
      have h3 := List.length_pos_iff.2 (decDigits_ne (u / 10))
      rw [decDigits_big h]
      have e : (decDigits (u / 10) ++ [UInt8.ofNat (48 + u % 10)])[0]? = (decDigits (u / 10))[0]? := List.getElem?_append_left h3
      exact ⟨fun _ => by rw [e]; exact h2, fun _ => by rw [e]; exact h2⟩
theorem val_pos {d : Str} (hd : ∀ c ∈ d, isDig c) (h0 : d ≠ []) (h : d[0]? ≠ some 48) : 0 < val d := by
  cases d with
  | nil => exact absurd rfl h0
  | cons c r =>
    have hc := hd c List.mem_cons_self
    have : c ≠ 48 := fun e => h (by rw [e]; rfl)
    have h2 : c.toNat ≠ 48 := fun e => this (UInt8.toNat_inj.1 e)
    have := le_valFrom (0 * 10 + (c.toNat - 48)) r
    rw [val, valFrom_cons]
    have := hc.1
    omega
theorem snoc_cases (d : Str) : d = [] ∨ ∃ x c, d = x ++ [c] := by
  rcases List.eq_nil_or_concat d with h | ⟨x, c, h⟩
  · exact .inl h
  · exact .inr ⟨x, c, by rw [h, List.concat_eq_append]⟩
theorem decDigits_val : ∀ (n : Nat) (d : Str), d.length = n → (∀ c ∈ d, isDig c) → d ≠ [] → lead d → decDigits (val d) = d := by
  intro n
  induction n with
  | zero => intro d hl _ h0; exact absurd (List.eq_nil_of_length_eq_zero hl) h0
  | succ n ih =>
    intro d hl hd h0 hlead
    rcases snoc_cases d with rfl | ⟨x, c, rfl⟩
    · exact absurd rfl h0
    · have hc := hd c (by simp)
      have hc1 := hc.1
      have hc2 := hc.2
      rw [val_snoc]
      by_cases hx : x = []
      · subst hx
        have e : val [] = 0 := rfl
        rw [e, List.nil_append, Nat.zero_mul, Nat.zero_add, decDigits_small (by omega), dig_eta hc]
      · have hxl := List.length_pos_iff.2 hx
        have hh : x[0]? ≠ some 48 := by
          have := hlead (by simp; omega)
          rwa [List.getElem?_append_left hxl] at this
        have hp := val_pos (fun a ha => hd a (List.mem_append_left _ ha)) hx hh
        rw [decDigits_big (by omega), show (val x * 10 + (c.toNat - 48)) / 10 = val x by omega, show (val x * 10 + (c.toNat - 48)) % 10 = c.toNat - 48 by omega,
          ih x (by simp at hl; omega) (fun a ha => hd a (List.mem_append_left _ ha)) hx (fun _ => hh), dig_eta hc]

theorem parseUintM_val {M : Nat} (hM : M ≤ 18446744073709551615) : ∀ (d : Str) (a : Nat), (∀ c ∈ d, isDig c) → valFrom a d ≤ M → parseUintM M a d = .ok (valFrom a d)
  | [], a, _, _ => rfl
  | c :: r, a, hd, hv => by
    have hc := hd c List.mem_cons_self
    have h1 : a * 10 + (c.toNat - 48) ≤ valFrom (a * 10 + (c.toNat - 48)) r := le_valFrom _ _
    rw [valFrom_cons] at hv ⊢
    have h2 := hv
    rw [parseUintM, if_pos (show 48 ≤ c.toNat ∧ c.toNat ≤ 57 from hc), if_neg (by omega), if_neg (by omega)]
    exact parseUintM_val hM r _ (fun x hx => hd x (List.mem_cons_of_mem _ hx)) hv

def I64n (v : Int) : Prop := -9223372036854775808 ≤ v ∧ v ≤ 9223372036854775807
/-- The number of a word, that is written as it would be printed. -/
def numOf (s : Str) : Option Int :=
  match parseIntB 64 s with
  | .ok v => if itoa v = s then some v else none
  | _ => none
theorem itoa_pos {v : Int} (h : 0 ≤ v) : itoa v = decDigits v.toNat := by rw [itoa, if_neg (by omega)]
theorem itoa_neg {v : Int} (h : v < 0) : itoa v = 45 :: decDigits v.natAbs := by rw [itoa, if_pos h]
theorem itoa_ne (v : Int) : itoa v ≠ [] := by
  by_cases h : v < 0
  · rw [itoa_neg h]; simp
  · rw [itoa_pos (by omega)]; exact decDigits_ne _
theorem parse_itoa {v : Int} (h : I64n v) : parseIntB 64 (itoa v) = .ok v := by
  unfold I64n at h
  by_cases hn : v < 0
  · rw [itoa_neg hn]
    have e : (45 : UInt8).toNat = 45 := rfl
    have hv := val_decDigits v.natAbs
    have hp : parseUintB 64 (decDigits v.natAbs) = .ok v.natAbs := by
      rw [parseUintB, if_neg (decDigits_ne _), parseUintM_val (by omega) _ _ (decDigits_dig _) (by rw [show valFrom 0 (decDigits v.natAbs) = v.natAbs from hv]; omega), show valFrom 0 (decDigits v.natAbs) = v.natAbs from hv]
    have e63 : (2 : Nat) ^ (64 - 1) = 9223372036854775808 := rfl
    simp only [parseIntB, e, or_true, if_true, hp]
    rw [e63, if_neg (by simp), if_neg (by omega)]
    congr 1
    omega
  · rw [itoa_pos (by omega)]
    have hv := val_decDigits v.toNat
    have hp : parseUintB 64 (decDigits v.toNat) = .ok v.toNat := by
      rw [parseUintB, if_neg (decDigits_ne _), parseUintM_val (by omega) _ _ (decDigits_dig _) (by rw [show valFrom 0 (decDigits v.toNat) = v.toNat from hv]; omega), show valFrom 0 (decDigits v.toNat) = v.toNat from hv]
    cases hd : decDigits v.toNat with
    | nil => exact absurd hd (decDigits_ne _)
    | cons c r =>
      have hc : isDig c := decDigits_dig v.toNat c (by rw [hd]; exact List.mem_cons_self)
      have h1 : ¬ (c.toNat = 43 ∨ c.toNat = 45) := by have := hc.1; omega
      have h2 : ¬ c.toNat = 45 := by have := hc.1; omega
      rw [hd] at hp
      have e63 : (2 : Nat) ^ (64 - 1) = 9223372036854775808 := rfl
      simp only [parseIntB, if_neg h1, hp]
      rw [e63, if_neg (fun x => by omega), if_neg (fun x => h2 x.1), if_neg h2]
      congr 1
      omega
theorem numOf_itoa {v : Int} (h : I64n v) : numOf (itoa v) = some v := by
  unfold numOf; rw [parse_itoa h]; simp
theorem parse_bound {s : Str} {v : Int} (h : parseIntB 64 s = .ok v) : I64n v := by
  unfold I64n
  cases s with
  | nil => simp [parseIntB] at h
  | cons c r =>
    simp only [parseIntB] at h
    split at h
    · cases h
    · cases h
    · rename_i u hu
      split at h
      · cases h
      · split at h
        · cases h
        · rename_i h1 h2
          have e63 : (2 : Nat) ^ (64 - 1) = 9223372036854775808 := rfl
          rw [e63] at h1 h2
          injection h with h
          by_cases hc : c.toNat = 45
          · rw [if_pos hc] at h
            have : ¬ 9223372036854775808 < u := fun x => h2 ⟨hc, x⟩
            omega
          · rw [if_neg hc] at h
            have : ¬ 9223372036854775808 ≤ u := fun x => h1 ⟨hc, x⟩
            omega
theorem numOf_some {s : Str} {v : Int} (h : numOf s = some v) : itoa v = s ∧ I64n v := by
  unfold numOf at h
  split at h
  · rename_i u hu
    split at h
    · cases h; rename_i he; exact ⟨he, parse_bound hu⟩
    · cases h
  · cases h
theorem numOf_iff {s : Str} {v : Int} : numOf s = some v ↔ itoa v = s ∧ I64n v :=
  ⟨numOf_some, fun ⟨h1, h2⟩ => by rw [← h1]; exact numOf_itoa h2⟩
theorem numOf_none {s : Str} (h : ∀ v, I64n v → itoa v ≠ s) : numOf s = none := by
  cases hn : numOf s with
  | none => rfl
  | some v => exact absurd (numOf_some hn).1 (h v (numOf_some hn).2)
end Go.Proofs.YtccmdlmlbkpjjaaGreatDoor

/- Plain laws: how the document reads a number. -/
namespace Go.Proofs.YtccmdlmlbkpjjaaGreatDoor
open Go.Lib

theorem decDigits_len : ∀ (k u : Nat), 0 < k → u < 10 ^ k → (decDigits u).length ≤ k
  | 0, _, h, _ => absurd h (by omega)
  | 1, u, _, h => by rw [decDigits_small (by simpa using h)]; simp
  | k + 2, u, _, h => by
    by_cases h0 : u < 10
    · rw [decDigits_small h0]; simp
    · rw [decDigits_big h0, List.length_append]
      have := decDigits_len (k + 1) (u / 10) (by omega) (by rw [Nat.pow_succ] at h; omega)
      simp; omega
/-- A minus ahead? -/
def minusB (s : Str) : Bool := decide (s[0]? = some 45)
def magn (s : Str) : Str := if minusB s then s.drop 1 else s
theorem magn_itoa (v : Int) : minusB (itoa v) = decide (v < 0) ∧ magn (itoa v) = decDigits v.natAbs := by
  by_cases h : v < 0
  · rw [itoa_neg h]
    simp [minusB, magn, h]
  · rw [itoa_pos (by omega)]
    have hne := decDigits_ne v.toNat
    have h1 : (decDigits v.toNat)[0]? ≠ some 45 := by
      cases hd : decDigits v.toNat with
      | nil => exact absurd hd hne
      | cons c r =>
        intro he
        simp only [List.getElem?_cons_zero, Option.some.injEq] at he
        subst he
        have := decDigits_dig v.toNat 45 (by rw [hd]; exact List.mem_cons_self)
        have := this.1
        have e : (45 : UInt8).toNat = 45 := rfl
        omega
    have e : v.toNat = v.natAbs := by omega
    simp [minusB, magn, h, h1]
    rw [e]
structure NumF (s : Str) (v : Int) : Prop where
  d : magn s = decDigits v.natAbs
  neg : minusB s = decide (v < 0)
  b : I64n v
theorem NumF.of {s : Str} {v : Int} (h1 : I64n v) (h2 : itoa v = s) : NumF s v := by
  subst h2
  exact ⟨(magn_itoa v).2, (magn_itoa v).1, h1⟩
theorem none_of {s : Str} (h : ∀ v, NumF s v → False) : numOf s = none := numOf_none fun v h1 h2 => h v (.of h1 h2)
theorem num_bad1 {s : Str} (h : (magn s).length = 0 ∨ 19 < (magn s).length) : numOf s = none := none_of fun v hv => by
  have h1 := hv.d
  have h2 := hv.b
  unfold I64n at h2
  have := decDigits_len 19 v.natAbs (by omega) (by omega)
  have h3 := List.length_pos_iff.2 (decDigits_ne v.natAbs)
  rw [h1] at h
  omega
theorem num_bad2 {s : Str} (h1 : 1 < (magn s).length) (h2 : (magn s)[0]? = some 48) : numOf s = none := none_of fun v hv => by
  rw [hv.d] at h1 h2
  exact (decDigits_lead v.natAbs).1 h1 h2
theorem num_bad3 {s : Str} (h1 : minusB s = true) (h2 : magn s = [48]) : numOf s = none := none_of fun v hv => by
  have h3 := hv.d
  have h4 := hv.neg
  rw [h1] at h4
  have h5 : v < 0 := by simpa using h4.symm
  rw [h2] at h3
  have h6 := val_decDigits v.natAbs
  rw [← h3] at h6
  have : val [48] = 0 := by decide
  omega
theorem num_bad4 {s : Str} {c : UInt8} (h1 : c ∈ magn s) (h2 : ¬ isDig c) : numOf s = none := none_of fun v hv => by
  rw [hv.d] at h1
  exact h2 (decDigits_dig _ _ h1)
theorem num_bad5 {s : Str} {k : Nat} (h : 9223372036854775808 < val ((magn s).take k)) : numOf s = none := none_of fun v hv => by
  have h1 : val ((magn s).take k) ≤ val (magn s) := valFrom_take (magn s) k 0
  have h2 := val_decDigits v.natAbs
  rw [hv.d] at h h1
  have := hv.b
  unfold I64n at this
  omega
theorem num_bad6 {s : Str} (h1 : minusB s = false) (h : 9223372036854775808 ≤ val (magn s)) : numOf s = none := none_of fun v hv => by
  have h2 := val_decDigits v.natAbs
  have h4 := hv.neg
  rw [h1] at h4
  have h5 : ¬ v < 0 := by simpa using h4.symm
  rw [hv.d] at h
  have := hv.b
  unfold I64n at this
  omega
theorem magn_minus {s : Str} (h : minusB s = true) : s = 45 :: magn s := by
  unfold magn
  rw [if_pos h]
  cases s with
  | nil => simp [minusB] at h
  | cons c r =>
    have : c = 45 := by simpa [minusB] using h
    subst this
    rfl
theorem magn_plain {s : Str} (h : minusB s = false) : magn s = s := by unfold magn; rw [h]; rfl
theorem num_neg {s : Str} (h : minusB s = true) (hd : ∀ c ∈ magn s, isDig c) (h0 : magn s ≠ []) (hl : lead (magn s)) (hn : magn s ≠ [48]) (hv : val (magn s) ≤ 9223372036854775808) : numOf s = some (-(val (magn s) : Int)) := by
  rw [numOf_iff]
  have e := decDigits_val _ _ rfl hd h0 hl
  have hp : 0 < val (magn s) := by
    rcases Nat.eq_zero_or_pos (val (magn s)) with h1 | h1
    · rw [h1] at e
      exact absurd (by rw [← e]; rw [decDigits_small (by omega)]; rfl) hn
    · exact h1
  refine ⟨?_, ⟨by omega, by omega⟩⟩
  rw [itoa_neg (by omega), show (-(val (magn s) : Int)).natAbs = val (magn s) by omega, e]
  exact (magn_minus h).symm
theorem num_pos {s : Str} (h : minusB s = false) (hd : ∀ c ∈ magn s, isDig c) (h0 : magn s ≠ []) (hl : lead (magn s)) (hv : val (magn s) < 9223372036854775808) : numOf s = some (val (magn s) : Int) := by
  rw [numOf_iff]
  have e := decDigits_val _ _ rfl hd h0 hl
  refine ⟨?_, ⟨by omega, by omega⟩⟩
  rw [itoa_pos (by omega), show ((val (magn s) : Int)).toNat = val (magn s) by omega, e]
  exact magn_plain h

/-! ### Splitting and joining -/
def splitC (c : UInt8) : Str → List Str
  | [] => [[]]
  | x :: r => if x = c then [] :: splitC c r else match splitC c r with
    | [] => [[x]]
    | w :: ws => (x :: w) :: ws
theorem splitC_ne (c : UInt8) (s : Str) : splitC c s ≠ [] := by
  cases s with
  | nil => simp [splitC]
  | cons x r =>
    simp only [splitC]
    split
    · simp
    · split <;> simp
/-- What stands ahead of the first c, and behind it. -/
def pairC (c : UInt8) : Str → Option (Str × Str)
  | [] => none
  | x :: r => if x = c then some ([], r) else match pairC c r with
    | some (a, b) => some (x :: a, b)
    | none => none
theorem pairC_none {c : UInt8} : ∀ {s : Str}, pairC c s = none ↔ c ∉ s
  | [] => by simp [pairC]
  | x :: r => by
    simp only [pairC]
    split
    · rename_i h; subst h; simp
    · rename_i h
      have ih := pairC_none (c := c) (s := r)
      cases hr : pairC c r with
      | none =>
        have : c ∉ r := ih.1 hr
        simp [this]; exact fun e => h e.symm
      | some p =>
        have : c ∈ r := by
          by_cases hm : c ∈ r
          · exact hm
          · rw [ih.2 hm] at hr; cases hr
        simp [this]
theorem pairC_some {c : UInt8} : ∀ {s a b : Str}, pairC c s = some (a, b) ↔ s = a ++ c :: b ∧ c ∉ a
  | [], a, b => by simp [pairC]
  | x :: r, a, b => by
    simp only [pairC]
    split
    · rename_i h; subst h
      constructor
      · intro h; cases h; simp
      · rintro ⟨h1, h2⟩
        cases a with
        | nil => simp at h1; simp [h1]
        | cons y a => simp at h1 h2; exact absurd h1.1 h2.1
    · rename_i h
      have ih := fun a b => pairC_some (c := c) (s := r) (a := a) (b := b)
      cases a with
      | nil =>
        constructor
        · intro h; split at h <;> simp at h
        · rintro ⟨h1, _⟩; simp at h1; exact absurd h1.1 h
      | cons y a =>
        constructor
        · intro hh
          split at hh
          · rename_i p q hpq
            simp only [Option.some.injEq, Prod.mk.injEq, List.cons.injEq] at hh
            obtain ⟨⟨rfl, rfl⟩, rfl⟩ := hh
            obtain ⟨h1, h2⟩ := (ih _ _).1 hpq
            exact ⟨by simp [h1], by simp only [List.mem_cons, not_or]; exact ⟨fun e => h e.symm, h2⟩⟩
          · cases hh
        · rintro ⟨h1, h2⟩
          simp only [List.cons_append, List.cons.injEq] at h1
          simp only [List.mem_cons, not_or] at h2
          obtain ⟨rfl, h1⟩ := h1
          rw [(ih a b).2 ⟨h1, h2.2⟩]
theorem splitC_no {c : UInt8} : ∀ {s : Str}, c ∉ s → splitC c s = [s]
  | [], _ => rfl
  | x :: r, h => by
    simp only [List.mem_cons, not_or] at h
    rw [splitC, if_neg (fun e => h.1 e.symm), splitC_no h.2]
theorem splitC_append {c : UInt8} : ∀ {a : Str} (b : Str), c ∉ a → splitC c (a ++ c :: b) = a :: splitC c b
  | [], b, _ => by simp [splitC]
  | x :: a, b, h => by
    simp only [List.mem_cons, not_or] at h
    rw [List.cons_append, splitC, if_neg (fun e => h.1 e.symm), splitC_append b h.2]
theorem splitC_no_mem {c : UInt8} : ∀ {s : Str}, ∀ w ∈ splitC c s, c ∉ w
  | [], w, h => by simp [splitC] at h; subst h; simp
  | x :: r, w, h => by
    have ih := splitC_no_mem (c := c) (s := r)
    simp only [splitC] at h
    split at h
    · rcases List.mem_cons.1 h with rfl | h
      · simp
      · exact ih w h
    · rename_i hx
      split at h
      · simp at h; subst h; simp; exact fun e => hx e.symm
      · rename_i u us hu
        rw [hu] at ih
        rcases List.mem_cons.1 h with rfl | h
        · simp only [List.mem_cons, not_or]
          exact ⟨fun e => hx e.symm, ih u List.mem_cons_self⟩
        · exact ih w (List.mem_cons_of_mem _ h)
/-- Words with one sign between them. -/
def joinC (c : UInt8) : List Str → Str
  | [] => []
  | [w] => w
  | w :: v :: r => w ++ c :: joinC c (v :: r)
theorem joinC_cons (c : UInt8) (w : Str) {r : List Str} (h : r ≠ []) : joinC c (w :: r) = w ++ c :: joinC c r := by
  cases r with
  | nil => exact absurd rfl h
  | cons v r => rfl
theorem joinC_split (c : UInt8) : ∀ s : Str, joinC c (splitC c s) = s
  | [] => rfl
  | x :: r => by
    have ih := joinC_split c r
    simp only [splitC]
    split
    · rename_i h; subst h
      rw [joinC_cons _ _ (splitC_ne _ _), ih]; rfl
    · split
      · rename_i h; exact absurd h (splitC_ne _ _)
      · rename_i w ws h
        rw [h] at ih
        cases ws with
        | nil => show x :: w = x :: r; rw [← ih]; rfl
        | cons v ws =>
          rw [joinC_cons _ _ (by simp)] at ih ⊢
          rw [← ih]; rfl
theorem split_joinC {c : UInt8} : ∀ {l : List Str}, l ≠ [] → (∀ w ∈ l, c ∉ w) → splitC c (joinC c l) = l
  | [], h, _ => absurd rfl h
  | [w], _, h => splitC_no (h w (by simp))
  | w :: v :: r, _, h => by
    rw [joinC_cons _ _ (by simp), splitC_append _ (h w (by simp)), split_joinC (by simp) (fun u hu => h u (List.mem_cons_of_mem _ hu))]
theorem joinC_inter (c : UInt8) : ∀ l : List Str, [c].intercalate l = joinC c l
  | [] => rfl
  | [w] => by simp [List.intercalate, joinC]
  | w :: v :: r => by
    have ih := joinC_inter c (v :: r)
    simp only [List.intercalate, List.intersperse_cons_cons, List.flatten_cons] at ih ⊢
    rw [ih]
    simp [joinC]
end Go.Proofs.YtccmdlmlbkpjjaaGreatDoor

/- Plain laws: the library's splitting and cutting at one sign. -/
namespace Go.Proofs.YtccmdlmlbkpjjaaGreatDoor
open Go.Lib

theorem index_pair (c : UInt8) : ∀ s : Str, index s [c] = match pairC c s with | some (a, _) => (a.length : Int) | none => -1
  | [] => rfl
  | x :: r => by
    have ih := index_pair c r
    by_cases h : x = c
    · subst h
      simp [index, pairC]
    · have hp : ([c] : Str).isPrefixOf (x :: r) = false := by
        show (c == x && ([] : Str).isPrefixOf r) = false
        rw [beq_eq_false_iff_ne.2 (fun e => h e.symm), Bool.false_and]
      rw [index, pairC, hp, if_neg h, ih]
      simp only [Bool.false_eq_true, if_false]
      cases hr : pairC c r with
      | none => rfl
      | some p =>
        obtain ⟨a, b⟩ := p
        have : ((a.length : Int) == -1) = false := by rw [beq_eq_false_iff_ne]; omega
        simp [this]
theorem splitK_eq (c : UInt8) : ∀ (k : Nat) (s : Str), s.count c = k → splitK [c] 0 k s = splitC c s
  | 0, s, h => by
    have : c ∉ s := List.count_eq_zero.1 h
    rw [splitC_no this]; rfl
  | k + 1, s, h => by
    have hm : c ∈ s := List.count_pos_iff.1 (by omega)
    cases hp : pairC c s with
    | none => exact absurd hm (pairC_none.1 hp)
    | some p =>
      obtain ⟨a, b⟩ := p
      obtain ⟨h1, h2⟩ := pairC_some.1 hp
      have hi := index_pair c s
      rw [hp] at hi
      have hne : ((index s [c]) == -1) = false := by rw [hi, beq_eq_false_iff_ne]; simp only; omega
      rw [splitK, hne, hi]
      subst h1
      have hc : b.count c = k := by
        rw [List.count_append, List.count_cons_self, List.count_eq_zero.2 h2] at h
        omega
      simp only [Bool.false_eq_true, if_false, Int.toNat_natCast, Nat.add_zero, List.length_singleton]
      rw [splitC_append b h2, List.take_left, show a ++ c :: b = (a ++ [c]) ++ b by simp, List.drop_left' (by simp), splitK_eq c k b hc]
theorem split_lib (c : UInt8) (s : ByteArray) : (splitB ⟨#[c]⟩ 0 (countB s ⟨#[c]⟩) s).map (·.data.toList) = splitC c s.data.toList := by
  rw [splitB_data]
  exact splitK_eq c _ _ (count_one c s.data.toList).symm
theorem cut_lib (c : UInt8) (s : Str) : cut s [c] = match pairC c s with | some (a, b) => (a, b, true) | none => (s, [], false) := by
  have hi := index_pair c s
  unfold cut
  rw [hi]
  cases hp : pairC c s with
  | none => simp
  | some p =>
    obtain ⟨a, b⟩ := p
    obtain ⟨h1, h2⟩ := pairC_some.1 hp
    subst h1
    simp only [List.length_singleton]
    rw [if_pos (by omega), Int.toNat_natCast, List.take_left, show a ++ c :: b = (a ++ [c]) ++ b by simp, List.drop_left' (by simp)]
end Go.Proofs.YtccmdlmlbkpjjaaGreatDoor

/- The evaluator: bounds of labels, blocks that may grow, the relation to frames and worlds. -/
namespace Go.Proofs.YtccmdlmlbkpjjaaGreatDoor
open Go.RowKit

/-! ### Bounds of labels -/
def Ce.lt (n : Nat) : Ce → Prop
  | .v _ => True
  | .loc l _ => l < n
  | .locs l _ _ _ => l < n
  | .ifl _ l _ => l < n
  | .gro l _ _ _ => l + 1 < n
  | .tl l _ _ _ _ => l + 1 < n
def SV.lt (n : Nat) : SV → Prop
  | .c x => x.lt n
  | .agg cs => ∀ x ∈ cs, x.lt n
  | .tup _ => True
  | .kb _ => True
  | .tps vs => ∀ p ∈ vs, ∀ x ∈ p.2, x.lt n
def agree (n : Nat) (β β' : Nat → Nat) : Prop := ∀ l, l < n → β' l = β l
theorem agree.refl (n : Nat) (β : Nat → Nat) : agree n β β := fun _ _ => rfl
theorem agree.trans {n m : Nat} {β β' β'' : Nat → Nat} (h : agree n β β') (k : agree m β' β'') (hn : n ≤ m) : agree n β β'' :=
  fun l hl => (k l (Nat.lt_of_lt_of_le hl hn)).trans (h l hl)
theorem Ce.lt_mono {n m : Nat} (h : n ≤ m) {x : Ce} (hx : x.lt n) : x.lt m := by
  cases x <;> simp only [Ce.lt] at hx ⊢ <;> omega
theorem SV.lt_mono {n m : Nat} (h : n ≤ m) {x : SV} (hx : x.lt n) : x.lt m := by
  cases x with
  | c x => exact Ce.lt_mono h hx
  | agg cs => exact fun x hm => Ce.lt_mono h (hx x hm)
  | tup vs => trivial
  | kb b => trivial
  | tps vs => exact fun p hp x hm => Ce.lt_mono h (hx p hp x hm)
theorem Ce.den_agree {n : Nat} {β β' : Nat → Nat} (h : agree n β β') {x : Ce} (hx : x.lt n) : x.den β' = x.den β := by
  cases x with
  | v x => rfl
  | loc l o => simp [Ce.den, h l hx]
  | locs l o n c => simp [Ce.den, h l hx]
  | ifl t l o => simp [Ce.den, h l hx]
  | gro l o n e => simp only [Ce.lt] at hx; simp [Ce.den, h l (by omega), h (l + 1) hx]
  | tl l o n z e => simp only [Ce.lt] at hx; simp [Ce.den, h l (by omega), h (l + 1) hx]
theorem dens_agree {n : Nat} {β β' : Nat → Nat} (h : agree n β β') {cs : List Ce} (hx : ∀ x ∈ cs, x.lt n) : cs.map (Ce.den β') = cs.map (Ce.den β) :=
  List.map_congr_left fun x hm => Ce.den_agree h (hx x hm)
theorem tpDen_agree {n : Nat} {β β' : Nat → Nat} (h : agree n β β') : ∀ {p : Bool × List Ce}, (∀ x ∈ p.2, x.lt n) → tpDen β' p = tpDen β p
  | (true, cs), hx => by simp only [tpDen]; rw [dens_agree h hx]
  | (false, []), _ => rfl
  | (false, [x]), hx => Ce.den_agree h (hx x (by simp))
  | (false, _ :: _ :: _), _ => rfl
theorem SV.den_agree {n : Nat} {β β' : Nat → Nat} (h : agree n β β') {x : SV} (hx : x.lt n) : x.den β' = x.den β := by
  cases x with
  | c x => exact Ce.den_agree h hx
  | agg cs => simp only [SV.den]; rw [dens_agree h hx]
  | tup vs => rfl
  | kb b => rfl
  | tps vs =>
    simp only [SV.den]
    rw [List.map_congr_left fun p hp => tpDen_agree h (hx p hp)]
theorem Ce.lt_no {n l : Nat} (h : n ≤ l) {x : Ce} (hx : x.lt n) : x.no l = true := by
  have hb : ∀ k, k < n → Nat.beq k l = false := fun k hk => by rw [← Bool.not_eq_true, Nat.beq_eq]; omega
  cases x with
  | v x => rfl
  | loc k o => simp [Ce.no, hb k hx]
  | locs k o n c => simp [Ce.no, hb k hx]
  | ifl t k o => simp [Ce.no, hb k hx]
  | gro k o n e =>
    simp only [Ce.lt] at hx
    simp only [Ce.no, hb k (by omega), hb (k + 1) hx]
    rfl
  | tl k o n z e =>
    simp only [Ce.lt] at hx
    simp only [Ce.no, hb k (by omega), hb (k + 1) hx]
    rfl
theorem lts_no {n l : Nat} (h : n ≤ l) : ∀ {cs : List Ce}, (∀ x ∈ cs, x.lt n) → allNo l cs = true
  | [], _ => rfl
  | x :: r, hx => by
    unfold allNo
    rw [Ce.lt_no h (hx x (by simp))]
    exact lts_no h fun y hy => hx y (by simp [hy])
theorem tps_no {n l : Nat} (h : n ≤ l) : ∀ {vs : List (Bool × List Ce)}, (∀ p ∈ vs, ∀ x ∈ p.2, x.lt n) → tpsNo l vs = true
  | [], _ => rfl
  | (b, cs) :: r, hx => by
    unfold tpsNo
    rw [lts_no h (hx (b, cs) (by simp))]
    exact tps_no h fun p hp => hx p (by simp [hp])
theorem SV.lt_no {n l : Nat} (h : n ≤ l) {x : SV} (hx : x.lt n) : x.no l = true := by
  cases x with
  | c x => exact Ce.lt_no h hx
  | agg cs => exact lts_no h hx
  | tup vs => rfl
  | kb b => rfl
  | tps vs => exact tps_no h hx

/-! ### Blocks that may grow -/
/-- A label, the elements' type, how many there are, how many cells each has, the cells. -/
abbrev GMem := List (Nat × Nat × Nat × Nat × List Ce)
def grSP (β : Nat → Nat) (x : Nat × Nat × Nat × Nat × List Ce) : SP :=
  ownS x.2.1 (some ⟨β x.1, 0, none⟩) x.2.2.1 (β (x.1 + 1)) x.2.2.2.1 (x.2.2.2.2.map (Ce.den β))
def gmRes (β : Nat → Nat) (gm : GMem) : Res := gm.map fun x => (x.1, grSP β x)
def gmSP (β : Nat → Nat) (gm : GMem) : List SP := gm.map (grSP β)
theorem gmRes_snd (β : Nat → Nat) (gm : GMem) : (gmRes β gm).map (·.2) = gmSP β gm := by simp [gmRes, gmSP]

def lookG : GMem → Nat → Option (Nat × Nat × Nat × List Ce)
  | [], _ => none
  | (s, x) :: r, k => match Nat.beq s k with
    | true => some x
    | false => lookG r k
def delG : GMem → Nat → Option GMem
  | [], _ => some []
  | (s, x) :: r, k => match Nat.beq s k with
    | true => some r
    | false => match delG r k with
      | some r' => some ((s, x) :: r')
      | none => none
/-- Other cells, at the same place. -/
def setG : GMem → Nat → List Ce → Option GMem
  | [], _, _ => some []
  | (s, e, n, sz, x) :: r, k, cs => match Nat.beq s k with
    | true => some ((s, e, n, sz, cs) :: r)
    | false => match setG r k cs with
      | some r' => some ((s, e, n, sz, x) :: r')
      | none => none

structure GS where
  env : Env
  mem : Mem
  gm : GMem
  nl : Nat
  low : Nat

def RelG (g : Cx) (β : Nat → Nat) (s : GS) (L : Res) (a : Act) (w : World) : Prop := Rel g β s.env s.mem [] (gmRes β s.gm ++ L) a w

def ltE (n : Nat) (env : Env) : Prop := ∀ t x, look env t = some x → x.lt n
def ltM (n : Nat) (mem : Mem) : Prop := ∀ e ∈ mem, e.1 < n ∧ ∀ x ∈ e.2.2, x.lt n
def ltG (n : Nat) (gm : GMem) : Prop := ∀ e ∈ gm, e.1 + 1 < n ∧ ∀ x ∈ e.2.2.2.2, x.lt n
structure Bd (s : GS) : Prop where
  env : ltE s.nl s.env
  mem : ltM s.nl s.mem
  gm : ltG s.nl s.gm

theorem ltE.mono {n m : Nat} (h : n ≤ m) {env : Env} (k : ltE n env) : ltE m env := fun t x hx => SV.lt_mono h (k t x hx)
theorem ltM.mono {n m : Nat} (h : n ≤ m) {mem : Mem} (k : ltM n mem) : ltM m mem := fun e he => ⟨Nat.lt_of_lt_of_le (k e he).1 h, fun x hx => Ce.lt_mono h ((k e he).2 x hx)⟩
theorem ltG.mono {n m : Nat} (h : n ≤ m) {gm : GMem} (k : ltG n gm) : ltG m gm := fun e he => ⟨Nat.lt_of_lt_of_le (k e he).1 h, fun x hx => Ce.lt_mono h ((k e he).2 x hx)⟩

theorem memSP_agree {n : Nat} {β β' : Nat → Nat} (h : agree n β β') {mem : Mem} (k : ltM n mem) : memSP β' mem = memSP β mem := by
  unfold memSP
  refine List.map_congr_left fun e he => ?_
  rw [h _ (k e he).1]
  unfold cellsOf
  rw [dens_agree h (k e he).2]
theorem grSP_agree {n : Nat} {β β' : Nat → Nat} (h : agree n β β') {e : Nat × Nat × Nat × Nat × List Ce} (k : e.1 + 1 < n ∧ ∀ x ∈ e.2.2.2.2, x.lt n) : grSP β' e = grSP β e := by
  unfold grSP
  rw [h _ (by omega), h _ k.1, dens_agree h k.2]
theorem gmSP_agree {n : Nat} {β β' : Nat → Nat} (h : agree n β β') {gm : GMem} (k : ltG n gm) : gmSP β' gm = gmSP β gm :=
  List.map_congr_left fun e he => grSP_agree h (k e he)
theorem gmRes_agree {n : Nat} {β β' : Nat → Nat} (h : agree n β β') {gm : GMem} (k : ltG n gm) : gmRes β' gm = gmRes β gm := by
  unfold gmRes
  exact List.map_congr_left fun e he => by rw [grSP_agree h (k e he)]

theorem lookM_mem : ∀ {mem : Mem} {l : Nat} {x : Nat × List Ce}, lookM mem l = some x → (l, x) ∈ mem
  | [], _, _, h => by cases h
  | (s, y) :: r, l, x, h => by
    rw [lookM_cons] at h
    split at h
    · rename_i e; subst e; cases h; simp
    · exact List.mem_cons_of_mem _ (lookM_mem h)
theorem lookG_cons (s k : Nat) (x : Nat × Nat × Nat × List Ce) (r : GMem) : lookG ((s, x) :: r) k = if s = k then some x else lookG r k := by
  simp only [lookG]
  by_cases e : s = k
  · subst e; simp
  · have : Nat.beq s k = false := by rw [← Bool.not_eq_true, Nat.beq_eq]; exact e
    simp [this, e]
theorem lookG_mem : ∀ {gm : GMem} {l : Nat} {x : Nat × Nat × Nat × List Ce}, lookG gm l = some x → (l, x) ∈ gm
  | [], _, _, h => by cases h
  | (s, y) :: r, l, x, h => by
    rw [lookG_cons] at h
    split at h
    · rename_i e; subst e; cases h; simp
    · exact List.mem_cons_of_mem _ (lookG_mem h)

theorem ltE_fresh {n l : Nat} (h : n ≤ l) : ∀ {env : Env}, (∀ e ∈ env, e.2.lt n) → freshE l env = true
  | [], _ => rfl
  | (s, x) :: r, k => by
    unfold freshE
    rw [SV.lt_no h (k (s, x) (by simp))]
    exact ltE_fresh h fun e he => k e (by simp [he])
theorem ltM_fresh {n l : Nat} (h : n ≤ l) : ∀ {mem : Mem}, ltM n mem → freshM l mem = true
  | [], _ => rfl
  | (s, t, cs) :: r, k => by
    have k1 := k (s, t, cs) (by simp)
    unfold freshM
    have : Nat.beq s l = false := by rw [← Bool.not_eq_true, Nat.beq_eq]; have := k1.1; simp at this; omega
    rw [this, lts_no h k1.2]
    exact ltM_fresh h fun e he => k e (by simp [he])

/-- Only what is looked at counts. -/
theorem Rel.envs {g : Cx} {β : Nat → Nat} {env env' : Env} {mem : Mem} {bnd : Bnd} {L : Res} {a : Act} {w : World} (h : Rel g β env mem bnd L a w) (k : ∀ s x, look env' s = some x → look env s = some x) : Rel g β env' mem bnd L a w :=
  ⟨h.defers, h.size, fun s x hx => h.env s x (k s x hx), h.bnd, h.os, h.tape, h.output, h.sat⟩

/-- A slot gets another value: the row of slots is made anew. -/
def putR : Env → Nat → SV → Option Env
  | [], d, x => some [(d, x)]
  | (s, y) :: r, d, x => match Nat.beq s d with
    | true => some ((d, x) :: r)
    | false => match putR r d x with
      | some r' => some ((s, y) :: r')
      | none => none
theorem putR_look : ∀ {env env' : Env} {d : Nat} {x : SV}, putR env d x = some env' → ∀ s, look env' s = if d = s then some x else look env s
  | [], env', d, x, h, s => by
    simp only [putR, Option.some.injEq] at h
    subst h
    rw [look_cons]
  | (k, y) :: r, env', d, x, h, s => by
    simp only [putR] at h
    split at h
    · rename_i hb
      obtain rfl : k = d := Nat.eq_of_beq_eq_true hb
      cases h
      rw [look_cons, look_cons]
      by_cases e : k = s <;> simp [e]
    · rename_i hb
      have hne : k ≠ d := by intro e; subst e; simp at hb
      split at h
      · rename_i r' hr
        cases h
        rw [look_cons, look_cons, putR_look hr]
        by_cases e : k = s
        · subst e; simp [Ne.symm hne]
        · simp [e]
      · cases h
def putO (d : Option Nat) (x : SV) (env : Env) : Option Env :=
  match d with
  | some d => putR env d x
  | none => some env
theorem putO_look {d : Option Nat} {x : SV} {env env' : Env} (h : putO d x env = some env') (s : Nat) : look env' s = look (putE d x env) s := by
  cases d with
  | none => cases h; rfl
  | some d => rw [putR_look h]; simp [putE, look_cons]
theorem Rel.putO {g : Cx} {β : Nat → Nat} {env env' : Env} {mem : Mem} {bnd : Bnd} {L : Res} {a : Act} {w : World} (h : Rel g β env mem bnd L a w) {d : Option Tmp} {x : SV} (hd : dstOk g.n d = true) (hp : YtccmdlmlbkpjjaaGreatDoor.putO d x env = some env') : Rel g β env' mem bnd L (a.put d (x.den β)) w :=
  (h.put d x hd).envs fun s y hy => by rw [putO_look hp] at hy; exact hy
theorem ltE.putO {n : Nat} {env env' : Env} {d : Option Nat} {x : SV} (h : ltE n env) (hx : x.lt n) (hp : YtccmdlmlbkpjjaaGreatDoor.putO d x env = some env') : ltE n env' := by
  intro t y hy
  rw [putO_look hp] at hy
  cases d with
  | none => exact h t y hy
  | some d =>
    simp only [putE, look_cons] at hy
    split at hy
    · cases hy; exact hx
    · exact h t y hy

/-- Memories that have all that a former one had, and new blocks. -/
def Keeps (b : Nat) (s s' : GS) : Prop := ∀ (m0 : Mem) (g0 : GMem), (∃ n1, s.mem = n1 ++ m0 ∧ ∀ e ∈ n1, b ≤ e.1) → (∃ n2, s.gm = n2 ++ g0 ∧ ∀ e ∈ n2, b ≤ e.1) → (∀ e ∈ m0, e.1 < b) → (∀ e ∈ g0, e.1 < b) →
  (∃ n1, s'.mem = n1 ++ m0 ∧ ∀ e ∈ n1, b ≤ e.1) ∧ (∃ n2, s'.gm = n2 ++ g0 ∧ ∀ e ∈ n2, b ≤ e.1)
theorem Keeps.refl (b : Nat) (s : GS) : Keeps b s s := fun _ _ h1 h2 _ _ => ⟨h1, h2⟩
theorem Keeps.trans {b : Nat} {s s' s'' : GS} (h : Keeps b s s') (k : Keeps b s' s'') : Keeps b s s'' := fun m0 g0 h1 h2 h3 h4 => (let ⟨a, c⟩ := h m0 g0 h1 h2 h3 h4; k m0 g0 a c h3 h4)
theorem Keeps.of_eq {b : Nat} {s s' : GS} (h : s'.mem = s.mem) (k : s'.gm = s.gm) : Keeps b s s' := fun _ _ h1 h2 _ _ => ⟨by rw [h]; exact h1, by rw [k]; exact h2⟩
end Go.Proofs.YtccmdlmlbkpjjaaGreatDoor

/- The evaluator: more operations that leave memory as it is. -/
namespace Go.Proofs.YtccmdlmlbkpjjaaGreatDoor
open Go.RowKit

/-- What an interface value holds. -/
def ifaceOf : SV → Option (TypeId × Ce)
  | .c (.ifl t l o) => some (t, .loc l o)
  | .c (.v (.iface t v)) => match plain v with
    | true => some (t, .v v)
    | false => none
  | _ => none
theorem ifaceOf_den {x : SV} {t : TypeId} {c : Ce} (h : ifaceOf x = some (t, c)) (β : Nat → Nat) : x.den β = .iface t (c.den β) := by
  unfold ifaceOf at h
  split at h
  · cases h; rfl
  · split at h <;> cases h
    rfl
  · cases h
def isNilI : SV → Bool
  | .c (.v .nilIface) => true
  | _ => false
theorem isNilI_den {x : SV} (h : isNilI x = true) (β : Nat → Nat) : x.den β = .nilIface := by
  unfold isNilI at h
  split at h
  · rfl
  · cases h
def isNilS : SV → Bool
  | .c (.v (.slice none _ _)) => true
  | _ => false
theorem isNilS_den {x : SV} (h : isNilS x = true) (β : Nat → Nat) : ∃ n c, x.den β = .slice none n c := by
  unfold isNilS at h
  split at h
  · exact ⟨_, _, rfl⟩
  · cases h
/-- A slice of a block with a label: the label, the place of its first cell, its length. -/
def rowOf : SV → Option (Nat × Nat × Nat)
  | .c (.locs l o n _) => some (l, o, n)
  | .c (.gro l o n _) => some (l, o, n)
  | _ => none
theorem rowOf_den {x : SV} {l o n : Nat} (h : rowOf x = some (l, o, n)) (β : Nat → Nat) : ∃ c, x.den β = .slice (some ⟨β l, o, none⟩) n c := by
  unfold rowOf at h
  split at h
  · cases h; exact ⟨_, rfl⟩
  · cases h; exact ⟨_, rfl⟩
  · cases h
/-- Of two that are held against each other: the answer, as the operation says it. -/
def eqOut (op : BinOp) (b : Bool) : Out :=
  match op with
  | .eql => .val (.c (.v (.bool b)))
  | .neq => .val (.c (.v (.bool (!b))))
  | _ => .no
def intB (op : BinOp) (k : IntKind) (a b : Int) : Out :=
  match op with
  | .quo => match b with
    | .ofNat 0 => .no
    | _ => .ar k (a.tdiv b)
  | .rem => match b with
    | .ofNat 0 => .no
    | _ => .val (.c (.v (.int k (a.tmod b))))
  | .and => .ar k (BitVec.ofInt k.bits a &&& BitVec.ofInt k.bits b).toNat
  | .or => .ar k (BitVec.ofInt k.bits a ||| BitVec.ofInt k.bits b).toNat
  | .xor => .ar k (BitVec.ofInt k.bits a ^^^ BitVec.ofInt k.bits b).toNat
  | .andNot => .ar k (BitVec.ofInt k.bits a &&& ~~~ BitVec.ofInt k.bits b).toNat
  | _ => .no
def shiftB (op : BinOp) (k : IntKind) (a : Int) (b : Int) : Out :=
  match b with
  | .negSucc _ => .no
  | .ofNat n => match op with
    | .shl => .ar k (a * 2 ^ (min n k.bits))
    | .shr => .val (.c (.v (.int k (a.fdiv (2 ^ (min n k.bits))))))
    | _ => .no
def strB (op : BinOp) (a b : ByteArray) : Out :=
  match op with
  | .add => match Nat.ble (a.size + b.size) 9223372036854775807 with
    | true => .val (.c (.v (.string (a ++ b))))
    | false => .no
  | .lss => .val (.c (.v (.bool (Op.bytesLess a.toList b.toList))))
  | .leq => .val (.c (.v (.bool (Op.bytesLess a.toList b.toList || (a.toList == b.toList)))))
  | .gtr => .val (.c (.v (.bool (!(Op.bytesLess a.toList b.toList || (a.toList == b.toList))))))
  | .geq => .val (.c (.v (.bool (!Op.bytesLess a.toList b.toList))))
  | _ => .no
/-- Two interface values that hold something. -/
def eqI (P : Program) (op : BinOp) (tx ty : TypeId) (cx cy : Ce) : Out :=
  match Nat.beq tx ty with
  | false => eqOut op false
  | true => match P.underlying tx with
    | some (.int _) => match P.info? tx with
      | some i => match i.comparable with
        | true => match cx, cy with
          | .v (.int k a), .v (.int k' b) => match kEq k k' with
            | true => eqOut op (a == b)
            | false => .no
          | _, _ => .no
        | false => .no
      | none => .no
    | _ => .no
def binY (P : Program) (op : BinOp) (t : TypeId) (x y : SV) : Out :=
  match x, y with
  | .c (.v (.int k a)), .c (.v (.int k' b)) => match op with
    | .shl => shiftB .shl k a b
    | .shr => shiftB .shr k a b
    | op => match kEq k k' with
      | true => intB op k a b
      | false => .no
  | .c (.v (.string a)), .c (.v (.string b)) => strB op a b
  | x, y => match P.underlying t with
    | some (.interface _) => match ifaceOf x with
      | some (tx, cx) => match isNilI y with
        | true => eqOut op false
        | false => match ifaceOf y with
          | some (ty, cy) => eqI P op tx ty cx cy
          | none => .no
      | none => match isNilI x with
        | true => match ifaceOf y with
          | some _ => eqOut op false
          | none => .no
        | false => .no
    | some (.slice _) => match rowOf x with
      | some _ => match isNilS y with
        | true => eqOut op false
        | false => .no
      | none => .no
    | _ => .no

section
variable {P : Program} {op : BinOp} {t : TypeId} {xo yo : Operand} {β : Nat → Nat} {w : World}

abbrev BinRun (P : Program) (op : BinOp) (t : TypeId) (xo yo : Operand) (x y : Value) : Sem Next := do pure (.value (← (do eqGuard op t xo yo x y; binOp op t x y)))

theorem eqOut_ok {x y : Value} {b : Bool} (hg : eqGuard op t xo yo x y = pure ()) (he : (Op.equal t x y).run P w = .ok b w)
    (h1 : ∀ op', op' = .eql ∨ op' = .neq → binOp op' t x y = (match op' with | .eql => (do pure (.bool (← Op.equal t x y))) | _ => (do pure (.bool (!(← Op.equal t x y)))))) : OutOk P β (BinRun P op t xo yo x y) w (eqOut op b) := by
  cases op <;> try exact trivial
  · have := h1 .eql (.inl rfl)
    exact bin_run hg (by rw [this]; simp [he]; rfl)
  · have := h1 .neq (.inr rfl)
    exact bin_run hg (by rw [this]; simp [he]; rfl)

theorem intB_ok {k : IntKind} {a b : Int} : OutOk P β (BinRun P op t xo yo (.int k a) (.int k b)) w (intB op k a b) := by
  have hg : eqGuard op t xo yo (.int k a) (.int k b) = pure () := eqGuard_other _ _ _ _ _ _ rfl
  cases op <;> try exact trivial
  case quo =>
    simp only [intB]
    split
    · exact trivial
    · rename_i hb
      have h0 : ¬ b = 0 := fun e => hb (by rw [e]; rfl)
      exact bin_run hg (by simp [binOp, Op.intDiv, h0])
  case rem =>
    simp only [intB]
    split
    · exact trivial
    · rename_i hb
      have h0 : ¬ b = 0 := fun e => hb (by rw [e]; rfl)
      exact bin_run hg (by simp [binOp, Op.intDiv, h0]; rfl)
  all_goals exact bin_run hg (by simp [binOp, Op.intBits])

theorem shiftB_ok {k yk : IntKind} {a b : Int} (hop : op = .shl ∨ op = .shr) : OutOk P β (BinRun P op t xo yo (.int k a) (.int yk b)) w (shiftB op k a b) := by
  have hg : eqGuard op t xo yo (.int k a) (.int yk b) = pure () := eqGuard_other _ _ _ _ _ _ rfl
  unfold shiftB
  split
  · exact trivial
  · rename_i n
    rcases hop with rfl | rfl
    · exact bin_run hg (by simp [binOp, Op.shift]; intro hbad; omega)
    · exact bin_run hg (by simp [binOp, Op.shift, SV.den, Ce.den]; intro hbad; omega)

theorem strB_ok {a b : ByteArray} : OutOk P β (BinRun P op t xo yo (.string a) (.string b)) w (strB op a b) := by
  have hg : eqGuard op t xo yo (.string a) (.string b) = pure () := eqGuard_other _ _ _ _ _ _ rfl
  cases op <;> try exact trivial
  case add =>
    simp only [strB]
    split
    · rename_i hb
      have hle : a.size + b.size ≤ 9223372036854775807 := by simpa using hb
      refine bin_run hg ?_
      have : ¬ ((a.size + b.size : Nat) : Int) > IntKind.i64.max := by
        have : IntKind.i64.max = 9223372036854775807 := by decide
        omega
      simp only [binOp, Op.stringOp]
      rw [if_neg this]
      rfl
    · exact trivial
  all_goals exact bin_run hg (by simp [binOp, Op.stringOp, SV.den, Ce.den])

theorem iface_guard {tx : TypeId} {vx v : Value} : eqGuard op t xo yo (.iface tx vx) v = pure () := by
  cases v <;> exact eqGuard_other _ _ _ _ _ _ rfl
theorem iface_guard' {tx : TypeId} {vx : Value} : eqGuard op t xo yo .nilIface (.iface tx vx) = pure () := eqGuard_other _ _ _ _ _ _ rfl
theorem iface_op {tx : TypeId} {vx v : Value} (hv : v = .nilIface ∨ ∃ ty vy, v = .iface ty vy) : ∀ op', op' = .eql ∨ op' = .neq → binOp op' t (.iface tx vx) v = (match op' with | .eql => (do pure (.bool (← Op.equal t (.iface tx vx) v))) | _ => (do pure (.bool (!(← Op.equal t (.iface tx vx) v))))) := by
  rintro op' (rfl | rfl) <;> rcases hv with rfl | ⟨ty, vy, rfl⟩ <;> rfl

theorem eqI_ok {ms : Array (String × TypeId)} (hu : P.underlying t = some (.interface ms)) {tx ty : TypeId} {cx cy : Ce} : OutOk P β (BinRun P op t xo yo (.iface tx (cx.den β)) (.iface ty (cy.den β))) w (eqI P op tx ty cx cy) := by
  unfold eqI
  split
  · rename_i hb
    have hne : tx ≠ ty := by intro e; subst e; simp at hb
    refine eqOut_ok iface_guard ?_ (iface_op (.inr ⟨_, _, rfl⟩))
    have h : ∀ d, (Op.equalIn (d + 1) t (.iface tx (cx.den β)) (.iface ty (cy.den β))).run P w = .ok false w := fun d => by simp [Op.equalIn, run_underlying hu, hne]
    exact h 9999
  · rename_i hb
    obtain rfl : tx = ty := Nat.eq_of_beq_eq_true hb
    split <;> try exact trivial
    rename_i ki hk
    split <;> try exact trivial
    rename_i i hi
    split <;> try exact trivial
    rename_i hc
    split <;> try exact trivial
    rename_i k a k' b
    split <;> try exact trivial
    rename_i hkk
    obtain rfl := kEq_eq hkk
    refine eqOut_ok iface_guard ?_ (iface_op (.inr ⟨_, _, rfl⟩))
    have h : ∀ d, (Op.equalIn (d + 1 + 1) t (.iface tx (.int k a)) (.iface tx (.int k b))).run P w = .ok (a == b) w := fun d => by simp [Op.equalIn, run_underlying hu, run_underlying hk, typeInfo, hi, hc]
    exact h 9998

theorem binY_ok {x y : SV} : OutOk P β (BinRun P op t xo yo (x.den β) (y.den β)) w (binY P op t x y) := by
  unfold binY
  split
  · split
    · exact shiftB_ok (.inl rfl)
    · exact shiftB_ok (.inr rfl)
    · split
      · rename_i hk
        obtain rfl := kEq_eq hk
        exact intB_ok
      · exact trivial
  · exact strB_ok
  · split <;> try exact trivial
    · rename_i ms hu
      split
      · rename_i tx cx hx
        rw [ifaceOf_den hx]
        split
        · rename_i hy
          rw [isNilI_den hy]
          exact eqOut_ok iface_guard (equal_iface hu _ _ _) (iface_op (.inl rfl))
        · split <;> try exact trivial
          rename_i ty cy hy
          rw [ifaceOf_den hy]
          exact eqI_ok hu
      · split <;> try exact trivial
        rename_i hx
        split <;> try exact trivial
        rename_i q hy
        obtain ⟨ty, cy⟩ := q
        rw [isNilI_den hx, ifaceOf_den hy]
        refine eqOut_ok iface_guard' ?_ ?_
        · have h : ∀ d, (Op.equalIn (d + 1) t .nilIface (.iface ty (cy.den β))).run P w = .ok false w := fun d => by simp [Op.equalIn, run_underlying hu]
          exact h 9999
        · rintro op' (rfl | rfl) <;> rfl
    · rename_i e hu
      split <;> try exact trivial
      rename_i q hx
      split <;> try exact trivial
      rename_i hy
      obtain ⟨l, o, n⟩ := q
      obtain ⟨c, hx⟩ := rowOf_den hx β
      obtain ⟨n', c', hy⟩ := isNilS_den hy β
      rw [hx, hy]
      refine eqOut_ok (eqGuard_other _ _ _ _ _ _ rfl) (equal_slice hu _ _ _ _ _ _) ?_
      rintro op' (rfl | rfl) <;> rfl
end

/-! ### Structs held against each other -/
def partV (P : Program) (t : TypeId) (cs : Array Value) (o : Nat) : Option Value :=
  match aggOf P t with
  | .one => getL cs.toList o
  | .many n => some (.agg (cs.extract o (o + n)))
  | .no => none
theorem partV_ok {P : Program} {t : TypeId} {cs : Array Value} {o : Nat} {v : Value} (h : partV P t cs o = some v) (w : World) : (part t cs o).run P w = .ok v w := by
  unfold partV at h
  split at h
  · rename_i ha
    rw [getL_eq, Array.getElem?_toList] at h
    simp [part, aggOf_one ha, h]
  · rename_i n ha
    cases h
    obtain ⟨h1, h2⟩ := aggOf_many ha w
    simp [part, h1, h2]
  · cases h
def eqF (P : Program) (E : TypeId → Value → Value → Option Bool) (xs ys : Array Value) : List Field → Option Bool
  | [] => some true
  | f :: r => match f.name == "_" with
    | true => eqF P E xs ys r
    | false => match partV P f.type xs f.offset with
      | some a => match partV P f.type ys f.offset with
        | some b => match E f.type a b with
          | some true => eqF P E xs ys r
          | some false => some false
          | none => none
        | none => none
      | none => none
def eqV (P : Program) : Nat → TypeId → Value → Value → Option Bool
  | 0, _, _, _ => none
  | d + 1, t, x, y => match P.underlying t with
    | some .bool => match x, y with
      | .bool a, .bool b => some (a == b)
      | _, _ => none
    | some (.int _) => match x, y with
      | .int k a, .int k' b => match kEq k k' with
        | true => some (a == b)
        | false => none
      | _, _ => none
    | some .string => match x, y with
      | .string a, .string b => some (a.toList == b.toList)
      | _, _ => none
    | some (.struct _) => match x, y with
      | .agg xs, .agg ys => match P.stoodInHeld t with
        | false => eqF P (fun t a b => eqV P d t a b) xs ys (P.fieldsOf t).toList
        | true => none
      | _, _ => none
    | _ => none
theorem eqF_ok {P : Program} {E : TypeId → Value → Value → Option Bool} {d : Nat} {w : World} (hE : ∀ t a b r, E t a b = some r → (Op.equalIn d t a b).run P w = .ok r w) (xs ys : Array Value) :
    ∀ (fs : List Field) (r : Bool), eqF P E xs ys fs = some r → (Op.eqFields d xs ys fs).run P w = .ok r w
  | [], r, h => by cases h; simp [Op.eqFields]
  | f :: fs, r, h => by
    simp only [eqF] at h
    simp only [Op.eqFields]
    split at h
    · rename_i hn
      have hn' : f.name = "_" := by simpa using hn
      rw [if_neg (by simp [hn'])]
      exact eqF_ok hE xs ys fs r h
    · rename_i hn
      have hn' : f.name ≠ "_" := by simpa using hn
      rw [if_pos hn']
      split at h <;> try (cases h; done)
      rename_i a ha
      split at h <;> try (cases h; done)
      rename_i b hb
      split at h <;> try (cases h; done)
      · rename_i he
        simp only [Sem.run_bind, partV_ok ha, partV_ok hb, hE _ _ _ _ he, Result.andThen_ok]
        exact eqF_ok hE xs ys fs r h
      · rename_i he
        cases h
        simp [Sem.run_bind, partV_ok ha, partV_ok hb, hE _ _ _ _ he, Result.andThen_ok]
theorem eqV_ok {P : Program} {w : World} : ∀ (d : Nat) (t : TypeId) (x y : Value) (r : Bool), eqV P d t x y = some r → (Op.equalIn d t x y).run P w = .ok r w
  | 0, _, _, _, _, h => by cases h
  | d + 1, t, x, y, r, h => by
    unfold eqV at h
    split at h <;> try (cases h; done)
    · rename_i hu
      split at h <;> try (cases h; done)
      cases h
      exact run_equalIn_bool' w d t _ _ hu
    · rename_i hu
      split at h <;> try (cases h; done)
      split at h <;> try (cases h; done)
      rename_i hk
      obtain rfl := kEq_eq hk
      cases h
      exact run_equalIn_int w d t _ _ _ _ hu
    · rename_i hu
      split at h <;> try (cases h; done)
      cases h
      exact run_equalIn_string w d t _ _ hu
    · rename_i fs hu
      split at h <;> try (cases h; done)
      split at h <;> try (cases h; done)
      rename_i hs
      have hf : P.fieldsOf t = fs := by simp [Program.fieldsOf, hu]
      rw [run_equalIn_agg w d t _ _ (by rw [hf]; exact hu) hs]
      exact eqF_ok (fun t a b r hr => eqV_ok d t a b r hr) _ _ _ _ h
/-- Cells that are plain values. -/
def valsC : List Ce → Option (List Value)
  | [] => some []
  | .v x :: r => match valsC r with
    | some ys => some (x :: ys)
    | none => none
  | _ :: _ => none
theorem valsC_den {β : Nat → Nat} : ∀ {cs : List Ce} {vs : List Value}, valsC cs = some vs → cs.map (Ce.den β) = vs
  | [], vs, h => by cases h; rfl
  | x :: r, vs, h => by
    cases x <;> simp only [valsC] at h <;> try (cases h; done)
    split at h <;> cases h
    rename_i ys hr
    rw [List.map_cons, valsC_den hr]
    rfl
def binA (P : Program) (op : BinOp) (t : TypeId) (xs ys : List Ce) : Out :=
  match valsC xs with
  | some vx => match valsC ys with
    | some vy => match P.eqGuardType P.depth t with
      | false => match eqV P 10000 t (.agg vx.toArray) (.agg vy.toArray) with
        | some b => eqOut op b
        | none => .no
      | true => .no
    | none => .no
  | none => .no
theorem binA_ok {P : Program} {op : BinOp} {t : TypeId} {xo yo : Operand} {β : Nat → Nat} {w : World} {xs ys : List Ce} : OutOk P β (BinRun P op t xo yo ((SV.agg xs).den β) ((SV.agg ys).den β)) w (binA P op t xs ys) := by
  unfold binA
  split <;> try exact trivial
  rename_i vx hx
  split <;> try exact trivial
  rename_i vy hy
  split <;> try exact trivial
  rename_i hg
  split <;> try exact trivial
  rename_i b hb
  simp only [SV.den, valsC_den hx, valsC_den hy]
  have he : ∀ w, (Op.equalIn 10000 t (.agg vx.toArray) (.agg vy.toArray)).run P w = .ok b w := fun w => eqV_ok _ _ _ _ _ hb
  cases op <;> try exact trivial
  · have := run_eqS (xo := xo) (yo := yo) (op := .eql) hg he (.inl rfl) w
    exact this
  · have := run_eqS (xo := xo) (yo := yo) (op := .neq) hg he (.inr rfl) w
    exact this

/-! ### Type assertions -/
def tOf : SV → Option (Bool × List Ce)
  | .c x => some (false, [x])
  | .agg cs => some (true, cs)
  | .kb b => some (false, [.v (.bool b)])
  | _ => none
theorem tOf_den {s : SV} {p : Bool × List Ce} (h : tOf s = some p) (β : Nat → Nat) : tpDen β p = s.den β := by
  cases s <;> simp only [tOf, Option.some.injEq] at h <;> first | (subst h; rfl) | cases h
def zeroC (P : Program) (t : TypeId) : Option (Bool × List Ce) :=
  match P.info? t with
  | some i => match i.zero with
    | some z => match z with
      | .agg a => match valsO a.toList with
        | some cs => some (true, cs)
        | none => none
      | .tuple _ => none
      | x => some (false, [.v x])
    | none => none
  | none => none
theorem zeroC_run {P : Program} {t : TypeId} {p : Bool × List Ce} (h : zeroC P t = some p) (w : World) (β : Nat → Nat) : (zeroValue t).run P w = .ok (tpDen β p) w := by
  unfold zeroC at h
  cases hi : P.info? t with
  | none => rw [hi] at h; cases h
  | some i =>
    simp only [hi] at h
    cases hz : i.zero with
    | none => simp only [hz] at h; cases h
    | some z =>
      simp only [hz] at h
      have e : (Ce.den β ∘ Ce.v) = id := rfl
      have hr : (zeroValue t).run P w = .ok z w := by simp [zeroValue, typeInfo, hi, hz]
      rw [hr]
      cases z <;> simp [valsO_eq] at h <;> subst h <;> simp [tpDen, Ce.den, e]
def holdsT (ok : Bool) (s : SV) : Out :=
  match ok with
  | false => .val s
  | true => match tOf s with
    | some p => .val (.tps [p, (false, [.v (.bool true)])])
    | none => .no
def failsT (P : Program) (t : TypeId) (ok : Bool) : Out :=
  match ok with
  | false => .no
  | true => match zeroC P t with
    | some p => .val (.tps [p, (false, [.v (.bool false)])])
    | none => .no
def assertY (P : Program) (x : SV) (t : TypeId) (ok : Bool) : Out :=
  match P.underlying t with
  | some (.interface want) => match isNilI x with
    | true => failsT P t ok
    | false => match ifaceOf x with
      | some (tx, _) => match P.info? tx with
        | some i => match lacking want i.methods with
          | [] => holdsT ok x
          | _ :: _ => failsT P t ok
        | none => .no
      | none => .no
  | some _ => match isNilI x with
    | true => failsT P t ok
    | false => match ifaceOf x with
      | some (tx, c) => match Nat.beq tx t with
        | true => holdsT ok (.c c)
        | false => failsT P t ok
      | none => .no
  | none => .no
theorem vOut {P : Program} {β : Nat → Nat} {s : Sem Value} {w : World} {x : SV} (h : s.run P w = .ok (x.den β) w) : OutOk P β (do pure (.value (← s))) w (.val x) := by
  show (do pure (Next.value (← s)) : Sem Next).run P w = _
  simp [h]
theorem assertY_ok {P : Program} {β : Nat → Nat} {w : World} {x : SV} {xt t : TypeId} {ok : Bool} : OutOk P β (do pure (.value (← Instr.typeAssert (x.den β) xt t ok))) w (assertY P x t ok) := by
  have hold : ∀ (s : SV) (v : Value), s.den β = v → ∀ (A : Sem Value), A.run P w = .ok (if ok then .tuple #[v, .bool true] else v) w → OutOk P β (do pure (.value (← A))) w (holdsT ok s) := by
    intro s v hv A hA
    unfold holdsT
    split
    · exact vOut (by rw [hA, hv]; rfl)
    · split
      · rename_i p hp
        exact vOut (by
          rw [hA]
          have e : (SV.tps [p, (false, [.v (.bool true)])]).den β = .tuple #[tpDen β p, .bool true] := rfl
          rw [e, tOf_den hp, hv]
          rfl)
      · exact trivial
  have fail : ∀ (A : Sem Value), (ok = true → ∀ z, (zeroValue t).run P w = .ok z w → A.run P w = .ok (.tuple #[z, .bool false]) w) → OutOk P β (do pure (.value (← A))) w (failsT P t ok) := by
    intro A hA
    unfold failsT
    split
    · exact trivial
    · split
      · rename_i p hp
        exact vOut (by rw [hA rfl _ (zeroC_run hp w β)]; rfl)
      · exact trivial
  unfold assertY
  split
  · rename_i want hu
    split
    · rename_i hx
      rw [isNilI_den hx]
      exact fail _ fun hok z hz => by simp [Instr.typeAssert, run_underlying hu, hok, hz]
    · split <;> try exact trivial
      rename_i tx c hx
      rw [ifaceOf_den hx]
      split <;> try exact trivial
      rename_i i hi
      split
      · rename_i hm0
        have hm := missingMethod_none hm0
        exact hold x _ (ifaceOf_den hx β) _ (by simp [Instr.typeAssert, run_underlying hu, typeInfo, hi, hm])
      · rename_i m ms hm0
        obtain ⟨m', hm⟩ := missingMethod_some (want := want) (got := i.methods) (by rw [hm0]; simp)
        exact fail _ fun hok z hz => by simp [Instr.typeAssert, run_underlying hu, typeInfo, hi, hm, hok, hz]
  · rename_i d hd hu
    split
    · rename_i hx
      rw [isNilI_den hx]
      refine fail _ fun hok z hz => ?_
      cases d <;> first | (exact absurd rfl (hd _)) | (simp [Instr.typeAssert, run_underlying hu, hok, hz])
    · split <;> try exact trivial
      rename_i tx c hx
      rw [ifaceOf_den hx]
      split
      · rename_i hb
        obtain rfl : tx = t := Nat.eq_of_beq_eq_true hb
        refine hold (.c c) _ rfl _ ?_
        cases d <;> first | (exact absurd rfl (hd _)) | (simp [Instr.typeAssert, run_underlying hu, SV.den])
      · rename_i hb
        have hne : ¬ tx = t := by intro e; subst e; simp at hb
        refine fail _ fun hok z hz => ?_
        cases d <;> first | (exact absurd rfl (hd _)) | (simp [Instr.typeAssert, run_underlying hu, hne, hok, hz])
  · exact trivial

/-! ### Elements, parts of slices -/
def idxY (P : Program) (t : TypeId) (x : SV) (iv : Int) : Out :=
  match iv with
  | .negSucc _ => .no
  | .ofNat j => match P.underlying t with
    | some (.slice e) => match P.info? e with
      | some ei => match rowOf x with
        | some (l, o, n) => match Nat.blt j n with
          | true => .val (.c (.loc l (addN o (j * ei.size))))
          | false => .no
        | none => .no
      | none => .no
    | some (.array n e) => match P.info? e with
      | some ei => match x with
        | .c (.loc l o) => match Nat.blt j n with
          | true => .val (.c (.loc l (addN o (j * ei.size))))
          | false => .no
        | .c (.v (.pointer (some ⟨b, o, none⟩))) => match Nat.blt j n with
          | true => .val (.c (.v (.pointer (some ⟨b, addN o (j * ei.size), none⟩))))
          | false => .no
        | _ => .no
      | none => .no
    | _ => .no
theorem idxY_ok {P : Program} {β : Nat → Nat} {w : World} {x : SV} {t : TypeId} {k : IntKind} {iv : Int} : OutOk P β (do pure (.value (← Instr.indexAt t (x.den β) (.int k iv)))) w (idxY P t x iv) := by
  unfold idxY
  split
  · exact trivial
  · rename_i j
    split <;> try exact trivial
    · rename_i e hu
      split <;> try exact trivial
      rename_i ei hi
      split <;> try exact trivial
      rename_i l o n hx
      split <;> try exact trivial
      rename_i hb
      have hlt : j < n := by simpa [Nat.blt_eq] using hb
      obtain ⟨c, hx⟩ := rowOf_den hx β
      rw [hx]
      refine vOut ?_
      have h1 : (0 : Int) ≤ Int.ofNat j ∧ Int.ofNat j < n := ⟨Int.natCast_nonneg j, Int.ofNat_lt.2 hlt⟩
      simp only [Instr.indexAt, asIntOf, Sem.run_bind, Sem.run_pure, Result.andThen_ok, run_underlying hu]
      simp [h1, sizeOf, typeInfo, hi, add_plain', SV.den, Ce.den, addN_eq, hlt]
    · rename_i n e hu
      split <;> try exact trivial
      rename_i ei hi
      split <;> try exact trivial
      all_goals
        rename_i l o
        split <;> try exact trivial
        rename_i hb
        have hlt : j < n := by simpa [Nat.blt_eq] using hb
        refine vOut ?_
        have h1 : (0 : Int) ≤ Int.ofNat j ∧ Int.ofNat j < n := ⟨Int.natCast_nonneg j, Int.ofNat_lt.2 hlt⟩
        simp only [Instr.indexAt, asIntOf, Sem.run_bind, Sem.run_pure, Result.andThen_ok, run_underlying hu]
        simp [h1, sizeOf, typeInfo, hi, add_plain', SV.den, Ce.den, addN_eq, hlt, Instr.sureAddr]
def elmY (P : Program) (t : TypeId) (x : SV) (iv : Int) : Out :=
  match iv with
  | .negSucc _ => .no
  | .ofNat j => match P.underlying t with
    | some (.array n e) => match P.info? e with
      | some ei => match x with
        | .agg cs => match Nat.blt j n with
          | true => match aggOf P e with
            | .one => match getL cs (j * ei.size) with
              | some y => .val (.c y)
              | none => .no
            | .many m => match cutL cs (j * ei.size) m with
              | some ys => .cells ys
              | none => .no
            | .no => .no
          | false => .no
        | _ => .no
      | none => .no
    | some .string => match x with
      | .c (.v (.string s)) => match getL s.data.toList j with
        | some b => .val (.c (.v (.int .u8 b.toNat)))
        | none => .no
      | _ => .no
    | _ => .no
theorem elmY_ok {P : Program} {β : Nat → Nat} {w : World} {x : SV} {t : TypeId} {k : IntKind} {iv : Int} : OutOk P β (do pure (.value (← Instr.index t (x.den β) (.int k iv)))) w (elmY P t x iv) := by
  unfold elmY
  split
  · exact trivial
  · rename_i j
    split <;> try exact trivial
    · rename_i n e hu
      split <;> try exact trivial
      rename_i ei hi
      split <;> try exact trivial
      rename_i cs
      split <;> try exact trivial
      rename_i hb
      have hlt : j < n := by simpa [Nat.blt_eq] using hb
      have h1 : (0 : Int) ≤ Int.ofNat j ∧ Int.ofNat j < n := ⟨Int.natCast_nonneg j, Int.ofNat_lt.2 hlt⟩
      split <;> try exact trivial
      · rename_i ha
        split <;> try exact trivial
        rename_i y hy
        refine vOut ?_
        have hp := run_part_one (g := ⟨P, 0, default, 0, fun _ _ => True, [], default, fun _ _ => 0, #[]⟩) (β := β) (w := w) (cs := cs) (o := j * ei.size) (y := y) ha hy
        simp only [Instr.index, asIntOf, Sem.run_bind, Sem.run_pure, Result.andThen_ok, run_underlying hu, SV.den]
        simp only [if_pos h1, Sem.run_bind, sizeOf, typeInfo, run_program, hi, Sem.run_pure, Result.andThen_ok, Sem.run_ite]
        exact hp
      · rename_i m ha
        split <;> try exact trivial
        rename_i ys hy
        have hp := run_part_many (g := ⟨P, 0, default, 0, fun _ _ => True, [], default, fun _ _ => 0, #[]⟩) (β := β) (w := w) (cs := cs) (ys := ys) (o := j * ei.size) (n := m) ha hy
        show (do pure (Next.value (← Instr.index t ((SV.agg cs).den β) (.int k (Int.ofNat j)))) : Sem Next).run P w = _
        have hr : (Instr.index t ((SV.agg cs).den β) (.int k (Int.ofNat j))).run P w = .ok ((SV.agg ys).den β) w := by
          simp only [Instr.index, asIntOf, Sem.run_bind, Sem.run_pure, Result.andThen_ok, run_underlying hu, SV.den]
          simp only [if_pos h1, Sem.run_bind, sizeOf, typeInfo, run_program, hi, Sem.run_pure, Result.andThen_ok, Sem.run_ite]
          exact hp
        simp only [Sem.run_bind, hr, Result.andThen_ok, Sem.run_pure]
    · rename_i hu
      split <;> try exact trivial
      rename_i s
      split <;> try exact trivial
      rename_i b hb
      rw [getL_eq] at hb
      have hlt : j < s.data.toList.length := (List.getElem?_eq_some_iff.1 hb).1
      have hs : s[j]? = some b := by
        have h2 : j < s.size := by
          show j < s.data.size
          rw [← Array.length_toList]
          exact hlt
        rw [getElem?_pos s j h2]
        congr 1
        rw [ByteArray.getElem_eq_getElem_data]
        rw [List.getElem?_eq_getElem hlt] at hb
        simpa using hb
      refine vOut ?_
      simp only [Instr.index, asIntOf, Sem.run_bind, Sem.run_pure, Result.andThen_ok, run_underlying hu, SV.den, Ce.den]
      have h0 : (0 : Int) ≤ Int.ofNat j := Int.natCast_nonneg j
      rw [if_pos h0, show (Int.ofNat j).toNat = j from rfl, hs]
      rfl
end Go.Proofs.YtccmdlmlbkpjjaaGreatDoor

/- The evaluator: parts of slices and strings; all operations that leave memory as it is. -/
namespace Go.Proofs.YtccmdlmlbkpjjaaGreatDoor
open Go.RowKit

def BdV : Option Value → Option Nat → Prop
  | none, none => True
  | some (.int _ i), some n => i = (n : Int)
  | _, _ => False
theorem BdV.some {v : Value} {n : Nat} (h : BdV (some v) (some n)) : ∃ k, v = .int k n := by
  cases v <;> simp only [BdV] at h
  subst h
  exact ⟨_, rfl⟩
theorem bound_run {P : Program} {w : World} (k : IntKind) (i j : Nat) (code : BoundsCode) (h : i ≤ j) : (Instr.sliceBound (.int k i) j code).run P w = .ok i w := by
  have : (0 : Int) ≤ i ∧ (i : Int) ≤ j := ⟨by omega, by omega⟩
  simp [Instr.sliceBound, asIntOf, this]
theorem bounds_run {P : Program} {w : World} {isS : Bool} {n c l h m : Nat} {lo hi mx : Option Value} {ln hn mn : Option Nat} (h1 : BdV lo ln) (h2 : BdV hi hn) (h3 : BdV mx mn) (hx : mn.isSome = true → hn.isSome = true)
    (el : ln.getD 0 = l) (eh : hn.getD n = h) (em : mn.getD c = m) (a1 : l ≤ h) (a2 : h ≤ m) (a3 : m ≤ c) : (Instr.sliceBounds isS n c lo hi mx).run P w = .ok (l, h, m) w := by
  cases ln with
  | none =>
    cases lo with
    | some v => simp [BdV] at h1
    | none =>
      simp only [Option.getD_none] at el
      subst el
      cases mn with
      | none =>
        cases mx with
        | some v => simp [BdV] at h3
        | none =>
          simp only [Option.getD_none] at em
          subst em
          cases hn with
          | none =>
            cases hi with
            | some v => simp [BdV] at h2
            | none => simp only [Option.getD_none] at eh; subst eh; simp [Instr.sliceBounds]
          | some q =>
            cases hi with
            | none => simp [BdV] at h2
            | some v =>
              obtain ⟨k, rfl⟩ := h2.some
              simp only [Option.getD_some] at eh
              subst eh
              simp [Instr.sliceBounds, bound_run _ _ _ _ a2]
      | some p =>
        cases mx with
        | none => simp [BdV] at h3
        | some v3 =>
          obtain ⟨k3, rfl⟩ := h3.some
          simp only [Option.getD_some] at em
          subst em
          cases hn with
          | none => simp at hx
          | some q =>
            cases hi with
            | none => simp [BdV] at h2
            | some v =>
              obtain ⟨k, rfl⟩ := h2.some
              simp only [Option.getD_some] at eh
              subst eh
              simp [Instr.sliceBounds, bound_run _ _ _ _ a2, bound_run _ _ _ _ a3]
  | some r =>
    cases lo with
    | none => simp [BdV] at h1
    | some v1 =>
      obtain ⟨k1, rfl⟩ := h1.some
      simp only [Option.getD_some] at el
      subst el
      cases mn with
      | none =>
        cases mx with
        | some v => simp [BdV] at h3
        | none =>
          simp only [Option.getD_none] at em
          subst em
          cases hn with
          | none =>
            cases hi with
            | some v => simp [BdV] at h2
            | none => simp only [Option.getD_none] at eh; subst eh; simp [Instr.sliceBounds, bound_run _ _ _ _ a1]
          | some q =>
            cases hi with
            | none => simp [BdV] at h2
            | some v =>
              obtain ⟨k, rfl⟩ := h2.some
              simp only [Option.getD_some] at eh
              subst eh
              simp [Instr.sliceBounds, bound_run _ _ _ _ a2, bound_run _ _ _ _ a1]
      | some p =>
        cases mx with
        | none => simp [BdV] at h3
        | some v3 =>
          obtain ⟨k3, rfl⟩ := h3.some
          simp only [Option.getD_some] at em
          subst em
          cases hn with
          | none => simp at hx
          | some q =>
            cases hi with
            | none => simp [BdV] at h2
            | some v =>
              obtain ⟨k, rfl⟩ := h2.some
              simp only [Option.getD_some] at eh
              subst eh
              simp [Instr.sliceBounds, bound_run _ _ _ _ a2, bound_run _ _ _ _ a3, bound_run _ _ _ _ a1]

def orN (x : Option Nat) (d : Nat) : Nat :=
  match x with
  | some k => k
  | none => d
theorem orN_eq (x : Option Nat) (d : Nat) : x.getD d = orN x d := by cases x <;> rfl
/-- Are bounds right? -/
def fits (l h m c : Nat) (mx hi : Option Nat) : Bool :=
  match mx, hi with
  | some _, none => false
  | _, _ => match Nat.ble l h with
    | true => match Nat.ble h m with
      | true => Nat.ble m c
      | false => false
    | false => false
theorem fits_ok {l h m c : Nat} {mx hi : Option Nat} (k : fits l h m c mx hi = true) : (mx.isSome = true → hi.isSome = true) ∧ l ≤ h ∧ h ≤ m ∧ m ≤ c := by
  unfold fits at k
  split at k
  · cases k
  · rename_i hne
    split at k <;> try (cases k; done)
    rename_i h1
    split at k <;> try (cases k; done)
    rename_i h2
    refine ⟨fun hs => ?_, by simpa using h1, by simpa using h2, by simpa using k⟩
    cases mx with
    | none => cases hs
    | some p =>
      cases hi with
      | none => exact (hne p rfl rfl).elim
      | some q => rfl

/-- gn: how many elements a block that may grow has, at least. -/
def slcY (P : Program) (t : TypeId) (x : SV) (lo hi mx : Option Nat) (gn : Nat → Option Nat) : Out :=
  match P.underlying t with
  | some .string => match x with
    | .c (.v (.string s)) => match mx with
      | some _ => .no
      | none => match fits (orN lo 0) (orN hi s.size) s.size s.size mx hi with
        | true => .val (.c (.v (.string (s.extract (orN lo 0) (orN hi s.size)))))
        | false => .no
    | _ => .no
  | some (.slice e) => match P.info? e with
    | some ei => match x with
      | .c (.v (.slice none 0 0)) => match fits (orN lo 0) (orN hi 0) (orN mx 0) 0 mx hi with
        | true => .val (.c (.v (.slice none 0 0)))
        | false => .no
      | .c (.locs l0 o n c) => match fits (orN lo 0) (orN hi n) (orN mx c) c mx hi with
        | true => match Nat.beq (orN mx c) (orN lo 0) with
          | true => .val (.c (.locs l0 o (orN hi n - orN lo 0) (orN mx c - orN lo 0)))
          | false => .val (.c (.locs l0 (addN o (orN lo 0 * ei.size)) (orN hi n - orN lo 0) (orN mx c - orN lo 0)))
        | false => .no
      | .c (.gro l0 o n e') => match gn l0 with
        | some N => match mx with
          | some m => match fits (orN lo 0) (orN hi n) m (N - e') mx hi with
            | true => match Nat.beq m (orN lo 0) with
              | true => .val (.c (.locs l0 o (orN hi n - orN lo 0) (m - orN lo 0)))
              | false => .val (.c (.locs l0 (addN o (orN lo 0 * ei.size)) (orN hi n - orN lo 0) (m - orN lo 0)))
            | false => .no
          | none => match fits (orN lo 0) (orN hi n) (N - e') (N - e') mx hi with
            | true => match orN lo 0 with
              | 0 => .val (.c (.gro l0 o (orN hi n) e'))
              | l + 1 => match Nat.blt (l + 1) (N - e') with
                | true => .val (.c (.gro l0 (addN o ((l + 1) * ei.size)) (orN hi n - (l + 1)) (e' + (l + 1))))
                | false => .val (.c (.tl l0 o (l + 1) ei.size e'))
            | false => .no
        | none => .no
      | _ => .no
    | none => .no
  | _ => .no

theorem slcY_ok {P : Program} {β : Nat → Nat} {w : World} {x : SV} {t : TypeId} {lo hi mx : Option Value} {ln hn mn : Option Nat} {gn : Nat → Option Nat} (h1 : BdV lo ln) (h2 : BdV hi hn) (h3 : BdV mx mn) (hg : ∀ l N, gn l = some N → N ≤ β (l + 1)) :
    OutOk P β (do pure (.value (← Instr.sliceAt t (x.den β) lo hi mx))) w (slcY P t x ln hn mn gn) := by
  unfold slcY
  split <;> try exact trivial
  · rename_i hu
    split <;> try exact trivial
    rename_i s
    split <;> try exact trivial
    split <;> try exact trivial
    rename_i hf
    obtain ⟨a0, a1, a2, a3⟩ := fits_ok hf
    cases mx with
    | some v => simp [BdV] at h3
    | none =>
      have hb := bounds_run (P := P) (w := w) (isS := false) (n := s.size) (c := s.size) h1 h2 (mx := none) (mn := none) trivial (by simp) (orN_eq _ _) (orN_eq _ _) rfl a1 a2 (Nat.le_refl _)
      exact vOut (by simp [Instr.sliceAt, Instr.slice, run_underlying hu, SV.den, Ce.den, hb])
  · rename_i e hu
    split <;> try exact trivial
    rename_i ei hi'
    split <;> try exact trivial
    · split <;> try exact trivial
      rename_i hf
      obtain ⟨a0, a1, a2, a3⟩ := fits_ok hf
      have hb := bounds_run (P := P) (w := w) (isS := true) (n := 0) (c := 0) h1 h2 h3 a0 (orN_eq _ _) (orN_eq _ _) (orN_eq _ _) a1 a2 a3
      have z1 : orN ln 0 = 0 := by omega
      have z2 : orN hn 0 = 0 := by omega
      have z3 : orN mn 0 = 0 := by omega
      rw [z1, z2, z3] at hb
      exact vOut (by simp [Instr.sliceAt, Instr.slice, run_underlying hu, SV.den, Ce.den, hb, sizeOf, typeInfo, hi'])
    · rename_i l0 o n c
      split <;> try exact trivial
      rename_i hf
      obtain ⟨a0, a1, a2, a3⟩ := fits_ok hf
      have hb := bounds_run (P := P) (w := w) (isS := true) (n := n) (c := c) h1 h2 h3 a0 (orN_eq _ _) (orN_eq _ _) (orN_eq _ _) a1 a2 a3
      split
      · rename_i hq
        have hq' : orN mn c = orN ln 0 := Nat.eq_of_beq_eq_true hq
        exact vOut (by simp [Instr.sliceAt, Instr.slice, run_underlying hu, SV.den, Ce.den, hb, sizeOf, typeInfo, hi', hq'])
      · rename_i hq
        have hq' : ¬ orN mn c = orN ln 0 := by intro e; rw [e] at hq; simp at hq
        exact vOut (by simp [Instr.sliceAt, Instr.slice, run_underlying hu, SV.den, Ce.den, hb, sizeOf, typeInfo, hi', hq', add_plain', addN_eq])
    · rename_i l0 o n e'
      split <;> try exact trivial
      rename_i N hN
      have hNb := hg l0 N hN
      split
      · rename_i m
        split <;> try exact trivial
        rename_i hf
        obtain ⟨a0, a1, a2, a3⟩ := fits_ok hf
        have hb := bounds_run (P := P) (w := w) (isS := true) (n := n) (c := β (l0 + 1) - e') (m := m) h1 h2 h3 a0 (orN_eq _ _) (orN_eq _ _) rfl a1 a2 (by omega)
        split
        · rename_i hq
          have hq' : m = orN ln 0 := Nat.eq_of_beq_eq_true hq
          exact vOut (by simp [Instr.sliceAt, Instr.slice, run_underlying hu, SV.den, Ce.den, hb, sizeOf, typeInfo, hi', hq'])
        · rename_i hq
          have hq' : ¬ m = orN ln 0 := by intro e; rw [e] at hq; simp at hq
          exact vOut (by simp [Instr.sliceAt, Instr.slice, run_underlying hu, SV.den, Ce.den, hb, sizeOf, typeInfo, hi', hq', add_plain', addN_eq])
      · split <;> try exact trivial
        rename_i hf
        obtain ⟨a0, a1, a2, a3⟩ := fits_ok hf
        have hb := bounds_run (P := P) (w := w) (isS := true) (n := n) (c := β (l0 + 1) - e') (m := β (l0 + 1) - e') h1 h2 h3 (by simp) (orN_eq _ _) (orN_eq _ _) rfl a1 (by omega) (Nat.le_refl _)
        split
        · rename_i hz
          rw [hz] at hb
          refine vOut ?_
          simp only [Instr.sliceAt, Instr.slice, run_underlying hu, SV.den, Ce.den, Sem.run_bind, Result.andThen_ok, hb, sizeOf, typeInfo, run_program, hi', Sem.run_pure]
          by_cases hc : β (l0 + 1) - e' = 0
          · simp [hc]
          · simp [hc, add_plain']
        · rename_i l hz
          rw [hz] at hb a1
          split
          · rename_i hlt
            have hlt' : l + 1 < N - e' := by simpa [Nat.blt_eq] using hlt
            have hc : ¬ β (l0 + 1) - e' = l + 1 := by omega
            refine vOut ?_
            simp only [Instr.sliceAt, Instr.slice, run_underlying hu, SV.den, Ce.den, Sem.run_bind, Result.andThen_ok, hb, sizeOf, typeInfo, run_program, hi', Sem.run_pure]
            simp [hc, add_plain', addN_eq, Nat.sub_sub]
          · rename_i hlt
            have hlt' : ¬ l + 1 < N - e' := by rw [← Bool.not_eq_true, Nat.blt_eq] at hlt; exact hlt
            have hh : orN hn n - (l + 1) = 0 := by omega
            refine vOut ?_
            simp only [Instr.sliceAt, Instr.slice, run_underlying hu, SV.den, Ce.den, Sem.run_bind, Result.andThen_ok, hb, sizeOf, typeInfo, run_program, hi', Sem.run_pure, hh]
            by_cases hc : β (l0 + 1) - e' = l + 1
            · simp [hc]
            · simp [hc, add_plain']

/-! ### All together -/
def bdO (env : Env) : Option Operand → Option (Option Nat)
  | none => some none
  | some x => match nrm (ev env x) with
    | some (.c (.v (.int _ (.ofNat k)))) => some (some k)
    | _ => none
def gmLen (gm : GMem) (l : Nat) : Option Nat :=
  match lookG gm l with
  | some (_, n, _, _) => some n
  | none => none
def pureY (P : Program) (env : Env) (gm : GMem) : Op → Out
  | .load t x => match ev env x with
    | some (.c (.loc l o)) => match lookG gm l with
      | some (_, _, _, cs) => match aggOf P t with
        | .one => match getL cs o with
          | some y => .val (.c y)
          | none => .no
        | .many n => match cutL cs o n with
          | some ys => .cells ys
          | none => .no
        | .no => .no
      | none => .no
    | _ => .no
  | .nilCheck x => match ev env x with
    | some (.c (.ifl t l o)) => .val (.c (.ifl t l o))
    | _ => .no
  | .binOp op t x y _ => match nrm (ev env x) with
    | some (.agg xs) => match nrm (ev env y) with
      | some (.agg ys) => binA P op t xs ys
      | _ => .no
    | some u => match nrm (ev env y) with
      | some v => binY P op t u v
      | none => .no
    | none => .no
  | .unOp .xor _ x => match nrm (ev env x) with
    | some (.c (.v (.int k n))) => intB .xor k (match k.signed with | true => -1 | false => k.max) n
    | _ => .no
  | .makeInterface t x => match P.concrete t with
    | true => match ev env x with
      | some (.c (.loc l o)) => .val (.c (.ifl t l o))
      | _ => .no
    | false => .no
  | .indexAddr t x i => match ev env x with
    | some s => match nrm (ev env i) with
      | some (.c (.v (.int _ iv))) => idxY P t s iv
      | _ => .no
    | none => .no
  | .index t x i => match ev env x with
    | some s => match nrm (ev env i) with
      | some (.c (.v (.int _ iv))) => elmY P t s iv
      | _ => .no
    | none => .no
  | .slice t x lo hi mx => match ev env x with
    | some s => match bdO env lo with
      | some l => match bdO env hi with
        | some h => match bdO env mx with
          | some m => slcY P t s l h m (gmLen gm)
          | none => .no
        | none => .no
      | none => .no
    | none => .no
  | .extract x i => match ev env x with
    | some (.tps vs) => match getL vs i with
      | some (false, [y]) => .val (.c y)
      | some (true, cs) => .cells cs
      | _ => .no
    | _ => .no
  | .typeAssert x _ t ok => match nrm (ev env x) with
    | some s => assertY P s t ok
    | none => .no
  | .call ⟨.builtin b, args, ts⟩ => match b with
    | .len => match args.toList with
      | [x] => match ts.toList with
        | t :: _ => match P.underlying t with
          | some (.slice _) => match ev env x with
            | some (.c (.gro _ _ n _)) => .val (.c (.v (.int .i64 n)))
            | some (.c (.tl _ _ _ _ _)) => .val (.c (.v (.int .i64 0)))
            | _ => .no
          | _ => .no
        | _ => .no
      | _ => .no
    | _ => .no
  | _ => .no
end Go.Proofs.YtccmdlmlbkpjjaaGreatDoor

/- The evaluator: 'pureX' says what the model does, and its labels are bounded. -/
namespace Go.Proofs.YtccmdlmlbkpjjaaGreatDoor
open Go.RowKit

theorem lookG_perm {β : Nat → Nat} : ∀ {gm gm' : GMem} {l : Nat} {x : Nat × Nat × Nat × List Ce}, lookG gm l = some x → delG gm l = some gm' → (gmSP β gm).Perm (grSP β (l, x) :: gmSP β gm')
  | [], _, _, _, h, _ => by cases h
  | (s, y) :: r, gm', l, x, h, hd => by
    rw [lookG_cons] at h
    simp only [delG] at hd
    by_cases e : s = l
    · subst e
      rw [if_pos rfl] at h
      cases h
      simp at hd
      subst hd
      exact List.Perm.refl _
    · rw [if_neg e] at h
      have hb : Nat.beq s l = false := by rw [← Bool.not_eq_true, Nat.beq_eq]; exact e
      rw [hb] at hd
      cases hr : delG r l with
      | none => simp only [hr] at hd; cases hd
      | some r' =>
        simp only [hr] at hd
        cases hd
        exact (List.Perm.cons _ (lookG_perm h hr)).trans (List.Perm.swap _ _ _)
theorem delG_some : ∀ (gm : GMem) (l : Nat), ∃ gm', delG gm l = some gm'
  | [], _ => ⟨_, rfl⟩
  | (s, y) :: r, l => by
    obtain ⟨r', hr⟩ := delG_some r l
    simp only [delG, hr]
    cases Nat.beq s l <;> exact ⟨_, rfl⟩

section
variable {g : Cx} {β : Nat → Nat} {s : GS} {L : Res} {a : Act} {w : World}

theorem RelG.sat' (h : RelG g β s L a w) : SatW (memSP β s.mem ++ (gmSP β s.gm ++ (L.map (·.2) ++ g.F))) w := by
  have := h.sat
  rw [List.map_append, gmRes_snd, List.append_assoc] at this
  exact this
theorem RelG.mk' (h1 : a.defers = []) (h2 : a.tmps.size = g.n) (h3 : ∀ t x, look s.env t = some x → a.tmps[t]? = some (x.den β)) (h5 : w.os = g.os) (h6 : w.tape = g.tape) (h7 : w.output = g.output)
    (h8 : SatW (memSP β s.mem ++ (gmSP β s.gm ++ (L.map (·.2) ++ g.F))) w) : RelG g β s L a w :=
  ⟨h1, h2, h3, fun _ _ h => (by cases h), h5, h6, h7, (by rw [List.map_append, gmRes_snd, List.append_assoc]; exact h8)⟩

structure GrIs (β : Nat → Nat) (w : World) (l e n sz : Nat) (cs : List Ce) (cur : Array Value) : Prop where
  blk : w.heap[β l]? = some (.cells cur e (0, 0))
  take : cur.toList.take (n * sz) = cs.map (Ce.den β)
  len : cs.length = n * sz
  cap : n ≤ β (l + 1)
  max : β (l + 1) ≤ maxLen
  size : cur.size = β (l + 1) * sz
theorem RelG.gr (h : RelG g β s L a w) {l e n sz : Nat} {cs : List Ce} (hl : lookG s.gm l = some (e, n, sz, cs)) : ∃ cur, GrIs β w l e n sz cs cur := by
  obtain ⟨gm', hd⟩ := delG_some s.gm l
  have h1 := h.sat'.swapHead
  have h2 := h1.perm ((lookG_perm hl hd).append_right _)
  obtain ⟨r, hh, x1, x2, x3, r1, k1, k2, y1, y2, y3, y4, y5, y6⟩ := h2
  obtain ⟨z1, z2⟩ := y5
  rcases z2 with ⟨z3, _⟩ | ⟨b, cur, z3, z4, z5, z6, z7, z8⟩
  · cases z3
  · cases z3
    exact ⟨cur, x2 _ _ (y2 _ _ z4), z8, by simpa using z1, z5, z6, z7⟩
theorem GrIs.cell {l e n sz : Nat} {cs : List Ce} {cur : Array Value} (h : GrIs β w l e n sz cs cur) {j : Nat} {y : Ce} (hy : cs[j]? = some y) : w.cell? ⟨β l, j, none⟩ = some (y.den β) := by
  have hj : j < cs.length := (List.getElem?_eq_some_iff.1 hy).1
  rw [cell_of_row w _ _ _ _ _ h.blk]
  have h1 : (cur.toList.take (n * sz))[j]? = some (y.den β) := by rw [h.take]; simp [hy]
  rw [List.getElem?_take, if_pos (by rw [← h.len]; exact hj)] at h1
  simpa using h1

theorem nrm_evn (h : RelG g β s L a w) {x : Operand} {u : SV} (hx : nrm (ev s.env x) = some u) : a.eval x = u.den β := h.evn hx

theorem bdO_ok (h : RelG g β s L a w) {x : Option Operand} {k : Option Nat} (hx : bdO s.env x = some k) : BdV (x.map a.eval) k := by
  cases x with
  | none => simp only [bdO, Option.some.injEq] at hx; subst hx; trivial
  | some x =>
    simp only [bdO] at hx
    split at hx
    · rename_i kk k' hv
      cases hx
      have := nrm_evn h hv
      simp only [Option.map_some, this]
      rfl
    · cases hx

theorem gmLen_ok (h : RelG g β s L a w) : ∀ l N, gmLen s.gm l = some N → N ≤ β (l + 1) := by
  intro l N hN
  unfold gmLen at hN
  split at hN
  · rename_i e n sz cs hl
    cases hN
    obtain ⟨cur, hc⟩ := h.gr hl
    exact hc.cap
  · cases hN

set_option maxHeartbeats 2000000 in
theorem pureY_ok (h : RelG g β s L a w) (o : Oper) : OutOk g.P β (execOp a.eval o) w (pureY g.P s.env s.gm o.op) := by
  obtain ⟨dst, op, ty, pos, after, guard⟩ := o
  cases op <;> try exact trivial
  case load t x =>
    simp only [pureY]
    split <;> try exact trivial
    rename_i l o hx
    have he := h.ev hx
    split <;> try exact trivial
    rename_i e n sz cs hl
    obtain ⟨cur, hc⟩ := h.gr hl
    split <;> try exact trivial
    · rename_i ha
      split <;> try exact trivial
      rename_i y hy
      rw [getL_eq] at hy
      have hcell := hc.cell hy
      have he' : a.eval x = .pointer (some ⟨β l, o, none⟩) := he
      show (execOp a.eval _).run g.P w = _
      simp [execOp, he', Instr.loadAt, Instr.sureAddr, loadVar, aggOf_one ha, hcell, SV.den]
    · rename_i m ha
      split <;> try exact trivial
      rename_i ys hy
      obtain ⟨g1, g2⟩ := aggOf_many ha w
      obtain ⟨c1, c2⟩ := cutL_spec cs o m ys hy
      have hl2 : (loadCells ⟨β l, o, none⟩ m).run g.P w = .ok (cellsOf β ys) w := by
        have := run_loadCells_list (P := g.P) w ⟨β l, o, none⟩ (ys.map (Ce.den β)) (fun j v hv => by
          rw [add_plain']
          rw [List.getElem?_map] at hv
          have hj : j < m := by
            rcases Nat.lt_or_ge j m with hlt | hge
            · exact hlt
            · rw [List.getElem?_eq_none (by omega)] at hv; cases hv
          cases hyj : ys[j]? with
          | none => rw [hyj] at hv; cases hv
          | some y =>
            rw [hyj] at hv
            rw [hc.cell (by rw [c2 j hj]; exact hyj)]
            exact hv)
        simpa [c1, cellsOf] using this
      have he' : a.eval x = .pointer (some ⟨β l, o, none⟩) := he
      show (execOp a.eval _).run g.P w = _
      simp [execOp, he', Instr.loadAt, Instr.sureAddr, loadVar, g1, g2, hl2, SV.den, cellsOf]
  case nilCheck x =>
    simp only [pureY]
    split <;> try exact trivial
    rename_i t l o hx
    have he : a.eval x = .iface t (.pointer (some ⟨β l, o, none⟩)) := h.ev hx
    show (execOp a.eval _).run g.P w = _
    simp [execOp, he, SV.den, Ce.den]
  case binOp op t x y tt =>
    simp only [pureY]
    split
    · rename_i xs hx
      split <;> try exact trivial
      rename_i ys hy
      have e1 := nrm_evn h hx
      have e2 := nrm_evn h hy
      show OutOk g.P β (do pure (.value (← (do eqGuard op t x y (a.eval x) (a.eval y); binOp op t (a.eval x) (a.eval y))))) w _
      rw [e1, e2]
      exact binA_ok
    · rename_i u hne hx
      split <;> try exact trivial
      rename_i v hy
      have e1 := nrm_evn h hx
      have e2 := nrm_evn h hy
      show OutOk g.P β (do pure (.value (← (do eqGuard op t x y (a.eval x) (a.eval y); binOp op t (a.eval x) (a.eval y))))) w _
      rw [e1, e2]
      exact binY_ok
    · exact trivial
  case unOp op t x =>
    cases op <;> try exact trivial
    simp only [pureY]
    split <;> try exact trivial
    rename_i k n hx
    have e1 : a.eval x = .int k n := nrm_evn h hx
    show (execOp a.eval _).run g.P w = _
    cases hk : k.signed <;> simp [execOp, e1, Op.unary, Op.intBits, hk]
  case makeInterface t x =>
    simp only [pureY]
    split <;> try exact trivial
    rename_i hc
    split <;> try exact trivial
    rename_i l o hx
    have he : a.eval x = .pointer (some ⟨β l, o, none⟩) := h.ev hx
    show (execOp a.eval _).run g.P w = _
    unfold Program.concrete at hc
    cases hu : g.P.underlying t with
    | none => simp [hu] at hc
    | some d => cases d <;> simp [hu] at hc <;> simp [execOp, he, Instr.makeInterface, run_underlying hu, SV.den, Ce.den]
  case indexAddr t x i =>
    simp only [pureY]
    split <;> try exact trivial
    rename_i u hx
    split <;> try exact trivial
    rename_i k iv hi
    have e1 := h.ev hx
    have e2 : a.eval i = .int k iv := nrm_evn h hi
    show OutOk g.P β (do pure (.value (← Instr.indexAt t (a.eval x) (a.eval i)))) w _
    rw [e1, e2]
    exact idxY_ok
  case index t x i =>
    simp only [pureY]
    split <;> try exact trivial
    rename_i u hx
    split <;> try exact trivial
    rename_i k iv hi
    have e1 := h.ev hx
    have e2 : a.eval i = .int k iv := nrm_evn h hi
    show OutOk g.P β (do pure (.value (← Instr.index t (a.eval x) (a.eval i)))) w _
    rw [e1, e2]
    exact elmY_ok
  case slice t x lo hi mx =>
    simp only [pureY]
    split <;> try exact trivial
    rename_i u hx
    split <;> try exact trivial
    rename_i l hl
    split <;> try exact trivial
    rename_i hh hhi
    split <;> try exact trivial
    rename_i m hm
    have e1 := h.ev hx
    show OutOk g.P β (do pure (.value (← Instr.sliceAt t (a.eval x) (lo.map a.eval) (hi.map a.eval) (mx.map a.eval)))) w _
    rw [e1]
    exact slcY_ok (bdO_ok h hl) (bdO_ok h hhi) (bdO_ok h hm) (gmLen_ok h)
  case extract x i =>
    simp only [pureY]
    split <;> try exact trivial
    rename_i vs hx
    have e1 : a.eval x = .tuple (vs.map (tpDen β)).toArray := h.ev hx
    split <;> try exact trivial
    · rename_i y hy
      rw [getL_eq] at hy
      show (execOp a.eval _).run g.P w = _
      simp [execOp, e1, Instr.extract, hy, tpDen, SV.den]
    · rename_i cs hy
      rw [getL_eq] at hy
      show (execOp a.eval _).run g.P w = _
      simp [execOp, e1, Instr.extract, hy, tpDen, SV.den]
  case typeAssert x xt t ok =>
    simp only [pureY]
    split <;> try exact trivial
    rename_i u hx
    have e1 := nrm_evn h hx
    show OutOk g.P β (do pure (.value (← Instr.typeAssert (a.eval x) xt t ok))) w _
    rw [e1]
    exact assertY_ok
  case call c =>
    obtain ⟨callee, args, ts⟩ := c
    cases callee <;> try exact trivial
    rename_i b
    cases b <;> try exact trivial
    simp only [pureY]
    split <;> try exact trivial
    rename_i x hargs
    split <;> try exact trivial
    rename_i t ts' hts
    have ea : args = #[x] := by apply Array.ext'; simpa using hargs
    have et : ts[0]? = some t := by rw [← Array.getElem?_toList, hts]; rfl
    split <;> try exact trivial
    rename_i e hu
    split <;> try exact trivial
    · rename_i l o n e' hx
      have he : a.eval x = .slice (some ⟨β l, o, none⟩) n (β (l + 1) - e') := h.ev hx
      show (execOp a.eval _).run g.P w = _
      simp [execOp, resolve, invoke, builtin, Builtin.len_, ea, et, he, run_underlying hu, goInt, SV.den, Ce.den]
    · rename_i l o k z e' hx
      have he : a.eval x = (SV.c (.tl l o k z e')).den β := h.ev hx
      simp only [SV.den, Ce.den] at he
      show (execOp a.eval _).run g.P w = _
      simp [execOp, resolve, invoke, builtin, Builtin.len_, ea, et, he, run_underlying hu, goInt, SV.den, Ce.den]
end

/-- What leaves memory as it is. -/
def pureX (P : Program) (env : Env) (mem : Mem) (gm : GMem) (op : Op) : Out :=
  match pureOp P env mem [] op with
  | .no => pureY P env gm op
  | r => r
theorem pureX_ok {g : Cx} {β : Nat → Nat} {s : GS} {L : Res} {a : Act} {w : World} (h : RelG g β s L a w) (o : Oper) : OutOk g.P β (execOp a.eval o) w (pureX g.P s.env s.mem s.gm o.op) := by
  unfold pureX
  have h1 := pureOp_ok h o
  split
  · exact pureY_ok h o
  · exact h1
end Go.Proofs.YtccmdlmlbkpjjaaGreatDoor

/- The evaluator: labels stay bounded. -/
namespace Go.Proofs.YtccmdlmlbkpjjaaGreatDoor
open Go.RowKit

def OutLt (n : Nat) : Out → Prop
  | .val x => x.lt n
  | .cells cs => ∀ x ∈ cs, x.lt n
  | _ => True
theorem vs_lt (n : Nat) (l : List Value) : ∀ x ∈ l.map Ce.v, x.lt n := by
  intro x hx
  obtain ⟨y, _, rfl⟩ := List.mem_map.1 hx
  trivial
theorem ev_lt {n : Nat} {env : Env} (h : ltE n env) {x : Operand} {s : SV} (hx : ev env x = some s) : s.lt n := by
  cases x with
  | tmp t => exact h t s hx
  | const v =>
    cases v <;> simp only [ev, Option.some.injEq] at hx <;> subst hx <;> first | trivial | exact vs_lt _ _
  | global b => simp only [ev, Option.some.injEq] at hx; subst hx; trivial
  | func f => simp only [ev, Option.some.injEq] at hx; subst hx; trivial
theorem nrm_lt {n : Nat} {env : Env} (h : ltE n env) {x : Operand} {s : SV} (hx : nrm (ev env x) = some s) : s.lt n := by
  cases hy : ev env x with
  | none => rw [hy] at hx; cases hx
  | some y =>
    rw [hy] at hx
    have := ev_lt h hy
    cases y <;> simp only [nrm, Option.some.injEq] at hx <;> subst hx <;> first | trivial | exact this
theorem getL_mem {α : Type} {l : List α} {k : Nat} {x : α} (h : getL l k = some x) : x ∈ l := by
  rw [getL_eq] at h
  exact List.mem_of_getElem? h
theorem cutL_mem {α : Type} {l : List α} {o n : Nat} {ys : List α} (h : cutL l o n = some ys) : ∀ x ∈ ys, x ∈ l := by
  intro x hx
  obtain ⟨c1, c2⟩ := cutL_spec l o n ys h
  obtain ⟨j, hj⟩ := List.getElem?_of_mem hx
  have hlt : j < n := by
    have := (List.getElem?_eq_some_iff.1 hj).1
    omega
  exact List.mem_of_getElem? ((c2 j hlt).trans hj)
theorem setsO_mem {cs ys zs : List Ce} {k : Nat} (h : fillS.setsO cs k ys = some zs) : ∀ z ∈ zs, z ∈ cs ∨ z ∈ ys := by
  intro z hz
  obtain ⟨h1, h2⟩ := setsO_spec cs k ys zs h
  obtain ⟨j, hj⟩ := List.getElem?_of_mem hz
  rw [h2] at hj
  split at hj
  · exact .inr (List.mem_of_getElem? hj)
  · exact .inl (List.mem_of_getElem? hj)
theorem cellsS_lt {n : Nat} {s : SV} {ys : List Ce} (h : s.lt n) (hy : cellsS s = some ys) : ∀ y ∈ ys, y.lt n := by
  cases s with
  | agg cs => simp only [cellsS, Option.some.injEq] at hy; subst hy; exact h
  | tup x => simp [cellsS] at hy
  | tps x => simp [cellsS] at hy
  | kb b =>
    simp only [cellsS, Option.some.injEq] at hy
    subst hy
    intro y hm
    simp only [List.mem_singleton] at hm
    subst hm
    trivial
  | c x =>
    simp only [cellsS] at hy
    split at hy <;> cases hy
    intro y hm
    simp only [List.mem_singleton] at hm
    subst hm
    exact h
theorem fillS_lt {n : Nat} {env : Env} (h : ltE n env) (place : Nat → Option (Nat × Nat)) : ∀ (ps : List (Nat × Operand)) (cs zs : List Ce), (∀ x ∈ cs, x.lt n) → fillS place env cs ps = some zs → ∀ z ∈ zs, z.lt n
  | [], cs, zs, hc, hf => by simp only [fillS, Option.some.injEq] at hf; subst hf; exact hc
  | (i, x) :: r, cs, zs, hc, hf => by
    simp only [fillS] at hf
    split at hf <;> try (cases hf; done)
    split at hf <;> try (cases hf; done)
    rename_i s hs
    split at hf <;> try (cases hf; done)
    rename_i ys hys
    split at hf <;> try (cases hf; done)
    split at hf <;> try (cases hf; done)
    split at hf <;> try (cases hf; done)
    rename_i cs' hcs
    refine fillS_lt h place r cs' zs (fun z hz => ?_) hf
    rcases setsO_mem hcs z hz with hz | hz
    · exact hc z hz
    · exact cellsS_lt (ev_lt h hs) hys z hz
theorem valsO_lt {n : Nat} {l : List Value} {cs : List Ce} (h : valsO l = some cs) : ∀ x ∈ cs, x.lt n := by
  rw [valsO_eq] at h
  cases h
  exact vs_lt _ _
theorem zeroS_lt {P : Program} {t n : Nat} {cs : List Ce} (h : zeroS P t = some cs) : ∀ x ∈ cs, x.lt n := by
  unfold zeroS at h
  split at h <;> try (cases h; done)
  split at h <;> try (cases h; done)
  split at h <;> try (cases h; done)
  · exact valsO_lt h
  · cases h
    intro x hx
    simp only [List.mem_singleton] at hx
    subst hx
    trivial
theorem buildS_lt {P : Program} {n t : Nat} {env : Env} (h : ltE n env) {ps : List (Nat × Operand)} {zs : List Ce} (hb : buildS P env t ps = some zs) : ∀ z ∈ zs, z.lt n := by
  unfold buildS at hb
  split at hb <;> try (cases hb; done)
  rename_i z hz
  split at hb <;> try (cases hb; done)
  · split at hb <;> try (cases hb; done)
    exact fillS_lt h _ _ _ _ (zeroS_lt hz) hb
  · split at hb <;> try (cases hb; done)
    exact fillS_lt h _ _ _ _ (zeroS_lt hz) hb
theorem rowS_lt {P : Program} {n e m : Nat} {env : Env} (h : ltE n env) {ps : List (Nat × Operand)} {cs : List Ce} (hr : rowS P env e m ps = some cs) : ∀ z ∈ cs, z.lt n := by
  unfold rowS at hr
  split at hr <;> try (cases hr; done)
  split at hr <;> try (cases hr; done)
  rename_i z hz
  split at hr <;> try (cases hr; done)
  split at hr <;> try (cases hr; done)
  split at hr <;> try (cases hr; done)
  rw [repS_eq] at hr
  refine fillS_lt h _ _ _ _ (fun x hx => ?_) hr
  obtain ⟨l, hl, hx2⟩ := List.mem_flatten.1 hx
  obtain rfl := List.eq_of_mem_replicate hl
  exact zeroS_lt hz x hx2
theorem binV_lt {P : Program} {op : BinOp} {t n : Nat} {c : Bool} {u v : Value} : OutLt n (binV P op t c u v) := by
  unfold binV
  repeat' (first | exact trivial | split)

theorem pureOp_lt {P : Program} {n : Nat} {env : Env} {mem : Mem} (h : ltE n env) (hm : ltM n mem) (op : Op) : OutLt n (pureOp P env mem [] op) := by
  cases op <;> simp only [pureOp] <;> try exact trivial
  case move x => split <;> first | exact trivial | (rename_i hx; exact ev_lt h hx)
  case assign x => split <;> first | exact trivial | (rename_i hx; exact ev_lt h hx)
  case load t x =>
    split <;> try exact trivial
    split <;> try exact trivial
    rename_i hl
    split <;> try exact trivial
    · split <;> try exact trivial
      rename_i hy
      exact (hm _ (lookM_mem hl)).2 _ (getL_mem hy)
    · split <;> try exact trivial
      rename_i hy
      exact fun x hx => (hm _ (lookM_mem hl)).2 _ (cutL_mem hy x hx)
  case nilCheck x =>
    split <;> try exact trivial
    rename_i hx
    exact ev_lt h hx
  case binOp op t x y tt => repeat' (first | exact trivial | exact binV_lt | split)
  case unOp op t x => repeat' (first | exact trivial | split)
  case convert a b x => repeat' (first | exact trivial | split)
  case fieldAddr t x f =>
    split <;> try exact trivial
    split <;> try exact trivial
    split <;> try exact trivial
    split <;> try exact trivial
    split <;> try exact trivial
    rename_i hx
    exact ev_lt h hx
  case field t x f =>
    split <;> try exact trivial
    split <;> try exact trivial
    split <;> try exact trivial
    rename_i cs hx
    have hc : ∀ x ∈ cs, x.lt n := ev_lt h hx
    split <;> try exact trivial
    · split <;> try exact trivial
      rename_i hy
      exact hc _ (getL_mem hy)
    · split <;> try exact trivial
      rename_i hy
      exact fun x hx => hc _ (cutL_mem hy x hx)
  case extract x i =>
    split <;> try exact trivial
    split <;> try exact trivial
    split <;> try exact trivial
    rename_i hv
    exact valsO_lt hv
  case makeInterface t x => repeat' (first | exact trivial | split)
  case makeFunc f a b => repeat' (first | exact trivial | split)
  case build t ps =>
    split <;> try exact trivial
    rename_i hb
    exact buildS_lt h hb
  case call c =>
    obtain ⟨callee, args, ts⟩ := c
    cases callee <;> try exact trivial
    rename_i b
    cases b <;> try exact trivial
    all_goals (simp only [pureOp]; repeat' (first | exact trivial | split))

theorem eqOut_lt {n : Nat} {op : BinOp} {b : Bool} : OutLt n (eqOut op b) := by unfold eqOut; split <;> trivial
theorem intB_lt {n : Nat} {op : BinOp} {k : IntKind} {a b : Int} : OutLt n (intB op k a b) := by unfold intB; repeat' (first | exact trivial | split)
theorem binY_lt {P : Program} {op : BinOp} {t n : Nat} {x y : SV} : OutLt n (binY P op t x y) := by
  unfold binY shiftB strB eqI
  repeat' (first | exact trivial | exact eqOut_lt | exact intB_lt | split)
theorem binA_lt {P : Program} {op : BinOp} {t n : Nat} {x y : List Ce} : OutLt n (binA P op t x y) := by
  unfold binA
  repeat' (first | exact trivial | exact eqOut_lt | split)
theorem ifaceOf_lt {n : Nat} {x : SV} {t : TypeId} {c : Ce} (h : x.lt n) (hx : ifaceOf x = some (t, c)) : c.lt n := by
  unfold ifaceOf at hx
  split at hx
  · cases hx; exact h
  · split at hx <;> cases hx
    trivial
  · cases hx
theorem tOf_lt {n : Nat} {x : SV} {p : Bool × List Ce} (h : x.lt n) (hx : tOf x = some p) : ∀ y ∈ p.2, y.lt n := by
  cases x <;> simp only [tOf, Option.some.injEq] at hx <;> try (cases hx; done)
  · subst hx; intro y hy; simp only [List.mem_singleton] at hy; subst hy; exact h
  · subst hx; exact h
  · subst hx; intro y hy; simp only [List.mem_singleton] at hy; subst hy; trivial
theorem zeroC_lt {P : Program} {t n : Nat} {p : Bool × List Ce} (h : zeroC P t = some p) : ∀ y ∈ p.2, y.lt n := by
  unfold zeroC at h
  split at h <;> try (cases h; done)
  split at h <;> try (cases h; done)
  split at h <;> try (cases h; done)
  · split at h <;> cases h
    rename_i hv
    exact valsO_lt hv
  · cases h
    intro y hy
    simp only [List.mem_singleton] at hy
    subst hy
    trivial
theorem two_lt {n : Nat} {p : Bool × List Ce} {b : Bool} (h : ∀ y ∈ p.2, y.lt n) : (SV.tps [p, (false, [.v (.bool b)])]).lt n := by
  intro q hq y hy
  simp only [List.mem_cons, List.not_mem_nil, or_false] at hq
  rcases hq with rfl | rfl
  · exact h y hy
  · simp only [List.mem_singleton] at hy
    subst hy
    trivial
theorem holdsT_lt {n : Nat} {ok : Bool} {x : SV} (h : x.lt n) : OutLt n (holdsT ok x) := by
  unfold holdsT
  split
  · exact h
  · split
    · rename_i hp
      exact two_lt (tOf_lt h hp)
    · trivial
theorem failsT_lt {P : Program} {t n : Nat} {ok : Bool} : OutLt n (failsT P t ok) := by
  unfold failsT
  split
  · trivial
  · split
    · rename_i hp
      exact two_lt (zeroC_lt hp)
    · trivial
theorem assertY_lt {P : Program} {n : Nat} {x : SV} {t : TypeId} {ok : Bool} (h : x.lt n) : OutLt n (assertY P x t ok) := by
  unfold assertY
  split
  · split
    · exact failsT_lt
    · split <;> try exact trivial
      split <;> try exact trivial
      split
      · exact holdsT_lt h
      · exact failsT_lt
  · split
    · exact failsT_lt
    · split <;> try exact trivial
      rename_i hx
      split
      · exact holdsT_lt (x := .c _) (ifaceOf_lt h hx)
      · exact failsT_lt
  · trivial
theorem rowOf_lt {n l o m : Nat} {x : SV} (h : x.lt n) (hx : rowOf x = some (l, o, m)) : l < n := by
  unfold rowOf at hx
  split at hx
  · cases hx; exact h
  · cases hx
    have : l + 1 < n := h
    omega
  · cases hx
theorem idxY_lt {P : Program} {n t : Nat} {x : SV} {iv : Int} (h : x.lt n) : OutLt n (idxY P t x iv) := by
  unfold idxY
  split <;> try exact trivial
  split <;> try exact trivial
  · split <;> try exact trivial
    split <;> try exact trivial
    rename_i hx
    split <;> try exact trivial
    exact rowOf_lt h hx
  · split <;> try exact trivial
    split <;> try exact trivial
    · split <;> try exact trivial
      exact h
    · split <;> exact trivial
theorem elmY_lt {P : Program} {n t : Nat} {x : SV} {iv : Int} (h : x.lt n) : OutLt n (elmY P t x iv) := by
  unfold elmY
  split <;> try exact trivial
  split <;> try exact trivial
  · split <;> try exact trivial
    split <;> try exact trivial
    split <;> try exact trivial
    split <;> try exact trivial
    · split <;> try exact trivial
      rename_i hy
      exact h _ (getL_mem hy)
    · split <;> try exact trivial
      rename_i hy
      exact fun x hx => h _ (cutL_mem hy x hx)
  · repeat' (first | exact trivial | split)
theorem slcY_lt {P : Program} {n t : Nat} {x : SV} {lo hi mx : Option Nat} {gn : Nat → Option Nat} (h : x.lt n) : OutLt n (slcY P t x lo hi mx gn) := by
  unfold slcY
  split <;> try exact trivial
  · repeat' (first | exact trivial | split)
  · split <;> try exact trivial
    split <;> try exact trivial
    · repeat' (first | exact trivial | split)
    · repeat' (first | exact trivial | exact h | split)
    · have h1 : _ + 1 < n := h
      repeat' (first | exact trivial | exact h | exact (Nat.lt_of_succ_lt h : _ < n) | split)

theorem pureY_lt {P : Program} {n : Nat} {env : Env} {gm : GMem} (h : ltE n env) (hm : ltG n gm) (op : Op) : OutLt n (pureY P env gm op) := by
  cases op <;> simp only [pureY] <;> try exact trivial
  case load t x =>
    split <;> try exact trivial
    split <;> try exact trivial
    rename_i hl
    split <;> try exact trivial
    · split <;> try exact trivial
      rename_i hy
      exact (hm _ (lookG_mem hl)).2 _ (getL_mem hy)
    · split <;> try exact trivial
      rename_i hy
      exact fun x hx => (hm _ (lookG_mem hl)).2 _ (cutL_mem hy x hx)
  case nilCheck x =>
    split <;> try exact trivial
    rename_i hx
    exact ev_lt h hx
  case binOp op t x y tt => repeat' (first | exact trivial | exact binA_lt | exact binY_lt | split)
  case unOp op t x =>
    cases op <;> try exact trivial
    simp only [pureY]
    repeat' (first | exact trivial | exact intB_lt | split)
  case makeInterface t x =>
    split <;> try exact trivial
    split <;> try exact trivial
    rename_i hx
    exact ev_lt h hx
  case indexAddr t x i =>
    split <;> try exact trivial
    rename_i hx
    split <;> try exact trivial
    exact idxY_lt (ev_lt h hx)
  case index t x i =>
    split <;> try exact trivial
    rename_i hx
    split <;> try exact trivial
    exact elmY_lt (ev_lt h hx)
  case slice t x lo hi mx =>
    split <;> try exact trivial
    rename_i hx
    split <;> try exact trivial
    split <;> try exact trivial
    split <;> try exact trivial
    exact slcY_lt (ev_lt h hx)
  case extract x i =>
    split <;> try exact trivial
    rename_i vs hx
    have hv := ev_lt h hx
    split <;> try exact trivial
    · rename_i y hy
      exact hv _ (getL_mem hy) y (by simp)
    · rename_i cs hy
      exact hv _ (getL_mem hy)
  case typeAssert x xt t ok =>
    split <;> try exact trivial
    rename_i hx
    exact assertY_lt (nrm_lt h hx)
  case call c =>
    obtain ⟨callee, args, ts⟩ := c
    cases callee <;> try exact trivial
    rename_i b
    cases b <;> try exact trivial
    simp only [pureY]
    repeat' (first | exact trivial | split)
theorem pureX_lt {P : Program} {n : Nat} {env : Env} {mem : Mem} {gm : GMem} (h : ltE n env) (hm : ltM n mem) (hg : ltG n gm) (op : Op) : OutLt n (pureX P env mem gm op) := by
  unfold pureX
  have := pureOp_lt (P := P) h hm op
  split
  · exact pureY_lt h hg op
  · exact this
end Go.Proofs.YtccmdlmlbkpjjaaGreatDoor

/- The evaluator: operations that make or turn memory. -/
namespace Go.Proofs.YtccmdlmlbkpjjaaGreatDoor
open Go.RowKit

structure Grow (s s' : GS) : Prop where
  bd : Bd s → Bd s'
  nl : s.nl ≤ s'.nl
  low : s'.low ≤ s.low
  keeps : ∀ b, b ≤ s'.low → b ≤ s.nl → Keeps b s s'
theorem Grow.trans {s s' s'' : GS} (h : Grow s s') (k : Grow s' s'') : Grow s s'' :=
  ⟨fun b => k.bd (h.bd b), Nat.le_trans h.nl k.nl, Nat.le_trans k.low h.low, fun b h1 h2 => (h.keeps b (Nat.le_trans h1 k.low) h2).trans (k.keeps b h1 (Nat.le_trans h2 h.nl))⟩
theorem Grow.refl (s : GS) : Grow s s := ⟨id, Nat.le_refl _, Nat.le_refl _, fun b _ _ => Keeps.refl b s⟩

section
variable {g : Cx} {β : Nat → Nat} {s : GS} {L : Res} {a : Act} {w : World}

theorem RelG.agree {β' : Nat → Nat} (h : RelG g β s L a w) (hb : Bd s) (k : agree s.nl β β') : RelG g β' s L a w :=
  RelG.mk' h.defers h.size (fun t x hx => by rw [SV.den_agree k (hb.env t x hx)]; exact h.env t x hx) h.os h.tape h.output (by rw [memSP_agree k hb.mem, gmSP_agree k hb.gm]; exact h.sat')
theorem RelG.putE {env' : Env} (h : RelG g β s L a w) {d : Option Tmp} {x : SV} (hd : dstOk g.n d = true) (hp : putO d x s.env = some env') : RelG g β { s with env := env' } L (a.put d (x.den β)) w :=
  Rel.putO h hd hp
theorem Grow.env {env' : Env} {d : Option Nat} {x : SV} (hx : Bd s → x.lt s.nl) (hp : putO d x s.env = some env') : Grow s { s with env := env' } :=
  ⟨fun b => ⟨b.env.putO (hx b) hp, b.mem, b.gm⟩, Nat.le_refl _, Nat.le_refl _, fun b _ _ => Keeps.of_eq rfl rfl⟩

/-- A new block, of just these cells. -/
def newL (s : GS) (d : Option Nat) (x : SV) (t : Nat) (cs : List Ce) : Option GS :=
  match putO d x s.env with
  | some env => some ⟨env, (s.nl, t, cs) :: s.mem, s.gm, s.nl + 1, s.low⟩
  | none => none
theorem newL_grow {s' : GS} {d : Option Nat} {x : SV} {t : Nat} {cs : List Ce} (hc : Bd s → ∀ y ∈ cs, y.lt s.nl) (hx : x.lt (s.nl + 1)) (h : newL s d x t cs = some s') : Grow s s' := by
  unfold newL at h
  split at h <;> cases h
  rename_i env he
  refine ⟨fun b => ⟨(b.env.mono (Nat.le_succ _)).putO hx he, ?_, b.gm.mono (Nat.le_succ _)⟩, Nat.le_succ _, Nat.le_refl _, ?_⟩
  · intro e hm
    rcases List.mem_cons.1 hm with rfl | hm
    · exact ⟨Nat.lt_succ_self _, fun y hy => Ce.lt_mono (Nat.le_succ _) (hc b y hy)⟩
    · exact (b.mem.mono (Nat.le_succ _)) e hm
  · intro b _ hb m0 g0 ⟨n1, h1, h2⟩ h3 _ _
    refine ⟨⟨(s.nl, t, cs) :: n1, by rw [h1]; rfl, ?_⟩, h3⟩
    intro e hm
    rcases List.mem_cons.1 hm with rfl | hm
    · exact hb
    · exact h2 e hm
theorem newL_step {s' : GS} {o : Oper} {x : SV} {t : Nat} {cs : List Ce} {v : Value} (hr : RelG g β s L a w) (hb : Bd s) (hd : dstOk g.n o.dst = true) (hc : ∀ y ∈ cs, y.lt s.nl) (h : newL s o.dst x t cs = some s')
    (hrun : (execOp a.eval o).run g.P w = .ok (.value v) (w.alloc (.cells (cellsOf β cs) t))) (hv : x.den (upd β s.nl w.heap.size) = v) :
    ∃ β' a' w', agree s.nl β β' ∧ RelG g β' s' L a' w' ∧ ∀ N Q, N a' w' → o.wp g.P a w N Q := by
  unfold newL at h
  split at h <;> cases h
  rename_i env he
  have hag : agree s.nl β (upd β s.nl w.heap.size) := fun l hl => upd_ne (by omega)
  refine ⟨upd β s.nl w.heap.size, a.put o.dst v, w.alloc (.cells (cellsOf β cs) t), hag, ?_, fun N Q hn => wp_value hrun hn⟩
  have h1 : RelG g (upd β s.nl w.heap.size) { s with mem := (s.nl, t, cs) :: s.mem } L a (w.alloc (.cells (cellsOf β cs) t)) := by
    have h0 := hr.agree hb hag
    refine RelG.mk' h0.defers h0.size h0.env h0.os h0.tape h0.output ?_
    have := hr.sat'.alloc (.cells (cellsOf β cs) t)
    have e : memSP (upd β s.nl w.heap.size) ((s.nl, t, cs) :: s.mem) = blk w.heap.size (.cells (cellsOf β cs) t) :: memSP β s.mem := by
      have e1 := memSP_agree hag hb.mem
      simp only [memSP, List.map_cons, cellsOf, upd_self] at e1 ⊢
      rw [e1, dens_agree hag hc]
    rw [e, gmSP_agree hag hb.gm]
    exact this
  have := h1.putE hd he
  rw [hv] at this
  exact this

/-- A new block that may grow. -/
def newG (s : GS) (d : Option Nat) (gm : GMem) (low e n sz : Nat) (cs : List Ce) : Option GS :=
  match putO d (.c (.gro s.nl 0 n 0)) s.env with
  | some env => some ⟨env, s.mem, (s.nl, e, n, sz, cs) :: gm, s.nl + 2, low⟩
  | none => none
theorem newG_step {s' : GS} {o : Oper} {gm : GMem} {low e n sz : Nat} {cs : List Ce} {b c : Nat} {w' : World} (hr : RelG g β s L a w) (hb : Bd s) (hd : dstOk g.n o.dst = true) (hc : ∀ y ∈ cs, y.lt s.nl) (hgm : ltG s.nl gm) (h : newG s o.dst gm low e n sz cs = some s')
    (hrun : (execOp a.eval o).run g.P w = .ok (.value (.slice (some ⟨b, 0, none⟩) n c)) w') (ho : w'.os = w.os ∧ w'.tape = w.tape ∧ w'.output = w.output)
    (hs : SatW (ownS e (some ⟨b, 0, none⟩) n c sz (cs.map (Ce.den β)) :: (memSP β s.mem ++ (gmSP β gm ++ (L.map (·.2) ++ g.F)))) w') :
    ∃ β' a' w', agree s.nl β β' ∧ RelG g β' s' L a' w' ∧ ∀ N Q, N a' w' → o.wp g.P a w N Q := by
  unfold newG at h
  split at h <;> cases h
  rename_i env he
  have hag : agree s.nl β (upd (upd β s.nl b) (s.nl + 1) c) := fun l hl => by rw [upd_ne (by omega), upd_ne (by omega)]
  refine ⟨_, a.put o.dst (.slice (some ⟨b, 0, none⟩) n c), w', hag, ?_, fun N Q hn => wp_value hrun hn⟩
  have h1 : RelG g (upd (upd β s.nl b) (s.nl + 1) c) { s with gm := (s.nl, e, n, sz, cs) :: gm } L a w' := by
    have h0 := hr.agree hb hag
    refine RelG.mk' h0.defers h0.size h0.env (ho.1.trans h0.os) (ho.2.1.trans h0.tape) (ho.2.2.trans h0.output) ?_
    have e1 : gmSP (upd (upd β s.nl b) (s.nl + 1) c) ((s.nl, e, n, sz, cs) :: gm) = ownS e (some ⟨b, 0, none⟩) n c sz (cs.map (Ce.den β)) :: gmSP β gm := by
      have e2 := gmSP_agree hag hgm
      simp only [gmSP, List.map_cons] at e2 ⊢
      rw [e2]
      simp only [grSP, upd_self, upd_ne (show s.nl ≠ s.nl + 1 by omega), dens_agree hag hc]
    show SatW (memSP _ s.mem ++ (gmSP _ ((s.nl, e, n, sz, cs) :: gm) ++ (L.map (·.2) ++ g.F))) w'
    rw [memSP_agree hag hb.mem, e1]
    exact hs.perm List.perm_middle.symm
  have := h1.putE hd he
  simp only [SV.den, Ce.den, upd_self, upd_ne (show s.nl ≠ s.nl + 1 by omega), Nat.sub_zero] at this
  exact this
theorem newG_bd {s' : GS} {d : Option Nat} {gm : GMem} {low e n sz : Nat} {cs : List Ce} (hc : Bd s → ∀ y ∈ cs, y.lt s.nl) (hgm : Bd s → ltG s.nl gm) (h : newG s d gm low e n sz cs = some s') : (Bd s → Bd s') ∧ s.nl ≤ s'.nl ∧ s'.low = low ∧ s'.mem = s.mem ∧ s'.gm = (s.nl, e, n, sz, cs) :: gm := by
  unfold newG at h
  split at h <;> cases h
  rename_i env he
  refine ⟨fun b => ⟨(b.env.mono (by show s.nl ≤ s.nl + 2; omega)).putO (by show s.nl + 1 < s.nl + 2; omega) he, b.mem.mono (by show s.nl ≤ s.nl + 2; omega), ?_⟩, by show s.nl ≤ s.nl + 2; omega, rfl, rfl, rfl⟩
  intro x hm
  rcases List.mem_cons.1 hm with rfl | hm
  · exact ⟨by show s.nl + 1 < s.nl + 2; omega, fun y hy => Ce.lt_mono (by show s.nl ≤ s.nl + 2; omega) (hc b y hy)⟩
  · exact ((hgm b).mono (by show s.nl ≤ s.nl + 2; omega)) x hm
end

def minN (x y : Nat) : Nat :=
  match Nat.ble x y with
  | true => x
  | false => y
theorem minN_le (x y : Nat) : minN x y ≤ x ∧ minN x y ≤ y := by
  unfold minN
  split
  · rename_i h; exact ⟨Nat.le_refl _, by simpa using h⟩
  · rename_i h
    have : ¬ x ≤ y := by rw [← Nat.ble_eq, h]; simp
    exact ⟨by omega, Nat.le_refl _⟩
end Go.Proofs.YtccmdlmlbkpjjaaGreatDoor

/- The evaluator: append, make, stores: 'effX'. -/
namespace Go.Proofs.YtccmdlmlbkpjjaaGreatDoor
open Go.RowKit

/-- The cells of a slice: how many elements, which cells. -/
def rowCells (s : GS) (y : SV) (sz : Nat) : Option (Nat × List Ce) :=
  match rowOf y with
  | some (l, o, n) => match lookM s.mem l with
    | some (_, cs) => match cutL cs o (n * sz) with
      | some ys => some (n, ys)
      | none => none
    | none => match lookG s.gm l with
      | some (_, _, _, cs) => match cutL cs o (n * sz) with
        | some ys => some (n, ys)
        | none => none
      | none => none
  | none => none
def allPl : List Ce → Bool
  | [] => true
  | x :: r => match x.plain with
    | true => allPl r
    | false => false
def small (n by_ : Nat) : Bool :=
  match Nat.ble n maxLen with
  | true => Nat.ble (n * by_) 140737488355328
  | false => false
def appE (P : Program) (s : GS) (d : Option Nat) (t : TypeId) (x y : SV) : Option GS :=
  match P.underlying t with
  | some (.slice e) => match elemI P e with
    | some (sz, by_) => match rowCells s y sz with
      | none => match isNilS y with
        | true => match y with
          | .c (.v (.slice none 0 _)) => match x with
            | .c (.v (.slice none 0 c)) => match putO d x s.env with
              | some env => some { s with env := env }
              | none => none
            | .c (.locs _ _ n c) => match Nat.ble n c with
              | true => match putO d x s.env with
                | some env => some { s with env := env }
                | none => none
              | false => none
            | .c (.gro l _ n e') => match gmLen s.gm l with
              | some N => match Nat.ble (e' + n) N with
                | true => match putO d x s.env with
                  | some env => some { s with env := env }
                  | none => none
                | false => none
              | none => none
            | _ => none
          | _ => none
        | false => none
      | some (0, _) => none
      | some (m + 1, news) => match allPl news with
        | false => none
        | true => match x with
          | .c (.v (.slice none 0 0)) => match small (m + 1) by_ with
            | true => newG s d s.gm s.low e (m + 1) sz news
            | false => none
          | .c (.gro l 0 n 0) => match lookG s.gm l with
            | some (e2, N, sz2, cs) => match Nat.beq e2 e with
              | true => match Nat.beq N n with
                | true => match Nat.beq sz2 sz with
                  | true => match small (n + (m + 1)) by_ with
                    | true => match delG s.gm l with
                      | some gm' => match appS cs news with
                        | some zs => newG s d gm' (minN s.low l) e (n + (m + 1)) sz zs
                        | none => none
                      | none => none
                    | false => none
                  | false => none
                | false => none
              | false => none
            | none => none
          | .c (.locs l o n c) => match Nat.beq n c with
            | true => match small (n + (m + 1)) by_ with
              | true => match lookM s.mem l with
                | some (_, cs) => match cutL cs o (n * sz) with
                  | some olds => match appS olds news with
                    | some zs => newG s d s.gm s.low e (n + (m + 1)) sz zs
                    | none => none
                  | none => none
                | none => none
              | false => none
            | false => none
          | _ => none
    | none => none
  | _ => none

section
variable {g : Cx} {β : Nat → Nat} {s : GS} {L : Res} {a : Act} {w : World}

theorem rowCells_ok (h : RelG g β s L a w) {y : SV} {sz m : Nat} {news : List Ce} (hy : rowCells s y sz = some (m, news)) :
    ∃ b o c, y.den β = .slice (some ⟨b, o, none⟩) m c ∧ news.length = m * sz ∧ ∀ j u, (news.map (Ce.den β))[j]? = some u → w.cell? ⟨b, o + j, none⟩ = some u := by
  unfold rowCells at hy
  split at hy <;> try (cases hy; done)
  rename_i l o n hr
  obtain ⟨c, hd⟩ := rowOf_den hr β
  have key : ∀ (cs : List Ce), (∀ j x, cs[j]? = some x → w.cell? ⟨β l, j, none⟩ = some (x.den β)) → ∀ ys, cutL cs o (n * sz) = some ys → ys.length = n * sz ∧ ∀ j u, (ys.map (Ce.den β))[j]? = some u → w.cell? ⟨β l, o + j, none⟩ = some u := by
    intro cs hc ys hcut
    obtain ⟨c1, c2⟩ := cutL_spec cs o _ ys hcut
    refine ⟨c1, fun j u hu => ?_⟩
    rw [List.getElem?_map] at hu
    cases hj : ys[j]? with
    | none => rw [hj] at hu; cases hu
    | some x =>
      rw [hj] at hu
      cases hu
      have hlt : j < n * sz := by have := (List.getElem?_eq_some_iff.1 hj).1; omega
      exact hc _ _ (by rw [c2 j hlt]; exact hj)
  split at hy
  · rename_i cs hl
    split at hy <;> cases hy
    rename_i ys hcut
    obtain ⟨k1, k2⟩ := key cs (fun j x hx => by rw [h.cell hl, hx]; rfl) _ hcut
    exact ⟨β l, o, c, hd, k1, k2⟩
  · split at hy <;> try (cases hy; done)
    rename_i e N sz2 cs hl
    split at hy <;> cases hy
    rename_i ys hcut
    obtain ⟨cur, hg⟩ := h.gr hl
    obtain ⟨k1, k2⟩ := key cs (fun j x hx => hg.cell hx) _ hcut
    exact ⟨β l, o, c, hd, k1, k2⟩
theorem rowCells_lt (hb : Bd s) {y : SV} {sz m : Nat} {news : List Ce} (hy : rowCells s y sz = some (m, news)) : ∀ x ∈ news, x.lt s.nl := by
  unfold rowCells at hy
  split at hy <;> try (cases hy; done)
  split at hy
  · rename_i hl
    split at hy <;> cases hy
    rename_i hcut
    exact fun x hx => (hb.mem _ (lookM_mem hl)).2 _ (cutL_mem hcut x hx)
  · split at hy <;> try (cases hy; done)
    rename_i hl
    split at hy <;> cases hy
    rename_i hcut
    exact fun x hx => (hb.gm _ (lookG_mem hl)).2 _ (cutL_mem hcut x hx)
theorem allPl_one : ∀ {cs : List Ce}, allPl cs = true → ∀ u ∈ cs.map (Ce.den β), u.oneCell' = true
  | [], _, u, hu => by cases hu
  | x :: r, h, u, hu => by
    unfold allPl at h
    split at h <;> try (cases h; done)
    rename_i hx
    rcases List.mem_cons.1 hu with rfl | hu
    · exact plain_one hx
    · exact allPl_one h u hu
theorem small_ok {n by_ : Nat} (h : small n by_ = true) : n ≤ maxLen ∧ n * by_ ≤ 140737488355328 := by
  unfold small at h
  split at h <;> try (cases h; done)
  rename_i h1
  exact ⟨by simpa using h1, by simpa using h⟩
theorem app_nil {P : Program} {t ty e : TypeId} {i : TypeInfo} {A : Option Addr} {n c c2 : Nat} (ht : P.underlying t = some (.slice e)) (hi : P.info? e = some i) (hn : n ≤ c) (w : World) :
    (Builtin.append_ #[t, t] ty #[.slice A n c, .slice none 0 c2]).run P w = .ok (.slice A n c) w := by
  cases A <;> simp [Builtin.append_, run_underlying ht, sizeOf, typeInfo, hi, Builtin.lenOf, Builtin.firstCells, hn, storeCells]
theorem delG_lt {n : Nat} : ∀ {gm gm' : GMem} {l : Nat}, ltG n gm → delG gm l = some gm' → ltG n gm'
  | [], gm', l, h, hd => by simp only [delG, Option.some.injEq] at hd; subst hd; exact h
  | (k, y) :: r, gm', l, h, hd => by
    simp only [delG] at hd
    split at hd
    · cases hd; exact fun e he => h e (List.mem_cons_of_mem _ he)
    · split at hd <;> cases hd
      rename_i r' hr
      intro e he
      rcases List.mem_cons.1 he with rfl | he
      · exact h _ (by simp)
      · exact delG_lt (fun e he => h e (List.mem_cons_of_mem _ he)) hr e he
/-- What goes is below no bound that is kept. -/
theorem delG_keeps {b l : Nat} (hl : b ≤ l) : ∀ {gm gm' g0 : GMem}, (∃ n2, gm = n2 ++ g0 ∧ ∀ e ∈ n2, b ≤ e.1) → (∀ e ∈ g0, e.1 < b) → delG gm l = some gm' → ∃ n2, gm' = n2 ++ g0 ∧ ∀ e ∈ n2, b ≤ e.1
  | [], gm', g0, ⟨n2, h1, h2⟩, h3, hd => by
    simp only [delG, Option.some.injEq] at hd
    subst hd
    exact ⟨n2, h1, h2⟩
  | (k, y) :: r, gm', g0, ⟨n2, h1, h2⟩, h3, hd => by
    cases n2 with
    | nil =>
      -- nothing above: the label is found nowhere
      simp only [List.nil_append] at h1
      have hno : ∀ (q : GMem), (∀ e ∈ q, e.1 < b) → delG q l = some q := by
        intro q
        induction q with
        | nil => intro _; rfl
        | cons z q ih =>
          obtain ⟨kz, yz⟩ := z
          intro hq
          have hk : kz ≠ l := by have := hq (kz, yz) (by simp); simp at this; omega
          have hbq : Nat.beq kz l = false := by rw [← Bool.not_eq_true, Nat.beq_eq]; exact hk
          simp only [delG, hbq, ih fun e he => hq e (List.mem_cons_of_mem _ he)]
      rw [h1, hno g0 h3] at hd
      cases hd
      exact ⟨[], rfl, by simp⟩
    | cons z n2 =>
      simp only [List.cons_append, List.cons.injEq] at h1
      obtain ⟨rfl, h1⟩ := h1
      simp only [delG] at hd
      split at hd
      · cases hd
        exact ⟨n2, h1, fun e he => h2 e (List.mem_cons_of_mem _ he)⟩
      · split at hd <;> cases hd
        rename_i r' hr
        obtain ⟨n3, k1, k2⟩ := delG_keeps hl ⟨n2, h1, fun e he => h2 e (List.mem_cons_of_mem _ he)⟩ h3 hr
        refine ⟨(k, y) :: n3, by rw [k1]; rfl, ?_⟩
        intro e he
        rcases List.mem_cons.1 he with rfl | he
        · exact h2 _ (by simp)
        · exact k2 e he

theorem Grow.ofG {s' : GS} {d : Option Nat} {gm : GMem} {low e n sz : Nat} {cs : List Ce} (hc : Bd s → ∀ y ∈ cs, y.lt s.nl) (hgm : Bd s → ltG s.nl gm) (h : newG s d gm low e n sz cs = some s') (hlow : low ≤ s.low)
    (hk : ∀ b, b ≤ low → ∀ g0, (∃ n2, s.gm = n2 ++ g0 ∧ ∀ e ∈ n2, b ≤ e.1) → (∀ e ∈ g0, e.1 < b) → ∃ n2, gm = n2 ++ g0 ∧ ∀ e ∈ n2, b ≤ e.1) : Grow s s' := by
  obtain ⟨h1, h2, h3, h4, h5⟩ := newG_bd hc hgm h
  refine ⟨h1, h2, by rw [h3]; exact hlow, fun b hb hbn m0 g0 k1 k2 k3 k4 => ?_⟩
  rw [h3] at hb
  obtain ⟨n2, e1, e2⟩ := hk b hb g0 k2 k4
  refine ⟨by rw [h4]; exact k1, (s.nl, e, n, sz, cs) :: n2, by rw [h5, e1]; rfl, ?_⟩
  intro x hx
  rcases List.mem_cons.1 hx with rfl | hx
  · exact hbn
  · exact e2 x hx

theorem appE_grow {P : Program} {s' : GS} {d : Option Nat} {t : TypeId} {x y : SV} (hx : Bd s → x.lt s.nl) (h : appE P s d t x y = some s') : Grow s s' := by
  unfold appE at h
  split at h <;> try (cases h; done)
  split at h <;> try (cases h; done)
  split at h
  · split at h <;> try (cases h; done)
    split at h <;> try (cases h; done)
    split at h <;> try (cases h; done)
    · split at h <;> cases h
      rename_i he
      exact Grow.env hx he
    · split at h <;> try (cases h; done)
      split at h <;> cases h
      rename_i he
      exact Grow.env hx he
    · split at h <;> try (cases h; done)
      split at h <;> try (cases h; done)
      split at h <;> cases h
      rename_i he
      exact Grow.env hx he
  · cases h
  · rename_i m news hrow
    split at h <;> try (cases h; done)
    split at h <;> try (cases h; done)
    · split at h <;> try (cases h; done)
      exact Grow.ofG (fun b => rowCells_lt b hrow) (fun b => b.gm) h (Nat.le_refl _) (fun b _ g0 k _ => k)
    · split at h <;> try (cases h; done)
      rename_i hl
      split at h <;> try (cases h; done)
      split at h <;> try (cases h; done)
      split at h <;> try (cases h; done)
      split at h <;> try (cases h; done)
      split at h <;> try (cases h; done)
      rename_i gm' hd
      split at h <;> try (cases h; done)
      rename_i zs hz
      rw [appS_eq] at hz
      cases hz
      refine Grow.ofG (fun b => ?_) (fun b => delG_lt b.gm hd) h (minN_le _ _).1 (fun b hb g0 k1 k2 => delG_keeps (Nat.le_trans hb (minN_le _ _).2) k1 k2 hd)
      intro u hu
      rcases List.mem_append.1 hu with hu | hu
      · exact (b.gm _ (lookG_mem hl)).2 u hu
      · exact rowCells_lt b hrow u hu
    · split at h <;> try (cases h; done)
      split at h <;> try (cases h; done)
      split at h <;> try (cases h; done)
      rename_i hl
      split at h <;> try (cases h; done)
      rename_i olds hcut
      split at h <;> try (cases h; done)
      rename_i zs hz
      rw [appS_eq] at hz
      cases hz
      refine Grow.ofG (fun b => ?_) (fun b => b.gm) h (Nat.le_refl _) (fun b _ g0 k _ => k)
      intro u hu
      rcases List.mem_append.1 hu with hu | hu
      · exact (b.mem _ (lookM_mem hl)).2 u (cutL_mem hcut u hu)
      · exact rowCells_lt b hrow u hu
end
end Go.Proofs.YtccmdlmlbkpjjaaGreatDoor
