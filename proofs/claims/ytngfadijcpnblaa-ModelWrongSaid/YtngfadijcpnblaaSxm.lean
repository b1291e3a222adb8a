/- More rules: appends of rows that lie elsewhere; stores into a slice of the call's own. -/
import Derived.Test.YtngfadijcpnblaaSxl
namespace Go.Proofs.Ytngfadijcpnblaa
open Go.RowKit

section
variable {g : Cx} {β : Nat → Nat} {env : Env} {mem : Mem} {bnd : Bnd} {L : Res} {a : Act} {w : World} {N : Act → World → Prop} {Q : Exit → Act → World → Prop}

theorem ownS_fit {e : TypeId} {A : Option Addr} {n c sz : Nat} {cells : List Value} {r h : PH} (hs : ownS e A n c sz cells r h) : n ≤ c ∧ c ≤ maxLen := by
  rcases hs.2 with ⟨_, rfl, rfl⟩ | ⟨b, cur, h1, h2, h3, h4, h5, h6⟩
  · exact ⟨Nat.le_refl _, Nat.zero_le _⟩
  · exact ⟨h3, h4⟩

/-- append of nothing. -/
theorem run_append_none {P : Program} {t ty e : TypeId} {i : TypeInfo} {A : Option Addr} {n c c2 : Nat} (ht : P.underlying t = some (.slice e)) (hi : P.info? e = some i) (hn : n ≤ c) (w : World) :
    (Builtin.append_ #[t, t] ty #[.slice A n c, .slice none 0 c2]).run P w = .ok (.slice A n c) w := by
  cases A with
  | none => simp [Builtin.append_, run_underlying ht, sizeOf, typeInfo, hi, Builtin.lenOf, Builtin.firstCells, hn]
  | some a => simp [Builtin.append_, run_underlying ht, sizeOf, typeInfo, hi, Builtin.lenOf, Builtin.firstCells, hn, storeCells]

/-- append of a slice that an assertion shows to an owned one. -/
theorem Nx.appendS (nm nm2 : Nat) {o : Oper} {t e : TypeId} {x y : Operand} {A A2 : Option Addr} {n c m c2 : Nat} {L' L2 : Res} {S : SP} {sz by_ : Nat} {cells news : List Value}
    (ho : o.op = .call ⟨.builtin .append, #[x, y], #[t, t]⟩) (hx : ev env x = some (.c (.v (.slice A n c)))) (hy : ev env y = some (.c (.v (.slice A2 m c2)))) (ht : g.P.underlying t = some (.slice e)) (he : elemI g.P e = some (sz, by_)) (hd : dstOk g.n o.dst = true)
    (hp : takeR nm L = some (ownS e A n c sz cells, L')) (hp2 : takeR nm2 L = some (S, L2)) (hs : Sees S A2 m sz news) (hone : ∀ u ∈ news, u.oneCell' = true) (h63 : n + m ≤ maxLen) (hbytes : (n + m) * by_ ≤ 140737488355328)
    (hk : ∀ A' c'', Nx g (putE o.dst (.c (.v (.slice A' (n + m) c''))) env) mem bnd ((nm, ownS e A' (n + m) c'' sz (cells ++ news)) :: L') N) : Nx g env mem bnd L (OneC g o N Q) := by
  intro β a w hr
  obtain ⟨ei, z, hei, hz, hzs, hpos, hes, hby⟩ := elemI_ok he
  subst hes
  subst hby
  have hsat := hr.picked (takeR_pick hp)
  have e1 : a.eval x = .slice A n c := hr.ev hx
  have e2 : a.eval y = .slice A2 m c2 := hr.ev hy
  obtain ⟨hlen, hrd⟩ : Rd (hw w) A2 m ei.size news := by
    obtain ⟨r, h, x1, x2, x3, r1, h1', h2', y1, y2, y3, y4, y5, y6⟩ := hr.picked (takeR_pick hp2)
    exact (hs r1 h1' (PH.dj_mono x3 y1 y2) y5).mono (PH.un_le (PH.le_trans y1 x1) (PH.le_trans y2 x2))
  have key : ∃ A' c'' w', (Builtin.append_ #[t, t] o.type #[.slice A n c, .slice A2 m c2]).run g.P w = .ok (.slice A' (n + m) c'') w' ∧ w'.os = w.os ∧ w'.tape = w.tape ∧ w'.output = w.output ∧ SatW (ownS e A' (n + m) c'' ei.size (cells ++ news) :: (memSP β mem ++ (L'.map (·.2) ++ g.F))) w' := by
    rcases Nat.eq_zero_or_pos m with h0 | h0
    · subst h0
      have hn0 : news = [] := List.eq_nil_of_length_eq_zero (by rw [hlen]; omega)
      subst hn0
      cases A2 with
      | none =>
        have hfit : n ≤ c := by
          obtain ⟨r, h, x1, x2, x3, r1, h1', h2', y1, y2, y3, y4, y5, y6⟩ := hsat
          exact (ownS_fit y5).1
        refine ⟨A, c, w, run_append_none ht hei hfit w, rfl, rfl, rfl, ?_⟩
        simpa using hsat
      | some ad => exact own_append (P := g.P) (ty := o.type) ht hei hz hzs hpos hsat ad 0 c2 [] (by simp) (fun j u hu => by simp at hu) (by simp) h63 hbytes
    · obtain ⟨b, off, cs, tt, fr, rfl, hb, hc⟩ := hrd h0
      refine own_append (P := g.P) (ty := o.type) ht hei hz hzs hpos hsat ⟨b, off, none⟩ m c2 news hlen (fun j u hu => ?_) hone h63 hbytes
      have hj : j < news.length := (List.getElem?_eq_some_iff.1 hu).1
      rw [add_plain', cell_of_row w _ _ _ _ _ hb, hc j (by omega)]
      exact hu
  obtain ⟨A', c'', w', hrun, h1, h2, h3, h4⟩ := key
  have hrun' : (execOp a.eval o).run g.P w = .ok (.value (.slice A' (n + m) c'')) w' := by
    simp [execOp, ho, resolve, e1, e2, invoke, builtin, hrun]
  refine wp_value hrun' (hk A' c'' β _ _ ?_)
  exact (hr.unpicked (ns := [nm]) (Ps := [_]) h4 h1 h2 h3).put o.dst (.c (.v (.slice A' (n + m) c''))) hd

/-- The address of an element of a slice whose place is known: no memory is asked. -/
theorem idxO_run {o : Oper} {t e : TypeId} {x i : Operand} {b off n c : Nat} {k : IntKind} {iv : Int} {sz by_ : Nat} (hr : Rel g β env mem bnd L a w)
    (ho : o.op = .indexAddr t x i) (hx : ev env x = some (.c (.v (.slice (some ⟨b, off, none⟩) n c)))) (hi : ev env i = some (.c (.v (.int k iv)))) (ht : g.P.underlying t = some (.slice e)) (he : elemI g.P e = some (sz, by_))
    (h0 : 0 ≤ iv) (h1 : iv < n) (w' : World) : (execOp a.eval o).run g.P w' = .ok (.value (.pointer (some ⟨b, off + iv.toNat * sz, none⟩))) w' := by
  obtain ⟨ei, zz, hei, hz, hzs, hpos, hez, hby⟩ := elemI_ok he
  have e1 : a.eval x = .slice (some ⟨b, off, none⟩) n c := hr.ev hx
  have e2 : a.eval i = .int k iv := hr.ev hi
  subst hez
  simp [execOp, ho, e1, e2, Instr.indexAt, asIntOf, run_underlying ht, h0, h1, sizeOf, typeInfo, hei, add_plain']
theorem Nx.idxO {o : Oper} {t e : TypeId} {x i : Operand} {b off n c : Nat} {k : IntKind} {iv : Int} {sz by_ q : Nat}
    (ho : o.op = .indexAddr t x i) (hx : ev env x = some (.c (.v (.slice (some ⟨b, off, none⟩) n c)))) (hi : ev env i = some (.c (.v (.int k iv)))) (ht : g.P.underlying t = some (.slice e)) (he : elemI g.P e = some (sz, by_)) (hd : dstOk g.n o.dst = true)
    (h0 : 0 ≤ iv) (h1 : iv < n) (hq : off + iv.toNat * sz = q) (hk : Nx g (putE o.dst (.c (.v (.pointer (some ⟨b, q, none⟩)))) env) mem bnd L N) : Nx g env mem bnd L (OneC g o N Q) := by
  subst hq
  exact Nx.val (x := .c (.v (.pointer (some ⟨b, off + iv.toNat * sz, none⟩)))) hd (fun β a w hr w' => idxO_run hr ho hx hi ht he h0 h1 w') hk
theorem Nx.hoIdxO {o : Oper} {t e : TypeId} {x i : Operand} {b off n c : Nat} {k : IntKind} {iv : Int} {sz by_ q : Nat} {T : World → Prop}
    (ho : o.op = .indexAddr t x i) (hx : ev env x = some (.c (.v (.slice (some ⟨b, off, none⟩) n c)))) (hi : ev env i = some (.c (.v (.int k iv)))) (ht : g.P.underlying t = some (.slice e)) (he : elemI g.P e = some (sz, by_)) (hd : dstOk g.n o.dst = true)
    (h0 : 0 ≤ iv) (h1 : iv < n) (hq : off + iv.toNat * sz = q) (hk : Nx g (putE o.dst (.c (.v (.pointer (some ⟨b, q, none⟩)))) env) mem bnd L N) : Nx g env mem bnd L (HoC g T o N) := by
  subst hq
  exact Nx.hoVal (x := .c (.v (.pointer (some ⟨b, off + iv.toNat * sz, none⟩)))) hd (fun β a w hr w' => idxO_run hr ho hx hi ht he h0 h1 w') hk

/-- A store into an element of an owned slice. -/
theorem Nx.storeO (nm : Nat) {o : Oper} {t e : TypeId} {x z : Operand} {b n c sz q : Nat} {cells ys : List Value} {L' : Res} {s : SV} {cs : List Ce}
    (ho : o.op = .store t x z) (hx : ev env x = some (.c (.v (.pointer (some ⟨b, q, none⟩))))) (hz : ev env z = some s) (hcs : cellsS s = some cs) (hv : cesV bnd cs = some ys) (ht : (g.P.info? t).map (·.size) = some ys.length)
    (hone : (ys.all fun u => u.oneCell') = true) (hd : dstOk g.n o.dst = true) (hp : takeR nm L = some (ownS e (some ⟨b, 0, none⟩) n c sz cells, L')) (hq : q + ys.length ≤ n * sz)
    (hk : Nx g (putE o.dst (.c (.v undef)) env) mem bnd ((nm, ownS e (some ⟨b, 0, none⟩) n c sz (cells.take q ++ ys ++ cells.drop (q + ys.length))) :: L') N) : Nx g env mem bnd L (OneC g o N Q) := by
  intro β a w hr
  have hpick := hr.picked (takeR_pick hp)
  obtain ⟨r, h, x1, x2, x3, r1, h1', h2', y1, y2, y3, y4, y5, y6⟩ := hpick
  obtain ⟨hlen, hcase⟩ := y5
  rcases hcase with ⟨hA, _⟩ | ⟨b', cur, hA, h2, h3, h4, h5, h6⟩
  · cases hA
  · cases hA
    have hb : w.heap[b]? = some (.cells cur e (0, 0)) := (PH.le_trans y2 x2) _ _ h2
    have hblk : SatW (blk b (.cells cur e (0, 0)) :: (memSP β mem ++ (L'.map (·.2) ++ g.F))) w := ⟨r, h, x1, x2, x3, r1, h1', h2', y1, y2, y3, y4, h2, y6⟩
    have hnc : n * sz ≤ c * sz := Nat.mul_le_mul_right _ h3
    have hst := run_storeCells_at g.P b q e ys 0 cur w hb (by omega) (by simpa using hone)
    obtain ⟨i, hi, hsz⟩ : ∃ i, g.P.info? t = some i ∧ i.size = ys.length := by
      cases hi : g.P.info? t with
      | none => rw [hi] at ht; cases ht
      | some i => rw [hi] at ht; exact ⟨i, rfl, by simpa using ht⟩
    have hcells : (s.den β).cells = ys.toArray := by
      rw [cellsS_den hcs β]
      unfold cellsOf
      rw [cesV_den hr.bnd hv]
    have e1 : a.eval x = .pointer (some ⟨b, q, none⟩) := hr.ev hx
    have e2 : a.eval z = s.den β := hr.ev hz
    have hfold : ∃ cur' : Array Value, (storeCells ⟨b, q, none⟩ ys).run g.P w = .ok () (w.setRow b cur') ∧ cur'.toList = cur.toList.take q ++ ys ++ cur.toList.drop (q + ys.length) := by
      exact ⟨(cur.toList.take q ++ ys ++ cur.toList.drop (q + ys.length)).toArray, hst, by simp⟩
    obtain ⟨cur', hrun, hcur⟩ := hfold
    have hsat2 : SatW (blk b (.cells cur' e (0, 0)) :: (memSP β mem ++ (L'.map (·.2) ++ g.F))) (w.setRow b cur') :=
      SatW.move hblk (fun k u hn hu => by rw [setRow_other w _ k _ hn]; exact hu) (setRow_heap w _ _ _ _ _ hb) (.inl rfl)
    have hlen2 : cur'.size = cur.size := by
      rw [← Array.length_toList, hcur]
      simp
      omega
    have htake : cur'.toList.take (n * sz) = cells.take q ++ ys ++ cells.drop (q + ys.length) := by
      have hql : q ≤ cur.toList.length := by simp; omega
      have hX : (cur.toList.take q ++ ys).length = q + ys.length := by rw [List.length_append, List.length_take, Nat.min_eq_left hql]
      rw [hcur, ← h6, List.take_take, Nat.min_eq_left (by omega), List.drop_take, List.take_append, hX, List.take_of_length_le (by rw [hX]; omega)]
    have h5' : SatW ([ownS e (some ⟨b, 0, none⟩) n c sz (cells.take q ++ ys ++ cells.drop (q + ys.length))] ++ (memSP β mem ++ (L'.map (·.2) ++ g.F))) (w.setRow b cur') :=
      hsat2.imp fun r h hs => ⟨by simp [hlen]; omega, .inr ⟨b, cur', rfl, hs, h3, h4, by rw [hlen2, h5], htake⟩⟩
    refine wp_skip' (w' := w.setRow b cur') ?_ (hk β _ _ ((hr.unpicked (ns := [nm]) (Ps := [_]) h5' rfl rfl rfl).put o.dst (.c (.v undef)) hd))
    have e3 : (s.den β).cells.size = i.size := by rw [hcells, hsz]; simp
    have e4 : (s.den β).cells.toList = ys := by rw [hcells]
    simp [execOp, ho, e1, e2, Instr.storeAt, Instr.sureAddr, storeVar, sizeOf, typeInfo, hi, e3, e4, hrun]

/-! ### Whole numbers -/
theorem Nx.convI {o : Oper} {src dst : TypeId} {x : Operand} {k k' kd : IntKind} {i r : Int} (ho : o.op = .convert src dst x) (hx : ev env x = some (.c (.v (.int k i)))) (hs : g.P.underlying src = some (.int k')) (hdt : g.P.underlying dst = some (.int kd)) (hd : dstOk g.n o.dst = true)
    (hr : kd.wrap i = r) (hk : Nx g (putE o.dst (.c (.v (.int kd r))) env) mem bnd L N) : Nx g env mem bnd L (OneC g o N Q) := by
  subst hr
  refine Nx.val (x := .c (.v (.int kd (kd.wrap i)))) hd (fun β a w hr w' => ?_) hk
  have e1 : a.eval x = .int k i := hr.ev hx
  simp [execOp, ho, e1, convert, run_underlying hs, run_underlying hdt, Conv.intToInt, SV.den, Ce.den]
theorem Nx.divI {o : Oper} {t tt : TypeId} {x y : Operand} {k : IntKind} {i j r : Int} {op : BinOp} (ho : o.op = .binOp op t x y tt) (hop : (op = .rem ∧ i.tmod j = r) ∨ (op = .quo ∧ k.wrap (i.tdiv j) = r)) (hx : ev env x = some (.c (.v (.int k i)))) (hy : ev env y = some (.c (.v (.int k j)))) (hj : j ≠ 0) (hd : dstOk g.n o.dst = true)
    (hk : Nx g (putE o.dst (.c (.v (.int k r))) env) mem bnd L N) : Nx g env mem bnd L (OneC g o N Q) := by
  refine Nx.val (x := .c (.v (.int k r))) hd (fun β a w hr w' => ?_) hk
  have e1 : a.eval x = .int k i := hr.ev hx
  have e2 : a.eval y = .int k j := hr.ev hy
  rcases hop with ⟨rfl, rfl⟩ | ⟨rfl, rfl⟩ <;> simp [execOp, ho, e1, e2, eqGuard, binOp, Op.intDiv, hj, SV.den, Ce.den]
end
end Go.Proofs.Ytngfadijcpnblaa
