/- The framework, whole. -/
import Derived.Test.YtngfadijcpnblaaMa
import Derived.Stop.Asserts
import Derived.Laws.MakeOwn
import Derived.Lib.Join
set_option linter.unusedSimpArgs false
set_option linter.unusedVariables false
/- More rules: appends of rows that lie elsewhere; stores into a slice of the call's own. -/
namespace Go.Proofs.Ytngfadijcpnblaa
open Go.RowKit

section
variable {g : Cx} {β : Nat → Nat} {env : Env} {mem : Mem} {bnd : Bnd} {L : Res} {a : Act} {w : World} {N : Act → World → Prop} {Q : Exit → Act → World → Prop}

theorem ownS_fit {e : TypeId} {A : Option Addr} {n c sz : Nat} {cells : List Value} {r h : PH} (hs : ownS e A n c sz cells r h) : n ≤ c ∧ c ≤ maxLen := by
  rcases hs.2 with ⟨_, rfl, rfl⟩ | ⟨b, cur, h1, h2, h3, h4, h5, h6⟩
  · exact ⟨Nat.le_refl _, Nat.zero_le _⟩
  · exact ⟨h3, h4⟩

/-- append of nothing. -/
theorem run_append_none {P : Program} {t ty e : TypeId} {i : TypeInfo} {A : Option Addr} {n c c2 : Nat} (ht : P.underlying t = some (.slice e)) (hi : P.info? e = some i) (hn : n ≤ c) (w : World) :
    (Builtin.append_ #[t, t] ty #[.slice A n c, .slice none 0 c2]).run P w = .ok (.slice A n c) w := by
  cases A with
  | none => simp [Builtin.append_, run_underlying ht, sizeOf, typeInfo, hi, Builtin.lenOf, Builtin.firstCells, hn]
  | some a => simp [Builtin.append_, run_underlying ht, sizeOf, typeInfo, hi, Builtin.lenOf, Builtin.firstCells, hn, storeCells]

/-- append of a slice that an assertion shows to an owned one. -/
theorem Nx.appendS (nm nm2 : Nat) {o : Oper} {t e : TypeId} {x y : Operand} {A A2 : Option Addr} {n c m c2 : Nat} {L' L2 : Res} {S : SP} {sz by_ : Nat} {cells news : List Value}
    (ho : o.op = .call ⟨.builtin .append, #[x, y], #[t, t]⟩) (hx : ev env x = some (.c (.v (.slice A n c)))) (hy : ev env y = some (.c (.v (.slice A2 m c2)))) (ht : g.P.underlying t = some (.slice e)) (he : elemI g.P e = some (sz, by_)) (hd : dstOk g.n o.dst = true)
    (hp : takeR nm L = some (ownS e A n c sz cells, L')) (hp2 : takeR nm2 L = some (S, L2)) (hs : Sees S A2 m sz news) (hone : ∀ u ∈ news, u.oneCell' = true) (h63 : n + m ≤ maxLen) (hbytes : (n + m) * by_ ≤ 140737488355328)
    (hk : ∀ A' c'', Nx g (putE o.dst (.c (.v (.slice A' (n + m) c''))) env) mem bnd ((nm, ownS e A' (n + m) c'' sz (cells ++ news)) :: L') N) : Nx g env mem bnd L (OneC g o N Q) := by
  intro β a w hr
  obtain ⟨ei, z, hei, hz, hzs, hpos, hes, hby⟩ := elemI_ok he
  subst hes
  subst hby
  have hsat := hr.picked (takeR_pick hp)
  have e1 : a.eval x = .slice A n c := hr.ev hx
  have e2 : a.eval y = .slice A2 m c2 := hr.ev hy
  obtain ⟨hlen, hrd⟩ : Rd (hw w) A2 m ei.size news := by
    obtain ⟨r, h, x1, x2, x3, r1, h1', h2', y1, y2, y3, y4, y5, y6⟩ := hr.picked (takeR_pick hp2)
    exact (hs r1 h1' (PH.dj_mono x3 y1 y2) y5).mono (PH.un_le (PH.le_trans y1 x1) (PH.le_trans y2 x2))
  have key : ∃ A' c'' w', (Builtin.append_ #[t, t] o.type #[.slice A n c, .slice A2 m c2]).run g.P w = .ok (.slice A' (n + m) c'') w' ∧ w'.os = w.os ∧ w'.tape = w.tape ∧ w'.output = w.output ∧ SatW (ownS e A' (n + m) c'' ei.size (cells ++ news) :: (memSP β mem ++ (L'.map (·.2) ++ g.F))) w' := by
    rcases Nat.eq_zero_or_pos m with h0 | h0
    · subst h0
      have hn0 : news = [] := List.eq_nil_of_length_eq_zero (by rw [hlen]; omega)
      subst hn0
      cases A2 with
      | none =>
        have hfit : n ≤ c := by
          obtain ⟨r, h, x1, x2, x3, r1, h1', h2', y1, y2, y3, y4, y5, y6⟩ := hsat
          exact (ownS_fit y5).1
        refine ⟨A, c, w, run_append_none ht hei hfit w, rfl, rfl, rfl, ?_⟩
        simpa using hsat
      | some ad => exact own_append (P := g.P) (ty := o.type) ht hei hz hzs hpos hsat ad 0 c2 [] (by simp) (fun j u hu => by simp at hu) (by simp) h63 hbytes
    · obtain ⟨b, off, cs, tt, fr, rfl, hb, hc⟩ := hrd h0
      refine own_append (P := g.P) (ty := o.type) ht hei hz hzs hpos hsat ⟨b, off, none⟩ m c2 news hlen (fun j u hu => ?_) hone h63 hbytes
      have hj : j < news.length := (List.getElem?_eq_some_iff.1 hu).1
      rw [add_plain', cell_of_row w _ _ _ _ _ hb, hc j (by omega)]
      exact hu
  obtain ⟨A', c'', w', hrun, h1, h2, h3, h4⟩ := key
  have hrun' : (execOp a.eval o).run g.P w = .ok (.value (.slice A' (n + m) c'')) w' := by
    simp [execOp, ho, resolve, e1, e2, invoke, builtin, hrun]
  refine wp_value hrun' (hk A' c'' β _ _ ?_)
  exact (hr.unpicked (ns := [nm]) (Ps := [_]) h4 h1 h2 h3).put o.dst (.c (.v (.slice A' (n + m) c''))) hd

/-- The address of an element of a slice whose place is known: no memory is asked. -/
theorem idxO_run {o : Oper} {t e : TypeId} {x i : Operand} {b off n c : Nat} {k : IntKind} {iv : Int} {sz by_ : Nat} (hr : Rel g β env mem bnd L a w)
    (ho : o.op = .indexAddr t x i) (hx : ev env x = some (.c (.v (.slice (some ⟨b, off, none⟩) n c)))) (hi : ev env i = some (.c (.v (.int k iv)))) (ht : g.P.underlying t = some (.slice e)) (he : elemI g.P e = some (sz, by_))
    (h0 : 0 ≤ iv) (h1 : iv < n) (w' : World) : (execOp a.eval o).run g.P w' = .ok (.value (.pointer (some ⟨b, off + iv.toNat * sz, none⟩))) w' := by
  obtain ⟨ei, zz, hei, hz, hzs, hpos, hez, hby⟩ := elemI_ok he
  have e1 : a.eval x = .slice (some ⟨b, off, none⟩) n c := hr.ev hx
  have e2 : a.eval i = .int k iv := hr.ev hi
  subst hez
  simp [execOp, ho, e1, e2, Instr.indexAt, asIntOf, run_underlying ht, h0, h1, sizeOf, typeInfo, hei, add_plain']
theorem Nx.idxO {o : Oper} {t e : TypeId} {x i : Operand} {b off n c : Nat} {k : IntKind} {iv : Int} {sz by_ q : Nat}
    (ho : o.op = .indexAddr t x i) (hx : ev env x = some (.c (.v (.slice (some ⟨b, off, none⟩) n c)))) (hi : ev env i = some (.c (.v (.int k iv)))) (ht : g.P.underlying t = some (.slice e)) (he : elemI g.P e = some (sz, by_)) (hd : dstOk g.n o.dst = true)
    (h0 : 0 ≤ iv) (h1 : iv < n) (hq : off + iv.toNat * sz = q) (hk : Nx g (putE o.dst (.c (.v (.pointer (some ⟨b, q, none⟩)))) env) mem bnd L N) : Nx g env mem bnd L (OneC g o N Q) := by
  subst hq
  exact Nx.val (x := .c (.v (.pointer (some ⟨b, off + iv.toNat * sz, none⟩)))) hd (fun β a w hr w' => idxO_run hr ho hx hi ht he h0 h1 w') hk
theorem Nx.hoIdxO {o : Oper} {t e : TypeId} {x i : Operand} {b off n c : Nat} {k : IntKind} {iv : Int} {sz by_ q : Nat} {T : World → Prop}
    (ho : o.op = .indexAddr t x i) (hx : ev env x = some (.c (.v (.slice (some ⟨b, off, none⟩) n c)))) (hi : ev env i = some (.c (.v (.int k iv)))) (ht : g.P.underlying t = some (.slice e)) (he : elemI g.P e = some (sz, by_)) (hd : dstOk g.n o.dst = true)
    (h0 : 0 ≤ iv) (h1 : iv < n) (hq : off + iv.toNat * sz = q) (hk : Nx g (putE o.dst (.c (.v (.pointer (some ⟨b, q, none⟩)))) env) mem bnd L N) : Nx g env mem bnd L (HoC g T o N) := by
  subst hq
  exact Nx.hoVal (x := .c (.v (.pointer (some ⟨b, off + iv.toNat * sz, none⟩)))) hd (fun β a w hr w' => idxO_run hr ho hx hi ht he h0 h1 w') hk

/-- A store into an element of an owned slice. -/
theorem Nx.storeO (nm : Nat) {o : Oper} {t e : TypeId} {x z : Operand} {b n c sz q : Nat} {cells ys : List Value} {L' : Res} {s : SV} {cs : List Ce}
    (ho : o.op = .store t x z) (hx : ev env x = some (.c (.v (.pointer (some ⟨b, q, none⟩))))) (hz : ev env z = some s) (hcs : cellsS s = some cs) (hv : cesV bnd cs = some ys) (ht : (g.P.info? t).map (·.size) = some ys.length)
    (hone : (ys.all fun u => u.oneCell') = true) (hd : dstOk g.n o.dst = true) (hp : takeR nm L = some (ownS e (some ⟨b, 0, none⟩) n c sz cells, L')) (hq : q + ys.length ≤ n * sz)
    (hk : Nx g (putE o.dst (.c (.v undef)) env) mem bnd ((nm, ownS e (some ⟨b, 0, none⟩) n c sz (cells.take q ++ ys ++ cells.drop (q + ys.length))) :: L') N) : Nx g env mem bnd L (OneC g o N Q) := by
  intro β a w hr
  have hpick := hr.picked (takeR_pick hp)
  obtain ⟨r, h, x1, x2, x3, r1, h1', h2', y1, y2, y3, y4, y5, y6⟩ := hpick
  obtain ⟨hlen, hcase⟩ := y5
  rcases hcase with ⟨hA, _⟩ | ⟨b', cur, hA, h2, h3, h4, h5, h6⟩
  · cases hA
  · cases hA
    have hb : w.heap[b]? = some (.cells cur e (0, 0)) := (PH.le_trans y2 x2) _ _ h2
    have hblk : SatW (blk b (.cells cur e (0, 0)) :: (memSP β mem ++ (L'.map (·.2) ++ g.F))) w := ⟨r, h, x1, x2, x3, r1, h1', h2', y1, y2, y3, y4, h2, y6⟩
    have hnc : n * sz ≤ c * sz := Nat.mul_le_mul_right _ h3
    have hst := run_storeCells_at g.P b q e ys 0 cur w hb (by omega) (by simpa using hone)
    obtain ⟨i, hi, hsz⟩ : ∃ i, g.P.info? t = some i ∧ i.size = ys.length := by
      cases hi : g.P.info? t with
      | none => rw [hi] at ht; cases ht
      | some i => rw [hi] at ht; exact ⟨i, rfl, by simpa using ht⟩
    have hcells : (s.den β).cells = ys.toArray := by
      rw [cellsS_den hcs β]
      unfold cellsOf
      rw [cesV_den hr.bnd hv]
    have e1 : a.eval x = .pointer (some ⟨b, q, none⟩) := hr.ev hx
    have e2 : a.eval z = s.den β := hr.ev hz
    have hfold : ∃ cur' : Array Value, (storeCells ⟨b, q, none⟩ ys).run g.P w = .ok () (w.setRow b cur') ∧ cur'.toList = cur.toList.take q ++ ys ++ cur.toList.drop (q + ys.length) := by
      exact ⟨(cur.toList.take q ++ ys ++ cur.toList.drop (q + ys.length)).toArray, hst, by simp⟩
    obtain ⟨cur', hrun, hcur⟩ := hfold
    have hsat2 : SatW (blk b (.cells cur' e (0, 0)) :: (memSP β mem ++ (L'.map (·.2) ++ g.F))) (w.setRow b cur') :=
      SatW.move hblk (fun k u hn hu => by rw [setRow_other w _ k _ hn]; exact hu) (setRow_heap w _ _ _ _ _ hb) (.inl rfl)
    have hlen2 : cur'.size = cur.size := by
      rw [← Array.length_toList, hcur]
      simp
      omega
    have htake : cur'.toList.take (n * sz) = cells.take q ++ ys ++ cells.drop (q + ys.length) := by
      have hql : q ≤ cur.toList.length := by simp; omega
      have hX : (cur.toList.take q ++ ys).length = q + ys.length := by rw [List.length_append, List.length_take, Nat.min_eq_left hql]
      rw [hcur, ← h6, List.take_take, Nat.min_eq_left (by omega), List.drop_take, List.take_append, hX, List.take_of_length_le (by rw [hX]; omega)]
    have h5' : SatW ([ownS e (some ⟨b, 0, none⟩) n c sz (cells.take q ++ ys ++ cells.drop (q + ys.length))] ++ (memSP β mem ++ (L'.map (·.2) ++ g.F))) (w.setRow b cur') :=
      hsat2.imp fun r h hs => ⟨by simp [hlen]; omega, .inr ⟨b, cur', rfl, hs, h3, h4, by rw [hlen2, h5], htake⟩⟩
    refine wp_skip' (w' := w.setRow b cur') ?_ (hk β _ _ ((hr.unpicked (ns := [nm]) (Ps := [_]) h5' rfl rfl rfl).put o.dst (.c (.v undef)) hd))
    have e3 : (s.den β).cells.size = i.size := by rw [hcells, hsz]; simp
    have e4 : (s.den β).cells.toList = ys := by rw [hcells]
    simp [execOp, ho, e1, e2, Instr.storeAt, Instr.sureAddr, storeVar, sizeOf, typeInfo, hi, e3, e4, hrun]

/-! ### Whole numbers -/
theorem Nx.convI {o : Oper} {src dst : TypeId} {x : Operand} {k k' kd : IntKind} {i r : Int} (ho : o.op = .convert src dst x) (hx : ev env x = some (.c (.v (.int k i)))) (hs : g.P.underlying src = some (.int k')) (hdt : g.P.underlying dst = some (.int kd)) (hd : dstOk g.n o.dst = true)
    (hr : kd.wrap i = r) (hk : Nx g (putE o.dst (.c (.v (.int kd r))) env) mem bnd L N) : Nx g env mem bnd L (OneC g o N Q) := by
  subst hr
  refine Nx.val (x := .c (.v (.int kd (kd.wrap i)))) hd (fun β a w hr w' => ?_) hk
  have e1 : a.eval x = .int k i := hr.ev hx
  simp [execOp, ho, e1, convert, run_underlying hs, run_underlying hdt, Conv.intToInt, SV.den, Ce.den]
theorem Nx.divI {o : Oper} {t tt : TypeId} {x y : Operand} {k : IntKind} {i j r : Int} {op : BinOp} (ho : o.op = .binOp op t x y tt) (hop : (op = .rem ∧ i.tmod j = r) ∨ (op = .quo ∧ k.wrap (i.tdiv j) = r)) (hx : ev env x = some (.c (.v (.int k i)))) (hy : ev env y = some (.c (.v (.int k j)))) (hj : j ≠ 0) (hd : dstOk g.n o.dst = true)
    (hk : Nx g (putE o.dst (.c (.v (.int k r))) env) mem bnd L N) : Nx g env mem bnd L (OneC g o N Q) := by
  refine Nx.val (x := .c (.v (.int k r))) hd (fun β a w hr w' => ?_) hk
  have e1 : a.eval x = .int k i := hr.ev hx
  have e2 : a.eval y = .int k j := hr.ev hy
  rcases hop with ⟨rfl, rfl⟩ | ⟨rfl, rfl⟩ <;> simp [execOp, ho, e1, e2, eqGuard, binOp, Op.intDiv, hj, SV.den, Ce.den]
end
end Go.Proofs.Ytngfadijcpnblaa

/- Rules: loops that are unrolled; arrays of the call's own at an index that is written out. -/
namespace Go.Proofs.Ytngfadijcpnblaa
open Go.RowKit
section
variable {g : Cx} {β : Nat → Nat} {env : Env} {mem : Mem} {bnd : Bnd} {L : Res} {a : Act} {w : World} {N : Act → World → Prop} {Q : Exit → Act → World → Prop} {c : Code} {k : List Item}

theorem Nx.unroll (h : Nx g env mem bnd L (RunC g (.code c :: .inLoop c :: k))) : Nx g env mem bnd L (RunC g (.code (.loop c) :: k)) :=
  fun β a w hr => Ret.one (fun _ => step_loop) (h β a w hr)
theorem Nx.again (h : Nx g env mem bnd L (RunC g (.code c :: .inLoop c :: k))) : Nx g env mem bnd L (RunC g (.inLoop c :: k)) :=
  fun β a w hr => Ret.one (fun _ => step_inLoop) (h β a w hr)

theorem arr_run (hr : Rel g β env mem bnd L a w) {o : Oper} {t e : TypeId} {x i : Operand} {l off n sz by_ j : Nat} {kk : IntKind} (ho : o.op = .indexAddr t x i) (hx : ev env x = some (.c (.loc l off))) (hi : ev env i = some (.c (.v (.int kk j)))) (ht : g.P.underlying t = some (.array n e)) (he : elemI g.P e = some (sz, by_)) (hj : j < n) (w' : World) :
    (execOp a.eval o).run g.P w' = .ok (.value ((SV.c (.loc l (off + j * sz))).den β)) w' := by
  obtain ⟨ei, zz, hei, hz, hzs, hpos, hez, hby⟩ := elemI_ok he
  have e1 : a.eval x = .pointer (some ⟨β l, off, none⟩) := hr.ev hx
  have e2 : a.eval i = .int kk j := hr.ev hi
  have e3 : (j : Int) < n := by omega
  simp [execOp, ho, e1, e2, Instr.indexAt, Instr.sureAddr, asIntOf, run_underlying ht, e3, sizeOf, typeInfo, hei, hez, add_plain', SV.den, Ce.den]
  try (intro hbad; omega)
theorem Nx.arr {o : Oper} {t e : TypeId} {x i : Operand} {l off n sz by_ j q : Nat} {kk : IntKind} {iv : Int} (ho : o.op = .indexAddr t x i) (hx : ev env x = some (.c (.loc l off))) (hi : ev env i = some (.c (.v (.int kk iv)))) (ht : g.P.underlying t = some (.array n e)) (he : elemI g.P e = some (sz, by_)) (hd : dstOk g.n o.dst = true) (hiv : iv = (j : Int)) (hj : j < n) (hq : off + j * sz = q)
    (hk : Nx g (putE o.dst (.c (.loc l q)) env) mem bnd L N) : Nx g env mem bnd L (OneC g o N Q) := by
  subst hiv; subst hq
  exact Nx.val hd (fun _ _ _ hr w' => arr_run hr ho hx hi ht he hj w') hk
theorem Nx.hoArr {T : World → Prop} {o : Oper} {t e : TypeId} {x i : Operand} {l off n sz by_ j q : Nat} {kk : IntKind} {iv : Int} (ho : o.op = .indexAddr t x i) (hx : ev env x = some (.c (.loc l off))) (hi : ev env i = some (.c (.v (.int kk iv)))) (ht : g.P.underlying t = some (.array n e)) (he : elemI g.P e = some (sz, by_)) (hd : dstOk g.n o.dst = true) (hiv : iv = (j : Int)) (hj : j < n) (hq : off + j * sz = q)
    (hk : Nx g (putE o.dst (.c (.loc l q)) env) mem bnd L N) : Nx g env mem bnd L (HoC g T o N) := by
  subst hiv; subst hq
  exact Nx.hoVal hd (fun _ _ _ hr w' => arr_run hr ho hx hi ht he hj w') hk
/-- append of a row of the call's own to a slice without room, which stays as it is. -/
theorem Nx.appendG (nm nm2 : Nat) {o : Oper} {t e : TypeId} {x y : Operand} {A : Option Addr} {n : Nat} {L2 : Res} {S : SP} {sz l m c' tt : Nat} {cells news : List Value} {by_ : Nat} {cs : List Ce}
    (ho : o.op = .call ⟨.builtin .append, #[x, y], #[t, t]⟩) (hx : ev env x = some (.c (.v (.slice A n n)))) (hy : ev env y = some (.c (.locs l 0 m c'))) (hl : lookM mem l = some (tt, cs)) (hv : cesV bnd cs = some news)
    (ht : g.P.underlying t = some (.slice e)) (he : elemI g.P e = some (sz, by_)) (hd : dstOk g.n o.dst = true)
    (hp2 : takeR nm2 L = some (S, L2)) (hs : Sees S A n sz cells) (hm : 0 < m) (hlen : Nat.beq news.length (m * sz) = true) (h63 : n + m ≤ maxLen) (hbytes : (n + m) * by_ ≤ 140737488355328)
    (hk : ∀ A' c'', Nx g (putE o.dst (.c (.v (.slice A' (n + m) c''))) env) mem bnd ((nm, ownS e A' (n + m) c'' sz (cells ++ news)) :: L) N) : Nx g env mem bnd L (OneC g o N Q) := by
  intro β a w hr
  obtain ⟨ei, z, hei, hz, hzs, hpos, hes, hby⟩ := elemI_ok he
  subst hes
  subst hby
  have e1 : a.eval x = .slice A n n := hr.ev hx
  have e2 : a.eval y = .slice (some ⟨β l, 0, none⟩) m c' := hr.ev hy
  have hblk := hr.block hl
  have hcv : cellsOf β cs = news.toArray := by unfold cellsOf; rw [cesV_den hr.bnd hv]
  obtain ⟨hln, hrd⟩ : Rd (hw w) A n ei.size cells := by
    obtain ⟨r, h, x1, x2, x3, r1, h1', h2', y1, y2, y3, y4, y5, y6⟩ := hr.picked (takeR_pick hp2)
    exact (hs r1 h1' (PH.dj_mono x3 y1 y2) y5).mono (PH.un_le (PH.le_trans y1 x1) (PH.le_trans y2 x2))
  have hnl : news.length = m * ei.size := by simpa using hlen
  have hnews : ∀ j u, news[j]? = some u → w.cell? ((⟨β l, 0, none⟩ : Addr).add j) = some u := fun j u hu => by
    rw [add_plain', Nat.zero_add, cell_of_row w _ _ _ _ _ hblk, hcv]
    simpa using hu
  have hsm : n + m ≤ 9223372036854775807 := by simp only [maxLen] at h63; omega
  have hge := grownCap_ge w (n + m) n e
  have hcm := grownCap_le_maxLen w (n + m) n e h63
  have key : ∃ w', (Builtin.append_ #[t, t] o.type #[.slice A n n, .slice (some ⟨β l, 0, none⟩) m c']).run g.P w = .ok (.slice (some ⟨w.heap.size, 0, none⟩) (n + m) (grownCap w (n + m) n e)) w' ∧
      w' = w.drew.alloc (.cells (cells.toArray ++ news.toArray ++ Builtin.zeroCells z.cells (grownCap w (n + m) n e - (n + m))) e) := by
    cases A with
    | none =>
      have hn0 : n = 0 := by
        rcases Nat.eq_zero_or_pos n with h | h
        · exact h
        · obtain ⟨b, o', _, _, _, hh, _⟩ := hrd h; cases hh
      subst hn0
      have hc0 : cells = [] := List.eq_nil_of_length_eq_zero (by rw [hln]; omega)
      subst hc0
      have := run_append_nil (P := g.P) w t o.type e ei z ht hei hz ⟨β l, 0, none⟩ m c' news hnl hnews hm (by omega) (by simp only [Nat.zero_add] at hbytes; omega)
      refine ⟨_, ?_, rfl⟩
      simp only [Nat.zero_add] at this ⊢
      rw [this]
      simp
    | some ad =>
      have hold : ∀ j v, cells[j]? = some v → w.cell? (ad.add j) = some v := by
        intro j v hj
        have hjl : j < cells.length := (List.getElem?_eq_some_iff.1 hj).1
        rcases Nat.eq_zero_or_pos n with h | h
        · subst h; omega
        · obtain ⟨b, off, cs2, t2, fr2, hh, hb, hc⟩ := hrd h
          cases hh
          rw [add_plain', cell_of_row w _ _ _ _ _ hb, hc j (by omega)]
          exact hj
      exact ⟨_, run_append_grow (P := g.P) w t o.type e ei z ht hei hz ad n n cells hln hold ⟨β l, 0, none⟩ m c' news hnl hnews (by omega) (by omega) (growslice_fits (by omega) hbytes), rfl⟩
  obtain ⟨w', hrun, hw'⟩ := key
  have hrun' : (execOp a.eval o).run g.P w = .ok (.value (.slice (some ⟨w.heap.size, 0, none⟩) (n + m) (grownCap w (n + m) n e))) w' := by
    simp [execOp, ho, resolve, e1, e2, invoke, builtin, hrun]
  refine wp_value hrun' (hk (some ⟨w.heap.size, 0, none⟩) (grownCap w (n + m) n e) β _ _ ?_)
  have hsat : SatW (memSP β mem ++ ((ownS e (some ⟨w.heap.size, 0, none⟩) (n + m) (grownCap w (n + m) n e) ei.size (cells ++ news) :: L.map (·.2)) ++ g.F)) w' := by
    have h1 := (hr.sat.heap (w' := w.drew) rfl).alloc (.cells (cells.toArray ++ news.toArray ++ Builtin.zeroCells z.cells (grownCap w (n + m) n e - (n + m))) e)
    rw [← hw'] at h1
    have h2 := h1.imp (Q := ownS e (some ⟨w.heap.size, 0, none⟩) (n + m) (grownCap w (n + m) n e) ei.size (cells ++ news)) (fun r h hb => by
      refine ⟨by rw [List.length_append, hln, hnl, Nat.add_mul], .inr ⟨w.heap.size, _, rfl, hb, hge, hcm, ?_, ?_⟩⟩
      · simp only [Array.size_append, List.size_toArray, size_zeroCells, hzs, hln, hnl, ← Nat.add_mul]
        congr 1
        omega
      · have hlen2 : (cells ++ news).length = (n + m) * ei.size := by rw [List.length_append, hln, hnl, Nat.add_mul]
        simp only [Array.toList_append, List.append_assoc]
        rw [← List.append_assoc, ← hlen2]
        exact List.take_left)
    exact h2.perm (List.perm_middle.symm)
  have hwo : w'.os = w.os ∧ w'.tape = w.tape ∧ w'.output = w.output := by subst hw'; exact ⟨rfl, rfl, rfl⟩
  have hR : Rel g β env mem bnd ((nm, ownS e (some ⟨w.heap.size, 0, none⟩) (n + m) (grownCap w (n + m) n e) ei.size (cells ++ news)) :: L) a w' :=
    ⟨hr.defers, hr.size, hr.env, hr.bnd, hwo.1.trans hr.os, hwo.2.1.trans hr.tape, hwo.2.2.trans hr.output, by simpa using hsat⟩
  exact hR.put o.dst (.c (.v (.slice (some ⟨w.heap.size, 0, none⟩) (n + m) (grownCap w (n + m) n e)))) hd
end
end Go.Proofs.Ytngfadijcpnblaa

/- The evaluator: bounds of labels, blocks that may grow, the relation to frames and worlds. -/
namespace Go.Proofs.Ytngfadijcpnblaa
open Go.RowKit

/-! ### Bounds of labels -/
def Ce.lt (n : Nat) : Ce → Prop
  | .v _ => True
  | .loc l _ => l < n
  | .locs l _ _ _ => l < n
  | .ifl _ l _ => l < n
  | .gro l _ _ _ => l + 1 < n
  | .tl l _ _ _ _ => l + 1 < n
def SV.lt (n : Nat) : SV → Prop
  | .c x => x.lt n
  | .agg cs => ∀ x ∈ cs, x.lt n
  | .tup _ => True
  | .kb _ => True
  | .tps vs => ∀ p ∈ vs, ∀ x ∈ p.2, x.lt n
def agree (n : Nat) (β β' : Nat → Nat) : Prop := ∀ l, l < n → β' l = β l
theorem agree.refl (n : Nat) (β : Nat → Nat) : agree n β β := fun _ _ => rfl
theorem agree.trans {n m : Nat} {β β' β'' : Nat → Nat} (h : agree n β β') (k : agree m β' β'') (hn : n ≤ m) : agree n β β'' :=
  fun l hl => (k l (Nat.lt_of_lt_of_le hl hn)).trans (h l hl)
theorem Ce.lt_mono {n m : Nat} (h : n ≤ m) {x : Ce} (hx : x.lt n) : x.lt m := by
  cases x <;> simp only [Ce.lt] at hx ⊢ <;> omega
theorem SV.lt_mono {n m : Nat} (h : n ≤ m) {x : SV} (hx : x.lt n) : x.lt m := by
  cases x with
  | c x => exact Ce.lt_mono h hx
  | agg cs => exact fun x hm => Ce.lt_mono h (hx x hm)
  | tup vs => trivial
  | kb b => trivial
  | tps vs => exact fun p hp x hm => Ce.lt_mono h (hx p hp x hm)
theorem Ce.den_agree {n : Nat} {β β' : Nat → Nat} (h : agree n β β') {x : Ce} (hx : x.lt n) : x.den β' = x.den β := by
  cases x with
  | v x => rfl
  | loc l o => simp [Ce.den, h l hx]
  | locs l o n c => simp [Ce.den, h l hx]
  | ifl t l o => simp [Ce.den, h l hx]
  | gro l o n e => simp only [Ce.lt] at hx; simp [Ce.den, h l (by omega), h (l + 1) hx]
  | tl l o n z e => simp only [Ce.lt] at hx; simp [Ce.den, h l (by omega), h (l + 1) hx]
theorem dens_agree {n : Nat} {β β' : Nat → Nat} (h : agree n β β') {cs : List Ce} (hx : ∀ x ∈ cs, x.lt n) : cs.map (Ce.den β') = cs.map (Ce.den β) :=
  List.map_congr_left fun x hm => Ce.den_agree h (hx x hm)
theorem tpDen_agree {n : Nat} {β β' : Nat → Nat} (h : agree n β β') : ∀ {p : Bool × List Ce}, (∀ x ∈ p.2, x.lt n) → tpDen β' p = tpDen β p
  | (true, cs), hx => by simp only [tpDen]; rw [dens_agree h hx]
  | (false, []), _ => rfl
  | (false, [x]), hx => Ce.den_agree h (hx x (by simp))
  | (false, _ :: _ :: _), _ => rfl
theorem SV.den_agree {n : Nat} {β β' : Nat → Nat} (h : agree n β β') {x : SV} (hx : x.lt n) : x.den β' = x.den β := by
  cases x with
  | c x => exact Ce.den_agree h hx
  | agg cs => simp only [SV.den]; rw [dens_agree h hx]
  | tup vs => rfl
  | kb b => rfl
  | tps vs =>
    simp only [SV.den]
    rw [List.map_congr_left fun p hp => tpDen_agree h (hx p hp)]
theorem Ce.lt_no {n l : Nat} (h : n ≤ l) {x : Ce} (hx : x.lt n) : x.no l = true := by
  have hb : ∀ k, k < n → Nat.beq k l = false := fun k hk => by rw [← Bool.not_eq_true, Nat.beq_eq]; omega
  cases x with
  | v x => rfl
  | loc k o => simp [Ce.no, hb k hx]
  | locs k o n c => simp [Ce.no, hb k hx]
  | ifl t k o => simp [Ce.no, hb k hx]
  | gro k o n e =>
    simp only [Ce.lt] at hx
    simp only [Ce.no, hb k (by omega), hb (k + 1) hx]
    rfl
  | tl k o n z e =>
    simp only [Ce.lt] at hx
    simp only [Ce.no, hb k (by omega), hb (k + 1) hx]
    rfl
theorem lts_no {n l : Nat} (h : n ≤ l) : ∀ {cs : List Ce}, (∀ x ∈ cs, x.lt n) → allNo l cs = true
  | [], _ => rfl
  | x :: r, hx => by
    unfold allNo
    rw [Ce.lt_no h (hx x (by simp))]
    exact lts_no h fun y hy => hx y (by simp [hy])
theorem tps_no {n l : Nat} (h : n ≤ l) : ∀ {vs : List (Bool × List Ce)}, (∀ p ∈ vs, ∀ x ∈ p.2, x.lt n) → tpsNo l vs = true
  | [], _ => rfl
  | (b, cs) :: r, hx => by
    unfold tpsNo
    rw [lts_no h (hx (b, cs) (by simp))]
    exact tps_no h fun p hp => hx p (by simp [hp])
theorem SV.lt_no {n l : Nat} (h : n ≤ l) {x : SV} (hx : x.lt n) : x.no l = true := by
  cases x with
  | c x => exact Ce.lt_no h hx
  | agg cs => exact lts_no h hx
  | tup vs => rfl
  | kb b => rfl
  | tps vs => exact tps_no h hx

/-! ### Blocks that may grow -/
/-- A label, the elements' type, how many there are, how many cells each has, the cells. -/
abbrev GMem := List (Nat × Nat × Nat × Nat × List Ce)
def grSP (β : Nat → Nat) (x : Nat × Nat × Nat × Nat × List Ce) : SP :=
  ownS x.2.1 (some ⟨β x.1, 0, none⟩) x.2.2.1 (β (x.1 + 1)) x.2.2.2.1 (x.2.2.2.2.map (Ce.den β))
def gmRes (β : Nat → Nat) (gm : GMem) : Res := gm.map fun x => (x.1, grSP β x)
def gmSP (β : Nat → Nat) (gm : GMem) : List SP := gm.map (grSP β)
theorem gmRes_snd (β : Nat → Nat) (gm : GMem) : (gmRes β gm).map (·.2) = gmSP β gm := by simp [gmRes, gmSP]

def lookG : GMem → Nat → Option (Nat × Nat × Nat × List Ce)
  | [], _ => none
  | (s, x) :: r, k => match Nat.beq s k with
    | true => some x
    | false => lookG r k
def delG : GMem → Nat → Option GMem
  | [], _ => some []
  | (s, x) :: r, k => match Nat.beq s k with
    | true => some r
    | false => match delG r k with
      | some r' => some ((s, x) :: r')
      | none => none
/-- Other cells, at the same place. -/
def setG : GMem → Nat → List Ce → Option GMem
  | [], _, _ => some []
  | (s, e, n, sz, x) :: r, k, cs => match Nat.beq s k with
    | true => some ((s, e, n, sz, cs) :: r)
    | false => match setG r k cs with
      | some r' => some ((s, e, n, sz, x) :: r')
      | none => none

structure GS where
  env : Env
  mem : Mem
  gm : GMem
  nl : Nat
  low : Nat

def RelG (g : Cx) (β : Nat → Nat) (s : GS) (L : Res) (a : Act) (w : World) : Prop := Rel g β s.env s.mem [] (gmRes β s.gm ++ L) a w

def ltE (n : Nat) (env : Env) : Prop := ∀ t x, look env t = some x → x.lt n
def ltM (n : Nat) (mem : Mem) : Prop := ∀ e ∈ mem, e.1 < n ∧ ∀ x ∈ e.2.2, x.lt n
def ltG (n : Nat) (gm : GMem) : Prop := ∀ e ∈ gm, e.1 + 1 < n ∧ ∀ x ∈ e.2.2.2.2, x.lt n
structure Bd (s : GS) : Prop where
  env : ltE s.nl s.env
  mem : ltM s.nl s.mem
  gm : ltG s.nl s.gm

theorem ltE.mono {n m : Nat} (h : n ≤ m) {env : Env} (k : ltE n env) : ltE m env := fun t x hx => SV.lt_mono h (k t x hx)
theorem ltM.mono {n m : Nat} (h : n ≤ m) {mem : Mem} (k : ltM n mem) : ltM m mem := fun e he => ⟨Nat.lt_of_lt_of_le (k e he).1 h, fun x hx => Ce.lt_mono h ((k e he).2 x hx)⟩
theorem ltG.mono {n m : Nat} (h : n ≤ m) {gm : GMem} (k : ltG n gm) : ltG m gm := fun e he => ⟨Nat.lt_of_lt_of_le (k e he).1 h, fun x hx => Ce.lt_mono h ((k e he).2 x hx)⟩

theorem memSP_agree {n : Nat} {β β' : Nat → Nat} (h : agree n β β') {mem : Mem} (k : ltM n mem) : memSP β' mem = memSP β mem := by
  unfold memSP
  refine List.map_congr_left fun e he => ?_
  rw [h _ (k e he).1]
  unfold cellsOf
  rw [dens_agree h (k e he).2]
theorem grSP_agree {n : Nat} {β β' : Nat → Nat} (h : agree n β β') {e : Nat × Nat × Nat × Nat × List Ce} (k : e.1 + 1 < n ∧ ∀ x ∈ e.2.2.2.2, x.lt n) : grSP β' e = grSP β e := by
  unfold grSP
  rw [h _ (by omega), h _ k.1, dens_agree h k.2]
theorem gmSP_agree {n : Nat} {β β' : Nat → Nat} (h : agree n β β') {gm : GMem} (k : ltG n gm) : gmSP β' gm = gmSP β gm :=
  List.map_congr_left fun e he => grSP_agree h (k e he)
theorem gmRes_agree {n : Nat} {β β' : Nat → Nat} (h : agree n β β') {gm : GMem} (k : ltG n gm) : gmRes β' gm = gmRes β gm := by
  unfold gmRes
  exact List.map_congr_left fun e he => by rw [grSP_agree h (k e he)]

theorem lookM_mem : ∀ {mem : Mem} {l : Nat} {x : Nat × List Ce}, lookM mem l = some x → (l, x) ∈ mem
  | [], _, _, h => by cases h
  | (s, y) :: r, l, x, h => by
    rw [lookM_cons] at h
    split at h
    · rename_i e; subst e; cases h; simp
    · exact List.mem_cons_of_mem _ (lookM_mem h)
theorem lookG_cons (s k : Nat) (x : Nat × Nat × Nat × List Ce) (r : GMem) : lookG ((s, x) :: r) k = if s = k then some x else lookG r k := by
  simp only [lookG]
  by_cases e : s = k
  · subst e; simp
  · have : Nat.beq s k = false := by rw [← Bool.not_eq_true, Nat.beq_eq]; exact e
    simp [this, e]
theorem lookG_mem : ∀ {gm : GMem} {l : Nat} {x : Nat × Nat × Nat × List Ce}, lookG gm l = some x → (l, x) ∈ gm
  | [], _, _, h => by cases h
  | (s, y) :: r, l, x, h => by
    rw [lookG_cons] at h
    split at h
    · rename_i e; subst e; cases h; simp
    · exact List.mem_cons_of_mem _ (lookG_mem h)

theorem ltE_fresh {n l : Nat} (h : n ≤ l) : ∀ {env : Env}, (∀ e ∈ env, e.2.lt n) → freshE l env = true
  | [], _ => rfl
  | (s, x) :: r, k => by
    unfold freshE
    rw [SV.lt_no h (k (s, x) (by simp))]
    exact ltE_fresh h fun e he => k e (by simp [he])
theorem ltM_fresh {n l : Nat} (h : n ≤ l) : ∀ {mem : Mem}, ltM n mem → freshM l mem = true
  | [], _ => rfl
  | (s, t, cs) :: r, k => by
    have k1 := k (s, t, cs) (by simp)
    unfold freshM
    have : Nat.beq s l = false := by rw [← Bool.not_eq_true, Nat.beq_eq]; have := k1.1; simp at this; omega
    rw [this, lts_no h k1.2]
    exact ltM_fresh h fun e he => k e (by simp [he])

/-- Only what is looked at counts. -/
theorem Rel.envs {g : Cx} {β : Nat → Nat} {env env' : Env} {mem : Mem} {bnd : Bnd} {L : Res} {a : Act} {w : World} (h : Rel g β env mem bnd L a w) (k : ∀ s x, look env' s = some x → look env s = some x) : Rel g β env' mem bnd L a w :=
  ⟨h.defers, h.size, fun s x hx => h.env s x (k s x hx), h.bnd, h.os, h.tape, h.output, h.sat⟩

/-- A slot gets another value: the row of slots is made anew. -/
def putR : Env → Nat → SV → Option Env
  | [], d, x => some [(d, x)]
  | (s, y) :: r, d, x => match Nat.beq s d with
    | true => some ((d, x) :: r)
    | false => match putR r d x with
      | some r' => some ((s, y) :: r')
      | none => none
theorem putR_look : ∀ {env env' : Env} {d : Nat} {x : SV}, putR env d x = some env' → ∀ s, look env' s = if d = s then some x else look env s
  | [], env', d, x, h, s => by
    simp only [putR, Option.some.injEq] at h
    subst h
    rw [look_cons]
  | (k, y) :: r, env', d, x, h, s => by
    simp only [putR] at h
    split at h
    · rename_i hb
      obtain rfl : k = d := Nat.eq_of_beq_eq_true hb
      cases h
      rw [look_cons, look_cons]
      by_cases e : k = s <;> simp [e]
    · rename_i hb
      have hne : k ≠ d := by intro e; subst e; simp at hb
      split at h
      · rename_i r' hr
        cases h
        rw [look_cons, look_cons, putR_look hr]
        by_cases e : k = s
        · subst e; simp [Ne.symm hne]
        · simp [e]
      · cases h
def putO (d : Option Nat) (x : SV) (env : Env) : Option Env :=
  match d with
  | some d => putR env d x
  | none => some env
theorem putO_look {d : Option Nat} {x : SV} {env env' : Env} (h : putO d x env = some env') (s : Nat) : look env' s = look (putE d x env) s := by
  cases d with
  | none => cases h; rfl
  | some d => rw [putR_look h]; simp [putE, look_cons]
theorem Rel.putO {g : Cx} {β : Nat → Nat} {env env' : Env} {mem : Mem} {bnd : Bnd} {L : Res} {a : Act} {w : World} (h : Rel g β env mem bnd L a w) {d : Option Tmp} {x : SV} (hd : dstOk g.n d = true) (hp : Ytngfadijcpnblaa.putO d x env = some env') : Rel g β env' mem bnd L (a.put d (x.den β)) w :=
  (h.put d x hd).envs fun s y hy => by rw [putO_look hp] at hy; exact hy
theorem ltE.putO {n : Nat} {env env' : Env} {d : Option Nat} {x : SV} (h : ltE n env) (hx : x.lt n) (hp : Ytngfadijcpnblaa.putO d x env = some env') : ltE n env' := by
  intro t y hy
  rw [putO_look hp] at hy
  cases d with
  | none => exact h t y hy
  | some d =>
    simp only [putE, look_cons] at hy
    split at hy
    · cases hy; exact hx
    · exact h t y hy

/-- Memories that have all that a former one had, and new blocks. -/
def Keeps (b : Nat) (s s' : GS) : Prop := ∀ (m0 : Mem) (g0 : GMem), (∃ n1, s.mem = n1 ++ m0 ∧ ∀ e ∈ n1, b ≤ e.1) → (∃ n2, s.gm = n2 ++ g0 ∧ ∀ e ∈ n2, b ≤ e.1) → (∀ e ∈ m0, e.1 < b) → (∀ e ∈ g0, e.1 < b) →
  (∃ n1, s'.mem = n1 ++ m0 ∧ ∀ e ∈ n1, b ≤ e.1) ∧ (∃ n2, s'.gm = n2 ++ g0 ∧ ∀ e ∈ n2, b ≤ e.1)
theorem Keeps.refl (b : Nat) (s : GS) : Keeps b s s := fun _ _ h1 h2 _ _ => ⟨h1, h2⟩
theorem Keeps.trans {b : Nat} {s s' s'' : GS} (h : Keeps b s s') (k : Keeps b s' s'') : Keeps b s s'' := fun m0 g0 h1 h2 h3 h4 => (let ⟨a, c⟩ := h m0 g0 h1 h2 h3 h4; k m0 g0 a c h3 h4)
theorem Keeps.of_eq {b : Nat} {s s' : GS} (h : s'.mem = s.mem) (k : s'.gm = s.gm) : Keeps b s s' := fun _ _ h1 h2 _ _ => ⟨by rw [h]; exact h1, by rw [k]; exact h2⟩
end Go.Proofs.Ytngfadijcpnblaa

/- The evaluator: more operations that leave memory as it is. -/
namespace Go.Proofs.Ytngfadijcpnblaa
open Go.RowKit

/-- What an interface value holds. -/
def ifaceOf : SV → Option (TypeId × Ce)
  | .c (.ifl t l o) => some (t, .loc l o)
  | .c (.v (.iface t v)) => match plain v with
    | true => some (t, .v v)
    | false => none
  | _ => none
theorem ifaceOf_den {x : SV} {t : TypeId} {c : Ce} (h : ifaceOf x = some (t, c)) (β : Nat → Nat) : x.den β = .iface t (c.den β) := by
  unfold ifaceOf at h
  split at h
  · cases h; rfl
  · split at h <;> cases h
    rfl
  · cases h
def isNilI : SV → Bool
  | .c (.v .nilIface) => true
  | _ => false
theorem isNilI_den {x : SV} (h : isNilI x = true) (β : Nat → Nat) : x.den β = .nilIface := by
  unfold isNilI at h
  split at h
  · rfl
  · cases h
def isNilS : SV → Bool
  | .c (.v (.slice none _ _)) => true
  | _ => false
theorem isNilS_den {x : SV} (h : isNilS x = true) (β : Nat → Nat) : ∃ n c, x.den β = .slice none n c := by
  unfold isNilS at h
  split at h
  · exact ⟨_, _, rfl⟩
  · cases h
/-- A slice of a block with a label: the label, the place of its first cell, its length. -/
def rowOf : SV → Option (Nat × Nat × Nat)
  | .c (.locs l o n _) => some (l, o, n)
  | .c (.gro l o n _) => some (l, o, n)
  | _ => none
theorem rowOf_den {x : SV} {l o n : Nat} (h : rowOf x = some (l, o, n)) (β : Nat → Nat) : ∃ c, x.den β = .slice (some ⟨β l, o, none⟩) n c := by
  unfold rowOf at h
  split at h
  · cases h; exact ⟨_, rfl⟩
  · cases h; exact ⟨_, rfl⟩
  · cases h
/-- Of two that are held against each other: the answer, as the operation says it. -/
def eqOut (op : BinOp) (b : Bool) : Out :=
  match op with
  | .eql => .val (.c (.v (.bool b)))
  | .neq => .val (.c (.v (.bool (!b))))
  | _ => .no
def intB (op : BinOp) (k : IntKind) (a b : Int) : Out :=
  match op with
  | .quo => match b with
    | .ofNat 0 => .no
    | _ => .ar k (a.tdiv b)
  | .rem => match b with
    | .ofNat 0 => .no
    | _ => .val (.c (.v (.int k (a.tmod b))))
  | .and => .ar k (BitVec.ofInt k.bits a &&& BitVec.ofInt k.bits b).toNat
  | .or => .ar k (BitVec.ofInt k.bits a ||| BitVec.ofInt k.bits b).toNat
  | .xor => .ar k (BitVec.ofInt k.bits a ^^^ BitVec.ofInt k.bits b).toNat
  | .andNot => .ar k (BitVec.ofInt k.bits a &&& ~~~ BitVec.ofInt k.bits b).toNat
  | _ => .no
def shiftB (op : BinOp) (k : IntKind) (a : Int) (b : Int) : Out :=
  match b with
  | .negSucc _ => .no
  | .ofNat n => match op with
    | .shl => .ar k (a * 2 ^ (min n k.bits))
    | .shr => .val (.c (.v (.int k (a.fdiv (2 ^ (min n k.bits))))))
    | _ => .no
def strB (op : BinOp) (a b : ByteArray) : Out :=
  match op with
  | .add => match Nat.ble (a.size + b.size) 9223372036854775807 with
    | true => .val (.c (.v (.string (a ++ b))))
    | false => .no
  | .lss => .val (.c (.v (.bool (Op.bytesLess a.toList b.toList))))
  | .leq => .val (.c (.v (.bool (Op.bytesLess a.toList b.toList || (a.toList == b.toList)))))
  | .gtr => .val (.c (.v (.bool (!(Op.bytesLess a.toList b.toList || (a.toList == b.toList))))))
  | .geq => .val (.c (.v (.bool (!Op.bytesLess a.toList b.toList))))
  | _ => .no
/-- Two interface values that hold something. -/
def eqI (P : Program) (op : BinOp) (tx ty : TypeId) (cx cy : Ce) : Out :=
  match Nat.beq tx ty with
  | false => eqOut op false
  | true => match P.underlying tx with
    | some (.int _) => match P.info? tx with
      | some i => match i.comparable with
        | true => match cx, cy with
          | .v (.int k a), .v (.int k' b) => match kEq k k' with
            | true => eqOut op (a == b)
            | false => .no
          | _, _ => .no
        | false => .no
      | none => .no
    | _ => .no
def binY (P : Program) (op : BinOp) (t : TypeId) (x y : SV) : Out :=
  match x, y with
  | .c (.v (.int k a)), .c (.v (.int k' b)) => match op with
    | .shl => shiftB .shl k a b
    | .shr => shiftB .shr k a b
    | op => match kEq k k' with
      | true => intB op k a b
      | false => .no
  | .c (.v (.string a)), .c (.v (.string b)) => strB op a b
  | x, y => match P.underlying t with
    | some (.interface _) => match ifaceOf x with
      | some (tx, cx) => match isNilI y with
        | true => eqOut op false
        | false => match ifaceOf y with
          | some (ty, cy) => eqI P op tx ty cx cy
          | none => .no
      | none => match isNilI x with
        | true => match ifaceOf y with
          | some _ => eqOut op false
          | none => .no
        | false => .no
    | some (.slice _) => match rowOf x with
      | some _ => match isNilS y with
        | true => eqOut op false
        | false => .no
      | none => .no
    | _ => .no

section
variable {P : Program} {op : BinOp} {t : TypeId} {xo yo : Operand} {β : Nat → Nat} {w : World}

abbrev BinRun (P : Program) (op : BinOp) (t : TypeId) (xo yo : Operand) (x y : Value) : Sem Next := do pure (.value (← (do eqGuard op t xo yo x y; binOp op t x y)))

theorem eqOut_ok {x y : Value} {b : Bool} (hg : eqGuard op t xo yo x y = pure ()) (he : (Op.equal t x y).run P w = .ok b w)
    (h1 : ∀ op', op' = .eql ∨ op' = .neq → binOp op' t x y = (match op' with | .eql => (do pure (.bool (← Op.equal t x y))) | _ => (do pure (.bool (!(← Op.equal t x y)))))) : OutOk P β (BinRun P op t xo yo x y) w (eqOut op b) := by
  cases op <;> try exact trivial
  · have := h1 .eql (.inl rfl)
    exact bin_run hg (by rw [this]; simp [he]; rfl)
  · have := h1 .neq (.inr rfl)
    exact bin_run hg (by rw [this]; simp [he]; rfl)

theorem intB_ok {k : IntKind} {a b : Int} : OutOk P β (BinRun P op t xo yo (.int k a) (.int k b)) w (intB op k a b) := by
  have hg : eqGuard op t xo yo (.int k a) (.int k b) = pure () := eqGuard_other _ _ _ _ _ _ rfl
  cases op <;> try exact trivial
  case quo =>
    simp only [intB]
    split
    · exact trivial
    · rename_i hb
      have h0 : ¬ b = 0 := fun e => hb (by rw [e]; rfl)
      exact bin_run hg (by simp [binOp, Op.intDiv, h0])
  case rem =>
    simp only [intB]
    split
    · exact trivial
    · rename_i hb
      have h0 : ¬ b = 0 := fun e => hb (by rw [e]; rfl)
      exact bin_run hg (by simp [binOp, Op.intDiv, h0]; rfl)
  all_goals exact bin_run hg (by simp [binOp, Op.intBits])

theorem shiftB_ok {k yk : IntKind} {a b : Int} (hop : op = .shl ∨ op = .shr) : OutOk P β (BinRun P op t xo yo (.int k a) (.int yk b)) w (shiftB op k a b) := by
  have hg : eqGuard op t xo yo (.int k a) (.int yk b) = pure () := eqGuard_other _ _ _ _ _ _ rfl
  unfold shiftB
  split
  · exact trivial
  · rename_i n
    rcases hop with rfl | rfl
    · exact bin_run hg (by simp [binOp, Op.shift]; intro hbad; omega)
    · exact bin_run hg (by simp [binOp, Op.shift, SV.den, Ce.den]; intro hbad; omega)

theorem strB_ok {a b : ByteArray} : OutOk P β (BinRun P op t xo yo (.string a) (.string b)) w (strB op a b) := by
  have hg : eqGuard op t xo yo (.string a) (.string b) = pure () := eqGuard_other _ _ _ _ _ _ rfl
  cases op <;> try exact trivial
  case add =>
    simp only [strB]
    split
    · rename_i hb
      have hle : a.size + b.size ≤ 9223372036854775807 := by simpa using hb
      refine bin_run hg ?_
      have : ¬ ((a.size + b.size : Nat) : Int) > IntKind.i64.max := by
        have : IntKind.i64.max = 9223372036854775807 := by decide
        omega
      simp only [binOp, Op.stringOp]
      rw [if_neg this]
      rfl
    · exact trivial
  all_goals exact bin_run hg (by simp [binOp, Op.stringOp, SV.den, Ce.den])

theorem iface_guard {tx : TypeId} {vx v : Value} : eqGuard op t xo yo (.iface tx vx) v = pure () := by
  cases v <;> exact eqGuard_other _ _ _ _ _ _ rfl
theorem iface_guard' {tx : TypeId} {vx : Value} : eqGuard op t xo yo .nilIface (.iface tx vx) = pure () := eqGuard_other _ _ _ _ _ _ rfl
theorem iface_op {tx : TypeId} {vx v : Value} (hv : v = .nilIface ∨ ∃ ty vy, v = .iface ty vy) : ∀ op', op' = .eql ∨ op' = .neq → binOp op' t (.iface tx vx) v = (match op' with | .eql => (do pure (.bool (← Op.equal t (.iface tx vx) v))) | _ => (do pure (.bool (!(← Op.equal t (.iface tx vx) v))))) := by
  rintro op' (rfl | rfl) <;> rcases hv with rfl | ⟨ty, vy, rfl⟩ <;> rfl

theorem eqI_ok {ms : Array (String × TypeId)} (hu : P.underlying t = some (.interface ms)) {tx ty : TypeId} {cx cy : Ce} : OutOk P β (BinRun P op t xo yo (.iface tx (cx.den β)) (.iface ty (cy.den β))) w (eqI P op tx ty cx cy) := by
  unfold eqI
  split
  · rename_i hb
    have hne : tx ≠ ty := by intro e; subst e; simp at hb
    refine eqOut_ok iface_guard ?_ (iface_op (.inr ⟨_, _, rfl⟩))
    have h : ∀ d, (Op.equalIn (d + 1) t (.iface tx (cx.den β)) (.iface ty (cy.den β))).run P w = .ok false w := fun d => by simp [Op.equalIn, run_underlying hu, hne]
    exact h 9999
  · rename_i hb
    obtain rfl : tx = ty := Nat.eq_of_beq_eq_true hb
    split <;> try exact trivial
    rename_i ki hk
    split <;> try exact trivial
    rename_i i hi
    split <;> try exact trivial
    rename_i hc
    split <;> try exact trivial
    rename_i k a k' b
    split <;> try exact trivial
    rename_i hkk
    obtain rfl := kEq_eq hkk
    refine eqOut_ok iface_guard ?_ (iface_op (.inr ⟨_, _, rfl⟩))
    have h : ∀ d, (Op.equalIn (d + 1 + 1) t (.iface tx (.int k a)) (.iface tx (.int k b))).run P w = .ok (a == b) w := fun d => by simp [Op.equalIn, run_underlying hu, run_underlying hk, typeInfo, hi, hc]
    exact h 9998

theorem binY_ok {x y : SV} : OutOk P β (BinRun P op t xo yo (x.den β) (y.den β)) w (binY P op t x y) := by
  unfold binY
  split
  · split
    · exact shiftB_ok (.inl rfl)
    · exact shiftB_ok (.inr rfl)
    · split
      · rename_i hk
        obtain rfl := kEq_eq hk
        exact intB_ok
      · exact trivial
  · exact strB_ok
  · split <;> try exact trivial
    · rename_i ms hu
      split
      · rename_i tx cx hx
        rw [ifaceOf_den hx]
        split
        · rename_i hy
          rw [isNilI_den hy]
          exact eqOut_ok iface_guard (equal_iface hu _ _ _) (iface_op (.inl rfl))
        · split <;> try exact trivial
          rename_i ty cy hy
          rw [ifaceOf_den hy]
          exact eqI_ok hu
      · split <;> try exact trivial
        rename_i hx
        split <;> try exact trivial
        rename_i q hy
        obtain ⟨ty, cy⟩ := q
        rw [isNilI_den hx, ifaceOf_den hy]
        refine eqOut_ok iface_guard' ?_ ?_
        · have h : ∀ d, (Op.equalIn (d + 1) t .nilIface (.iface ty (cy.den β))).run P w = .ok false w := fun d => by simp [Op.equalIn, run_underlying hu]
          exact h 9999
        · rintro op' (rfl | rfl) <;> rfl
    · rename_i e hu
      split <;> try exact trivial
      rename_i q hx
      split <;> try exact trivial
      rename_i hy
      obtain ⟨l, o, n⟩ := q
      obtain ⟨c, hx⟩ := rowOf_den hx β
      obtain ⟨n', c', hy⟩ := isNilS_den hy β
      rw [hx, hy]
      refine eqOut_ok (eqGuard_other _ _ _ _ _ _ rfl) (equal_slice hu _ _ _ _ _ _) ?_
      rintro op' (rfl | rfl) <;> rfl
end

/-! ### Structs held against each other -/
def partV (P : Program) (t : TypeId) (cs : Array Value) (o : Nat) : Option Value :=
  match aggOf P t with
  | .one => getL cs.toList o
  | .many n => some (.agg (cs.extract o (o + n)))
  | .no => none
theorem partV_ok {P : Program} {t : TypeId} {cs : Array Value} {o : Nat} {v : Value} (h : partV P t cs o = some v) (w : World) : (part t cs o).run P w = .ok v w := by
  unfold partV at h
  split at h
  · rename_i ha
    rw [getL_eq, Array.getElem?_toList] at h
    simp [part, aggOf_one ha, h]
  · rename_i n ha
    cases h
    obtain ⟨h1, h2⟩ := aggOf_many ha w
    simp [part, h1, h2]
  · cases h
def eqF (P : Program) (E : TypeId → Value → Value → Option Bool) (xs ys : Array Value) : List Field → Option Bool
  | [] => some true
  | f :: r => match f.name == "_" with
    | true => eqF P E xs ys r
    | false => match partV P f.type xs f.offset with
      | some a => match partV P f.type ys f.offset with
        | some b => match E f.type a b with
          | some true => eqF P E xs ys r
          | some false => some false
          | none => none
        | none => none
      | none => none
def eqV (P : Program) : Nat → TypeId → Value → Value → Option Bool
  | 0, _, _, _ => none
  | d + 1, t, x, y => match P.underlying t with
    | some .bool => match x, y with
      | .bool a, .bool b => some (a == b)
      | _, _ => none
    | some (.int _) => match x, y with
      | .int k a, .int k' b => match kEq k k' with
        | true => some (a == b)
        | false => none
      | _, _ => none
    | some .string => match x, y with
      | .string a, .string b => some (a.toList == b.toList)
      | _, _ => none
    | some (.struct _) => match x, y with
      | .agg xs, .agg ys => match P.stoodInHeld t with
        | false => eqF P (fun t a b => eqV P d t a b) xs ys (P.fieldsOf t).toList
        | true => none
      | _, _ => none
    | _ => none
theorem eqF_ok {P : Program} {E : TypeId → Value → Value → Option Bool} {d : Nat} {w : World} (hE : ∀ t a b r, E t a b = some r → (Op.equalIn d t a b).run P w = .ok r w) (xs ys : Array Value) :
    ∀ (fs : List Field) (r : Bool), eqF P E xs ys fs = some r → (Op.eqFields d xs ys fs).run P w = .ok r w
  | [], r, h => by cases h; simp [Op.eqFields]
  | f :: fs, r, h => by
    simp only [eqF] at h
    simp only [Op.eqFields]
    split at h
    · rename_i hn
      have hn' : f.name = "_" := by simpa using hn
      rw [if_neg (by simp [hn'])]
      exact eqF_ok hE xs ys fs r h
    · rename_i hn
      have hn' : f.name ≠ "_" := by simpa using hn
      rw [if_pos hn']
      split at h <;> try (cases h; done)
      rename_i a ha
      split at h <;> try (cases h; done)
      rename_i b hb
      split at h <;> try (cases h; done)
      · rename_i he
        simp only [Sem.run_bind, partV_ok ha, partV_ok hb, hE _ _ _ _ he, Result.andThen_ok]
        exact eqF_ok hE xs ys fs r h
      · rename_i he
        cases h
        simp [Sem.run_bind, partV_ok ha, partV_ok hb, hE _ _ _ _ he, Result.andThen_ok]
theorem eqV_ok {P : Program} {w : World} : ∀ (d : Nat) (t : TypeId) (x y : Value) (r : Bool), eqV P d t x y = some r → (Op.equalIn d t x y).run P w = .ok r w
  | 0, _, _, _, _, h => by cases h
  | d + 1, t, x, y, r, h => by
    unfold eqV at h
    split at h <;> try (cases h; done)
    · rename_i hu
      split at h <;> try (cases h; done)
      cases h
      exact run_equalIn_bool' w d t _ _ hu
    · rename_i hu
      split at h <;> try (cases h; done)
      split at h <;> try (cases h; done)
      rename_i hk
      obtain rfl := kEq_eq hk
      cases h
      exact run_equalIn_int w d t _ _ _ _ hu
    · rename_i hu
      split at h <;> try (cases h; done)
      cases h
      exact run_equalIn_string w d t _ _ hu
    · rename_i fs hu
      split at h <;> try (cases h; done)
      split at h <;> try (cases h; done)
      rename_i hs
      have hf : P.fieldsOf t = fs := by simp [Program.fieldsOf, hu]
      rw [run_equalIn_agg w d t _ _ (by rw [hf]; exact hu) hs]
      exact eqF_ok (fun t a b r hr => eqV_ok d t a b r hr) _ _ _ _ h
/-- Cells that are plain values. -/
def valsC : List Ce → Option (List Value)
  | [] => some []
  | .v x :: r => match valsC r with
    | some ys => some (x :: ys)
    | none => none
  | _ :: _ => none
theorem valsC_den {β : Nat → Nat} : ∀ {cs : List Ce} {vs : List Value}, valsC cs = some vs → cs.map (Ce.den β) = vs
  | [], vs, h => by cases h; rfl
  | x :: r, vs, h => by
    cases x <;> simp only [valsC] at h <;> try (cases h; done)
    split at h <;> cases h
    rename_i ys hr
    rw [List.map_cons, valsC_den hr]
    rfl
def binA (P : Program) (op : BinOp) (t : TypeId) (xs ys : List Ce) : Out :=
  match valsC xs with
  | some vx => match valsC ys with
    | some vy => match P.eqGuardType P.depth t with
      | false => match eqV P 10000 t (.agg vx.toArray) (.agg vy.toArray) with
        | some b => eqOut op b
        | none => .no
      | true => .no
    | none => .no
  | none => .no
theorem binA_ok {P : Program} {op : BinOp} {t : TypeId} {xo yo : Operand} {β : Nat → Nat} {w : World} {xs ys : List Ce} : OutOk P β (BinRun P op t xo yo ((SV.agg xs).den β) ((SV.agg ys).den β)) w (binA P op t xs ys) := by
  unfold binA
  split <;> try exact trivial
  rename_i vx hx
  split <;> try exact trivial
  rename_i vy hy
  split <;> try exact trivial
  rename_i hg
  split <;> try exact trivial
  rename_i b hb
  simp only [SV.den, valsC_den hx, valsC_den hy]
  have he : ∀ w, (Op.equalIn 10000 t (.agg vx.toArray) (.agg vy.toArray)).run P w = .ok b w := fun w => eqV_ok _ _ _ _ _ hb
  cases op <;> try exact trivial
  · have := run_eqS (xo := xo) (yo := yo) (op := .eql) hg he (.inl rfl) w
    exact this
  · have := run_eqS (xo := xo) (yo := yo) (op := .neq) hg he (.inr rfl) w
    exact this

/-! ### Type assertions -/
def tOf : SV → Option (Bool × List Ce)
  | .c x => some (false, [x])
  | .agg cs => some (true, cs)
  | .kb b => some (false, [.v (.bool b)])
  | _ => none
theorem tOf_den {s : SV} {p : Bool × List Ce} (h : tOf s = some p) (β : Nat → Nat) : tpDen β p = s.den β := by
  cases s <;> simp only [tOf, Option.some.injEq] at h <;> first | (subst h; rfl) | cases h
def zeroC (P : Program) (t : TypeId) : Option (Bool × List Ce) :=
  match P.info? t with
  | some i => match i.zero with
    | some z => match z with
      | .agg a => match valsO a.toList with
        | some cs => some (true, cs)
        | none => none
      | .tuple _ => none
      | x => some (false, [.v x])
    | none => none
  | none => none
theorem zeroC_run {P : Program} {t : TypeId} {p : Bool × List Ce} (h : zeroC P t = some p) (w : World) (β : Nat → Nat) : (zeroValue t).run P w = .ok (tpDen β p) w := by
  unfold zeroC at h
  cases hi : P.info? t with
  | none => rw [hi] at h; cases h
  | some i =>
    simp only [hi] at h
    cases hz : i.zero with
    | none => simp only [hz] at h; cases h
    | some z =>
      simp only [hz] at h
      have e : (Ce.den β ∘ Ce.v) = id := rfl
      have hr : (zeroValue t).run P w = .ok z w := by simp [zeroValue, typeInfo, hi, hz]
      rw [hr]
      cases z <;> simp [valsO_eq] at h <;> subst h <;> simp [tpDen, Ce.den, e]
def holdsT (ok : Bool) (s : SV) : Out :=
  match ok with
  | false => .val s
  | true => match tOf s with
    | some p => .val (.tps [p, (false, [.v (.bool true)])])
    | none => .no
def failsT (P : Program) (t : TypeId) (ok : Bool) : Out :=
  match ok with
  | false => .no
  | true => match zeroC P t with
    | some p => .val (.tps [p, (false, [.v (.bool false)])])
    | none => .no
def assertY (P : Program) (x : SV) (t : TypeId) (ok : Bool) : Out :=
  match P.underlying t with
  | some (.interface want) => match isNilI x with
    | true => failsT P t ok
    | false => match ifaceOf x with
      | some (tx, _) => match P.info? tx with
        | some i => match lacking want i.methods with
          | [] => holdsT ok x
          | _ :: _ => failsT P t ok
        | none => .no
      | none => .no
  | some _ => match isNilI x with
    | true => failsT P t ok
    | false => match ifaceOf x with
      | some (tx, c) => match Nat.beq tx t with
        | true => holdsT ok (.c c)
        | false => failsT P t ok
      | none => .no
  | none => .no
theorem vOut {P : Program} {β : Nat → Nat} {s : Sem Value} {w : World} {x : SV} (h : s.run P w = .ok (x.den β) w) : OutOk P β (do pure (.value (← s))) w (.val x) := by
  show (do pure (Next.value (← s)) : Sem Next).run P w = _
  simp [h]
theorem assertY_ok {P : Program} {β : Nat → Nat} {w : World} {x : SV} {xt t : TypeId} {ok : Bool} : OutOk P β (do pure (.value (← Instr.typeAssert (x.den β) xt t ok))) w (assertY P x t ok) := by
  have hold : ∀ (s : SV) (v : Value), s.den β = v → ∀ (A : Sem Value), A.run P w = .ok (if ok then .tuple #[v, .bool true] else v) w → OutOk P β (do pure (.value (← A))) w (holdsT ok s) := by
    intro s v hv A hA
    unfold holdsT
    split
    · exact vOut (by rw [hA, hv]; rfl)
    · split
      · rename_i p hp
        exact vOut (by
          rw [hA]
          have e : (SV.tps [p, (false, [.v (.bool true)])]).den β = .tuple #[tpDen β p, .bool true] := rfl
          rw [e, tOf_den hp, hv]
          rfl)
      · exact trivial
  have fail : ∀ (A : Sem Value), (ok = true → ∀ z, (zeroValue t).run P w = .ok z w → A.run P w = .ok (.tuple #[z, .bool false]) w) → OutOk P β (do pure (.value (← A))) w (failsT P t ok) := by
    intro A hA
    unfold failsT
    split
    · exact trivial
    · split
      · rename_i p hp
        exact vOut (by rw [hA rfl _ (zeroC_run hp w β)]; rfl)
      · exact trivial
  unfold assertY
  split
  · rename_i want hu
    split
    · rename_i hx
      rw [isNilI_den hx]
      exact fail _ fun hok z hz => by simp [Instr.typeAssert, run_underlying hu, hok, hz]
    · split <;> try exact trivial
      rename_i tx c hx
      rw [ifaceOf_den hx]
      split <;> try exact trivial
      rename_i i hi
      split
      · rename_i hm0
        have hm := missingMethod_none hm0
        exact hold x _ (ifaceOf_den hx β) _ (by simp [Instr.typeAssert, run_underlying hu, typeInfo, hi, hm])
      · rename_i m ms hm0
        obtain ⟨m', hm⟩ := missingMethod_some (want := want) (got := i.methods) (by rw [hm0]; simp)
        exact fail _ fun hok z hz => by simp [Instr.typeAssert, run_underlying hu, typeInfo, hi, hm, hok, hz]
  · rename_i d hd hu
    split
    · rename_i hx
      rw [isNilI_den hx]
      refine fail _ fun hok z hz => ?_
      cases d <;> first | (exact absurd rfl (hd _)) | (simp [Instr.typeAssert, run_underlying hu, hok, hz])
    · split <;> try exact trivial
      rename_i tx c hx
      rw [ifaceOf_den hx]
      split
      · rename_i hb
        obtain rfl : tx = t := Nat.eq_of_beq_eq_true hb
        refine hold (.c c) _ rfl _ ?_
        cases d <;> first | (exact absurd rfl (hd _)) | (simp [Instr.typeAssert, run_underlying hu, SV.den])
      · rename_i hb
        have hne : ¬ tx = t := by intro e; subst e; simp at hb
        refine fail _ fun hok z hz => ?_
        cases d <;> first | (exact absurd rfl (hd _)) | (simp [Instr.typeAssert, run_underlying hu, hne, hok, hz])
  · exact trivial

/-! ### Elements, parts of slices -/
def idxY (P : Program) (t : TypeId) (x : SV) (iv : Int) : Out :=
  match iv with
  | .negSucc _ => .no
  | .ofNat j => match P.underlying t with
    | some (.slice e) => match P.info? e with
      | some ei => match rowOf x with
        | some (l, o, n) => match Nat.blt j n with
          | true => .val (.c (.loc l (addN o (j * ei.size))))
          | false => .no
        | none => .no
      | none => .no
    | some (.array n e) => match P.info? e with
      | some ei => match x with
        | .c (.loc l o) => match Nat.blt j n with
          | true => .val (.c (.loc l (addN o (j * ei.size))))
          | false => .no
        | .c (.v (.pointer (some ⟨b, o, none⟩))) => match Nat.blt j n with
          | true => .val (.c (.v (.pointer (some ⟨b, addN o (j * ei.size), none⟩))))
          | false => .no
        | _ => .no
      | none => .no
    | _ => .no
theorem idxY_ok {P : Program} {β : Nat → Nat} {w : World} {x : SV} {t : TypeId} {k : IntKind} {iv : Int} : OutOk P β (do pure (.value (← Instr.indexAt t (x.den β) (.int k iv)))) w (idxY P t x iv) := by
  unfold idxY
  split
  · exact trivial
  · rename_i j
    split <;> try exact trivial
    · rename_i e hu
      split <;> try exact trivial
      rename_i ei hi
      split <;> try exact trivial
      rename_i l o n hx
      split <;> try exact trivial
      rename_i hb
      have hlt : j < n := by simpa [Nat.blt_eq] using hb
      obtain ⟨c, hx⟩ := rowOf_den hx β
      rw [hx]
      refine vOut ?_
      have h1 : (0 : Int) ≤ Int.ofNat j ∧ Int.ofNat j < n := ⟨Int.natCast_nonneg j, Int.ofNat_lt.2 hlt⟩
      simp only [Instr.indexAt, asIntOf, Sem.run_bind, Sem.run_pure, Result.andThen_ok, run_underlying hu]
      simp [h1, sizeOf, typeInfo, hi, add_plain', SV.den, Ce.den, addN_eq, hlt]
    · rename_i n e hu
      split <;> try exact trivial
      rename_i ei hi
      split <;> try exact trivial
      all_goals
        rename_i l o
        split <;> try exact trivial
        rename_i hb
        have hlt : j < n := by simpa [Nat.blt_eq] using hb
        refine vOut ?_
        have h1 : (0 : Int) ≤ Int.ofNat j ∧ Int.ofNat j < n := ⟨Int.natCast_nonneg j, Int.ofNat_lt.2 hlt⟩
        simp only [Instr.indexAt, asIntOf, Sem.run_bind, Sem.run_pure, Result.andThen_ok, run_underlying hu]
        simp [h1, sizeOf, typeInfo, hi, add_plain', SV.den, Ce.den, addN_eq, hlt, Instr.sureAddr]
def elmY (P : Program) (t : TypeId) (x : SV) (iv : Int) : Out :=
  match iv with
  | .negSucc _ => .no
  | .ofNat j => match P.underlying t with
    | some (.array n e) => match P.info? e with
      | some ei => match x with
        | .agg cs => match Nat.blt j n with
          | true => match aggOf P e with
            | .one => match getL cs (j * ei.size) with
              | some y => .val (.c y)
              | none => .no
            | .many m => match cutL cs (j * ei.size) m with
              | some ys => .cells ys
              | none => .no
            | .no => .no
          | false => .no
        | _ => .no
      | none => .no
    | some .string => match x with
      | .c (.v (.string s)) => match getL s.data.toList j with
        | some b => .val (.c (.v (.int .u8 b.toNat)))
        | none => .no
      | _ => .no
    | _ => .no
theorem elmY_ok {P : Program} {β : Nat → Nat} {w : World} {x : SV} {t : TypeId} {k : IntKind} {iv : Int} : OutOk P β (do pure (.value (← Instr.index t (x.den β) (.int k iv)))) w (elmY P t x iv) := by
  unfold elmY
  split
  · exact trivial
  · rename_i j
    split <;> try exact trivial
    · rename_i n e hu
      split <;> try exact trivial
      rename_i ei hi
      split <;> try exact trivial
      rename_i cs
      split <;> try exact trivial
      rename_i hb
      have hlt : j < n := by simpa [Nat.blt_eq] using hb
      have h1 : (0 : Int) ≤ Int.ofNat j ∧ Int.ofNat j < n := ⟨Int.natCast_nonneg j, Int.ofNat_lt.2 hlt⟩
      split <;> try exact trivial
      · rename_i ha
        split <;> try exact trivial
        rename_i y hy
        refine vOut ?_
        have hp := run_part_one (g := ⟨P, 0, default, 0, fun _ _ => True, [], default, fun _ _ => 0, #[]⟩) (β := β) (w := w) (cs := cs) (o := j * ei.size) (y := y) ha hy
        simp only [Instr.index, asIntOf, Sem.run_bind, Sem.run_pure, Result.andThen_ok, run_underlying hu, SV.den]
        simp only [if_pos h1, Sem.run_bind, sizeOf, typeInfo, run_program, hi, Sem.run_pure, Result.andThen_ok, Sem.run_ite]
        exact hp
      · rename_i m ha
        split <;> try exact trivial
        rename_i ys hy
        have hp := run_part_many (g := ⟨P, 0, default, 0, fun _ _ => True, [], default, fun _ _ => 0, #[]⟩) (β := β) (w := w) (cs := cs) (ys := ys) (o := j * ei.size) (n := m) ha hy
        show (do pure (Next.value (← Instr.index t ((SV.agg cs).den β) (.int k (Int.ofNat j)))) : Sem Next).run P w = _
        have hr : (Instr.index t ((SV.agg cs).den β) (.int k (Int.ofNat j))).run P w = .ok ((SV.agg ys).den β) w := by
          simp only [Instr.index, asIntOf, Sem.run_bind, Sem.run_pure, Result.andThen_ok, run_underlying hu, SV.den]
          simp only [if_pos h1, Sem.run_bind, sizeOf, typeInfo, run_program, hi, Sem.run_pure, Result.andThen_ok, Sem.run_ite]
          exact hp
        simp only [Sem.run_bind, hr, Result.andThen_ok, Sem.run_pure]
    · rename_i hu
      split <;> try exact trivial
      rename_i s
      split <;> try exact trivial
      rename_i b hb
      rw [getL_eq] at hb
      have hlt : j < s.data.toList.length := (List.getElem?_eq_some_iff.1 hb).1
      have hs : s[j]? = some b := by
        have h2 : j < s.size := by
          show j < s.data.size
          rw [← Array.length_toList]
          exact hlt
        rw [getElem?_pos s j h2]
        congr 1
        rw [ByteArray.getElem_eq_getElem_data]
        rw [List.getElem?_eq_getElem hlt] at hb
        simpa using hb
      refine vOut ?_
      simp only [Instr.index, asIntOf, Sem.run_bind, Sem.run_pure, Result.andThen_ok, run_underlying hu, SV.den, Ce.den]
      have h0 : (0 : Int) ≤ Int.ofNat j := Int.natCast_nonneg j
      rw [if_pos h0, show (Int.ofNat j).toNat = j from rfl, hs]
      rfl
end Go.Proofs.Ytngfadijcpnblaa

/- The evaluator: parts of slices and strings; all operations that leave memory as it is. -/
namespace Go.Proofs.Ytngfadijcpnblaa
open Go.RowKit

def BdV : Option Value → Option Nat → Prop
  | none, none => True
  | some (.int _ i), some n => i = (n : Int)
  | _, _ => False
theorem BdV.some {v : Value} {n : Nat} (h : BdV (some v) (some n)) : ∃ k, v = .int k n := by
  cases v <;> simp only [BdV] at h
  subst h
  exact ⟨_, rfl⟩
theorem bound_run {P : Program} {w : World} (k : IntKind) (i j : Nat) (code : BoundsCode) (h : i ≤ j) : (Instr.sliceBound (.int k i) j code).run P w = .ok i w := by
  have : (0 : Int) ≤ i ∧ (i : Int) ≤ j := ⟨by omega, by omega⟩
  simp [Instr.sliceBound, asIntOf, this]
theorem bounds_run {P : Program} {w : World} {isS : Bool} {n c l h m : Nat} {lo hi mx : Option Value} {ln hn mn : Option Nat} (h1 : BdV lo ln) (h2 : BdV hi hn) (h3 : BdV mx mn) (hx : mn.isSome = true → hn.isSome = true)
    (el : ln.getD 0 = l) (eh : hn.getD n = h) (em : mn.getD c = m) (a1 : l ≤ h) (a2 : h ≤ m) (a3 : m ≤ c) : (Instr.sliceBounds isS n c lo hi mx).run P w = .ok (l, h, m) w := by
  cases ln with
  | none =>
    cases lo with
    | some v => simp [BdV] at h1
    | none =>
      simp only [Option.getD_none] at el
      subst el
      cases mn with
      | none =>
        cases mx with
        | some v => simp [BdV] at h3
        | none =>
          simp only [Option.getD_none] at em
          subst em
          cases hn with
          | none =>
            cases hi with
            | some v => simp [BdV] at h2
            | none => simp only [Option.getD_none] at eh; subst eh; simp [Instr.sliceBounds]
          | some q =>
            cases hi with
            | none => simp [BdV] at h2
            | some v =>
              obtain ⟨k, rfl⟩ := h2.some
              simp only [Option.getD_some] at eh
              subst eh
              simp [Instr.sliceBounds, bound_run _ _ _ _ a2]
      | some p =>
        cases mx with
        | none => simp [BdV] at h3
        | some v3 =>
          obtain ⟨k3, rfl⟩ := h3.some
          simp only [Option.getD_some] at em
          subst em
          cases hn with
          | none => simp at hx
          | some q =>
            cases hi with
            | none => simp [BdV] at h2
            | some v =>
              obtain ⟨k, rfl⟩ := h2.some
              simp only [Option.getD_some] at eh
              subst eh
              simp [Instr.sliceBounds, bound_run _ _ _ _ a2, bound_run _ _ _ _ a3]
  | some r =>
    cases lo with
    | none => simp [BdV] at h1
    | some v1 =>
      obtain ⟨k1, rfl⟩ := h1.some
      simp only [Option.getD_some] at el
      subst el
      cases mn with
      | none =>
        cases mx with
        | some v => simp [BdV] at h3
        | none =>
          simp only [Option.getD_none] at em
          subst em
          cases hn with
          | none =>
            cases hi with
            | some v => simp [BdV] at h2
            | none => simp only [Option.getD_none] at eh; subst eh; simp [Instr.sliceBounds, bound_run _ _ _ _ a1]
          | some q =>
            cases hi with
            | none => simp [BdV] at h2
            | some v =>
              obtain ⟨k, rfl⟩ := h2.some
              simp only [Option.getD_some] at eh
              subst eh
              simp [Instr.sliceBounds, bound_run _ _ _ _ a2, bound_run _ _ _ _ a1]
      | some p =>
        cases mx with
        | none => simp [BdV] at h3
        | some v3 =>
          obtain ⟨k3, rfl⟩ := h3.some
          simp only [Option.getD_some] at em
          subst em
          cases hn with
          | none => simp at hx
          | some q =>
            cases hi with
            | none => simp [BdV] at h2
            | some v =>
              obtain ⟨k, rfl⟩ := h2.some
              simp only [Option.getD_some] at eh
              subst eh
              simp [Instr.sliceBounds, bound_run _ _ _ _ a2, bound_run _ _ _ _ a3, bound_run _ _ _ _ a1]

def orN (x : Option Nat) (d : Nat) : Nat :=
  match x with
  | some k => k
  | none => d
theorem orN_eq (x : Option Nat) (d : Nat) : x.getD d = orN x d := by cases x <;> rfl
/-- Are bounds right? -/
def fits (l h m c : Nat) (mx hi : Option Nat) : Bool :=
  match mx, hi with
  | some _, none => false
  | _, _ => match Nat.ble l h with
    | true => match Nat.ble h m with
      | true => Nat.ble m c
      | false => false
    | false => false
theorem fits_ok {l h m c : Nat} {mx hi : Option Nat} (k : fits l h m c mx hi = true) : (mx.isSome = true → hi.isSome = true) ∧ l ≤ h ∧ h ≤ m ∧ m ≤ c := by
  unfold fits at k
  split at k
  · cases k
  · rename_i hne
    split at k <;> try (cases k; done)
    rename_i h1
    split at k <;> try (cases k; done)
    rename_i h2
    refine ⟨fun hs => ?_, by simpa using h1, by simpa using h2, by simpa using k⟩
    cases mx with
    | none => cases hs
    | some p =>
      cases hi with
      | none => exact (hne p rfl rfl).elim
      | some q => rfl

/-- gn: how many elements a block that may grow has, at least. -/
def slcY (P : Program) (t : TypeId) (x : SV) (lo hi mx : Option Nat) (gn : Nat → Option Nat) : Out :=
  match P.underlying t with
  | some .string => match x with
    | .c (.v (.string s)) => match mx with
      | some _ => .no
      | none => match fits (orN lo 0) (orN hi s.size) s.size s.size mx hi with
        | true => .val (.c (.v (.string (s.extract (orN lo 0) (orN hi s.size)))))
        | false => .no
    | _ => .no
  | some (.slice e) => match P.info? e with
    | some ei => match x with
      | .c (.v (.slice none 0 0)) => match fits (orN lo 0) (orN hi 0) (orN mx 0) 0 mx hi with
        | true => .val (.c (.v (.slice none 0 0)))
        | false => .no
      | .c (.locs l0 o n c) => match fits (orN lo 0) (orN hi n) (orN mx c) c mx hi with
        | true => match Nat.beq (orN mx c) (orN lo 0) with
          | true => .val (.c (.locs l0 o (orN hi n - orN lo 0) (orN mx c - orN lo 0)))
          | false => .val (.c (.locs l0 (addN o (orN lo 0 * ei.size)) (orN hi n - orN lo 0) (orN mx c - orN lo 0)))
        | false => .no
      | .c (.gro l0 o n e') => match gn l0 with
        | some N => match mx with
          | some m => match fits (orN lo 0) (orN hi n) m (N - e') mx hi with
            | true => match Nat.beq m (orN lo 0) with
              | true => .val (.c (.locs l0 o (orN hi n - orN lo 0) (m - orN lo 0)))
              | false => .val (.c (.locs l0 (addN o (orN lo 0 * ei.size)) (orN hi n - orN lo 0) (m - orN lo 0)))
            | false => .no
          | none => match fits (orN lo 0) (orN hi n) (N - e') (N - e') mx hi with
            | true => match orN lo 0 with
              | 0 => .val (.c (.gro l0 o (orN hi n) e'))
              | l + 1 => match Nat.blt (l + 1) (N - e') with
                | true => .val (.c (.gro l0 (addN o ((l + 1) * ei.size)) (orN hi n - (l + 1)) (e' + (l + 1))))
                | false => .val (.c (.tl l0 o (l + 1) ei.size e'))
            | false => .no
        | none => .no
      | _ => .no
    | none => .no
  | _ => .no

theorem slcY_ok {P : Program} {β : Nat → Nat} {w : World} {x : SV} {t : TypeId} {lo hi mx : Option Value} {ln hn mn : Option Nat} {gn : Nat → Option Nat} (h1 : BdV lo ln) (h2 : BdV hi hn) (h3 : BdV mx mn) (hg : ∀ l N, gn l = some N → N ≤ β (l + 1)) :
    OutOk P β (do pure (.value (← Instr.sliceAt t (x.den β) lo hi mx))) w (slcY P t x ln hn mn gn) := by
  unfold slcY
  split <;> try exact trivial
  · rename_i hu
    split <;> try exact trivial
    rename_i s
    split <;> try exact trivial
    split <;> try exact trivial
    rename_i hf
    obtain ⟨a0, a1, a2, a3⟩ := fits_ok hf
    cases mx with
    | some v => simp [BdV] at h3
    | none =>
      have hb := bounds_run (P := P) (w := w) (isS := false) (n := s.size) (c := s.size) h1 h2 (mx := none) (mn := none) trivial (by simp) (orN_eq _ _) (orN_eq _ _) rfl a1 a2 (Nat.le_refl _)
      exact vOut (by simp [Instr.sliceAt, Instr.slice, run_underlying hu, SV.den, Ce.den, hb])
  · rename_i e hu
    split <;> try exact trivial
    rename_i ei hi'
    split <;> try exact trivial
    · split <;> try exact trivial
      rename_i hf
      obtain ⟨a0, a1, a2, a3⟩ := fits_ok hf
      have hb := bounds_run (P := P) (w := w) (isS := true) (n := 0) (c := 0) h1 h2 h3 a0 (orN_eq _ _) (orN_eq _ _) (orN_eq _ _) a1 a2 a3
      have z1 : orN ln 0 = 0 := by omega
      have z2 : orN hn 0 = 0 := by omega
      have z3 : orN mn 0 = 0 := by omega
      rw [z1, z2, z3] at hb
      exact vOut (by simp [Instr.sliceAt, Instr.slice, run_underlying hu, SV.den, Ce.den, hb, sizeOf, typeInfo, hi'])
    · rename_i l0 o n c
      split <;> try exact trivial
      rename_i hf
      obtain ⟨a0, a1, a2, a3⟩ := fits_ok hf
      have hb := bounds_run (P := P) (w := w) (isS := true) (n := n) (c := c) h1 h2 h3 a0 (orN_eq _ _) (orN_eq _ _) (orN_eq _ _) a1 a2 a3
      split
      · rename_i hq
        have hq' : orN mn c = orN ln 0 := Nat.eq_of_beq_eq_true hq
        exact vOut (by simp [Instr.sliceAt, Instr.slice, run_underlying hu, SV.den, Ce.den, hb, sizeOf, typeInfo, hi', hq'])
      · rename_i hq
        have hq' : ¬ orN mn c = orN ln 0 := by intro e; rw [e] at hq; simp at hq
        exact vOut (by simp [Instr.sliceAt, Instr.slice, run_underlying hu, SV.den, Ce.den, hb, sizeOf, typeInfo, hi', hq', add_plain', addN_eq])
    · rename_i l0 o n e'
      split <;> try exact trivial
      rename_i N hN
      have hNb := hg l0 N hN
      split
      · rename_i m
        split <;> try exact trivial
        rename_i hf
        obtain ⟨a0, a1, a2, a3⟩ := fits_ok hf
        have hb := bounds_run (P := P) (w := w) (isS := true) (n := n) (c := β (l0 + 1) - e') (m := m) h1 h2 h3 a0 (orN_eq _ _) (orN_eq _ _) rfl a1 a2 (by omega)
        split
        · rename_i hq
          have hq' : m = orN ln 0 := Nat.eq_of_beq_eq_true hq
          exact vOut (by simp [Instr.sliceAt, Instr.slice, run_underlying hu, SV.den, Ce.den, hb, sizeOf, typeInfo, hi', hq'])
        · rename_i hq
          have hq' : ¬ m = orN ln 0 := by intro e; rw [e] at hq; simp at hq
          exact vOut (by simp [Instr.sliceAt, Instr.slice, run_underlying hu, SV.den, Ce.den, hb, sizeOf, typeInfo, hi', hq', add_plain', addN_eq])
      · split <;> try exact trivial
        rename_i hf
        obtain ⟨a0, a1, a2, a3⟩ := fits_ok hf
        have hb := bounds_run (P := P) (w := w) (isS := true) (n := n) (c := β (l0 + 1) - e') (m := β (l0 + 1) - e') h1 h2 h3 (by simp) (orN_eq _ _) (orN_eq _ _) rfl a1 (by omega) (Nat.le_refl _)
        split
        · rename_i hz
          rw [hz] at hb
          refine vOut ?_
          simp only [Instr.sliceAt, Instr.slice, run_underlying hu, SV.den, Ce.den, Sem.run_bind, Result.andThen_ok, hb, sizeOf, typeInfo, run_program, hi', Sem.run_pure]
          by_cases hc : β (l0 + 1) - e' = 0
          · simp [hc]
          · simp [hc, add_plain']
        · rename_i l hz
          rw [hz] at hb a1
          split
          · rename_i hlt
            have hlt' : l + 1 < N - e' := by simpa [Nat.blt_eq] using hlt
            have hc : ¬ β (l0 + 1) - e' = l + 1 := by omega
            refine vOut ?_
            simp only [Instr.sliceAt, Instr.slice, run_underlying hu, SV.den, Ce.den, Sem.run_bind, Result.andThen_ok, hb, sizeOf, typeInfo, run_program, hi', Sem.run_pure]
            simp [hc, add_plain', addN_eq, Nat.sub_sub]
          · rename_i hlt
            have hlt' : ¬ l + 1 < N - e' := by rw [← Bool.not_eq_true, Nat.blt_eq] at hlt; exact hlt
            have hh : orN hn n - (l + 1) = 0 := by omega
            refine vOut ?_
            simp only [Instr.sliceAt, Instr.slice, run_underlying hu, SV.den, Ce.den, Sem.run_bind, Result.andThen_ok, hb, sizeOf, typeInfo, run_program, hi', Sem.run_pure, hh]
            by_cases hc : β (l0 + 1) - e' = l + 1
            · simp [hc]
            · simp [hc, add_plain']

/-! ### All together -/
def bdO (env : Env) : Option Operand → Option (Option Nat)
  | none => some none
  | some x => match nrm (ev env x) with
    | some (.c (.v (.int _ (.ofNat k)))) => some (some k)
    | _ => none
def gmLen (gm : GMem) (l : Nat) : Option Nat :=
  match lookG gm l with
  | some (_, n, _, _) => some n
  | none => none
def pureY (P : Program) (env : Env) (gm : GMem) : Op → Out
  | .load t x => match ev env x with
    | some (.c (.loc l o)) => match lookG gm l with
      | some (_, _, _, cs) => match aggOf P t with
        | .one => match getL cs o with
          | some y => .val (.c y)
          | none => .no
        | .many n => match cutL cs o n with
          | some ys => .cells ys
          | none => .no
        | .no => .no
      | none => .no
    | _ => .no
  | .nilCheck x => match ev env x with
    | some (.c (.ifl t l o)) => .val (.c (.ifl t l o))
    | _ => .no
  | .binOp op t x y _ => match nrm (ev env x) with
    | some (.agg xs) => match nrm (ev env y) with
      | some (.agg ys) => binA P op t xs ys
      | _ => .no
    | some u => match nrm (ev env y) with
      | some v => binY P op t u v
      | none => .no
    | none => .no
  | .unOp .xor _ x => match nrm (ev env x) with
    | some (.c (.v (.int k n))) => intB .xor k (match k.signed with | true => -1 | false => k.max) n
    | _ => .no
  | .makeInterface t x => match P.concrete t with
    | true => match ev env x with
      | some (.c (.loc l o)) => .val (.c (.ifl t l o))
      | _ => .no
    | false => .no
  | .indexAddr t x i => match ev env x with
    | some s => match nrm (ev env i) with
      | some (.c (.v (.int _ iv))) => idxY P t s iv
      | _ => .no
    | none => .no
  | .index t x i => match ev env x with
    | some s => match nrm (ev env i) with
      | some (.c (.v (.int _ iv))) => elmY P t s iv
      | _ => .no
    | none => .no
  | .slice t x lo hi mx => match ev env x with
    | some s => match bdO env lo with
      | some l => match bdO env hi with
        | some h => match bdO env mx with
          | some m => slcY P t s l h m (gmLen gm)
          | none => .no
        | none => .no
      | none => .no
    | none => .no
  | .extract x i => match ev env x with
    | some (.tps vs) => match getL vs i with
      | some (false, [y]) => .val (.c y)
      | some (true, cs) => .cells cs
      | _ => .no
    | _ => .no
  | .typeAssert x _ t ok => match nrm (ev env x) with
    | some s => assertY P s t ok
    | none => .no
  | .call ⟨.builtin b, args, ts⟩ => match b with
    | .len => match args.toList with
      | [x] => match ts.toList with
        | t :: _ => match P.underlying t with
          | some (.slice _) => match ev env x with
            | some (.c (.gro _ _ n _)) => .val (.c (.v (.int .i64 n)))
            | some (.c (.tl _ _ _ _ _)) => .val (.c (.v (.int .i64 0)))
            | _ => .no
          | _ => .no
        | _ => .no
      | _ => .no
    | _ => .no
  | _ => .no
end Go.Proofs.Ytngfadijcpnblaa

/- The evaluator: 'pureX' says what the model does, and its labels are bounded. -/
namespace Go.Proofs.Ytngfadijcpnblaa
open Go.RowKit

theorem lookG_perm {β : Nat → Nat} : ∀ {gm gm' : GMem} {l : Nat} {x : Nat × Nat × Nat × List Ce}, lookG gm l = some x → delG gm l = some gm' → (gmSP β gm).Perm (grSP β (l, x) :: gmSP β gm')
  | [], _, _, _, h, _ => by cases h
  | (s, y) :: r, gm', l, x, h, hd => by
    rw [lookG_cons] at h
    simp only [delG] at hd
    by_cases e : s = l
    · subst e
      rw [if_pos rfl] at h
      cases h
      simp at hd
      subst hd
      exact List.Perm.refl _
    · rw [if_neg e] at h
      have hb : Nat.beq s l = false := by rw [← Bool.not_eq_true, Nat.beq_eq]; exact e
      rw [hb] at hd
      cases hr : delG r l with
      | none => simp only [hr] at hd; cases hd
      | some r' =>
        simp only [hr] at hd
        cases hd
        exact (List.Perm.cons _ (lookG_perm h hr)).trans (List.Perm.swap _ _ _)
theorem delG_some : ∀ (gm : GMem) (l : Nat), ∃ gm', delG gm l = some gm'
  | [], _ => ⟨_, rfl⟩
  | (s, y) :: r, l => by
    obtain ⟨r', hr⟩ := delG_some r l
    simp only [delG, hr]
    cases Nat.beq s l <;> exact ⟨_, rfl⟩

section
variable {g : Cx} {β : Nat → Nat} {s : GS} {L : Res} {a : Act} {w : World}

theorem RelG.sat' (h : RelG g β s L a w) : SatW (memSP β s.mem ++ (gmSP β s.gm ++ (L.map (·.2) ++ g.F))) w := by
  have := h.sat
  rw [List.map_append, gmRes_snd, List.append_assoc] at this
  exact this
theorem RelG.mk' (h1 : a.defers = []) (h2 : a.tmps.size = g.n) (h3 : ∀ t x, look s.env t = some x → a.tmps[t]? = some (x.den β)) (h5 : w.os = g.os) (h6 : w.tape = g.tape) (h7 : w.output = g.output)
    (h8 : SatW (memSP β s.mem ++ (gmSP β s.gm ++ (L.map (·.2) ++ g.F))) w) : RelG g β s L a w :=
  ⟨h1, h2, h3, fun _ _ h => (by cases h), h5, h6, h7, (by rw [List.map_append, gmRes_snd, List.append_assoc]; exact h8)⟩

structure GrIs (β : Nat → Nat) (w : World) (l e n sz : Nat) (cs : List Ce) (cur : Array Value) : Prop where
  blk : w.heap[β l]? = some (.cells cur e (0, 0))
  take : cur.toList.take (n * sz) = cs.map (Ce.den β)
  len : cs.length = n * sz
  cap : n ≤ β (l + 1)
  max : β (l + 1) ≤ maxLen
  size : cur.size = β (l + 1) * sz
theorem RelG.gr (h : RelG g β s L a w) {l e n sz : Nat} {cs : List Ce} (hl : lookG s.gm l = some (e, n, sz, cs)) : ∃ cur, GrIs β w l e n sz cs cur := by
  obtain ⟨gm', hd⟩ := delG_some s.gm l
  have h1 := h.sat'.swapHead
  have h2 := h1.perm ((lookG_perm hl hd).append_right _)
  obtain ⟨r, hh, x1, x2, x3, r1, k1, k2, y1, y2, y3, y4, y5, y6⟩ := h2
  obtain ⟨z1, z2⟩ := y5
  rcases z2 with ⟨z3, _⟩ | ⟨b, cur, z3, z4, z5, z6, z7, z8⟩
  · cases z3
  · cases z3
    exact ⟨cur, x2 _ _ (y2 _ _ z4), z8, by simpa using z1, z5, z6, z7⟩
theorem GrIs.cell {l e n sz : Nat} {cs : List Ce} {cur : Array Value} (h : GrIs β w l e n sz cs cur) {j : Nat} {y : Ce} (hy : cs[j]? = some y) : w.cell? ⟨β l, j, none⟩ = some (y.den β) := by
  have hj : j < cs.length := (List.getElem?_eq_some_iff.1 hy).1
  rw [cell_of_row w _ _ _ _ _ h.blk]
  have h1 : (cur.toList.take (n * sz))[j]? = some (y.den β) := by rw [h.take]; simp [hy]
  rw [List.getElem?_take, if_pos (by rw [← h.len]; exact hj)] at h1
  simpa using h1

theorem nrm_evn (h : RelG g β s L a w) {x : Operand} {u : SV} (hx : nrm (ev s.env x) = some u) : a.eval x = u.den β := h.evn hx

theorem bdO_ok (h : RelG g β s L a w) {x : Option Operand} {k : Option Nat} (hx : bdO s.env x = some k) : BdV (x.map a.eval) k := by
  cases x with
  | none => simp only [bdO, Option.some.injEq] at hx; subst hx; trivial
  | some x =>
    simp only [bdO] at hx
    split at hx
    · rename_i kk k' hv
      cases hx
      have := nrm_evn h hv
      simp only [Option.map_some, this]
      rfl
    · cases hx

theorem gmLen_ok (h : RelG g β s L a w) : ∀ l N, gmLen s.gm l = some N → N ≤ β (l + 1) := by
  intro l N hN
  unfold gmLen at hN
  split at hN
  · rename_i e n sz cs hl
    cases hN
    obtain ⟨cur, hc⟩ := h.gr hl
    exact hc.cap
  · cases hN

set_option maxHeartbeats 2000000 in
theorem pureY_ok (h : RelG g β s L a w) (o : Oper) : OutOk g.P β (execOp a.eval o) w (pureY g.P s.env s.gm o.op) := by
  obtain ⟨dst, op, ty, pos, after, guard⟩ := o
  cases op <;> try exact trivial
  case load t x =>
    simp only [pureY]
    split <;> try exact trivial
    rename_i l o hx
    have he := h.ev hx
    split <;> try exact trivial
    rename_i e n sz cs hl
    obtain ⟨cur, hc⟩ := h.gr hl
    split <;> try exact trivial
    · rename_i ha
      split <;> try exact trivial
      rename_i y hy
      rw [getL_eq] at hy
      have hcell := hc.cell hy
      have he' : a.eval x = .pointer (some ⟨β l, o, none⟩) := he
      show (execOp a.eval _).run g.P w = _
      simp [execOp, he', Instr.loadAt, Instr.sureAddr, loadVar, aggOf_one ha, hcell, SV.den]
    · rename_i m ha
      split <;> try exact trivial
      rename_i ys hy
      obtain ⟨g1, g2⟩ := aggOf_many ha w
      obtain ⟨c1, c2⟩ := cutL_spec cs o m ys hy
      have hl2 : (loadCells ⟨β l, o, none⟩ m).run g.P w = .ok (cellsOf β ys) w := by
        have := run_loadCells_list (P := g.P) w ⟨β l, o, none⟩ (ys.map (Ce.den β)) (fun j v hv => by
          rw [add_plain']
          rw [List.getElem?_map] at hv
          have hj : j < m := by
            rcases Nat.lt_or_ge j m with hlt | hge
            · exact hlt
            · rw [List.getElem?_eq_none (by omega)] at hv; cases hv
          cases hyj : ys[j]? with
          | none => rw [hyj] at hv; cases hv
          | some y =>
            rw [hyj] at hv
            rw [hc.cell (by rw [c2 j hj]; exact hyj)]
            exact hv)
        simpa [c1, cellsOf] using this
      have he' : a.eval x = .pointer (some ⟨β l, o, none⟩) := he
      show (execOp a.eval _).run g.P w = _
      simp [execOp, he', Instr.loadAt, Instr.sureAddr, loadVar, g1, g2, hl2, SV.den, cellsOf]
  case nilCheck x =>
    simp only [pureY]
    split <;> try exact trivial
    rename_i t l o hx
    have he : a.eval x = .iface t (.pointer (some ⟨β l, o, none⟩)) := h.ev hx
    show (execOp a.eval _).run g.P w = _
    simp [execOp, he, SV.den, Ce.den]
  case binOp op t x y tt =>
    simp only [pureY]
    split
    · rename_i xs hx
      split <;> try exact trivial
      rename_i ys hy
      have e1 := nrm_evn h hx
      have e2 := nrm_evn h hy
      show OutOk g.P β (do pure (.value (← (do eqGuard op t x y (a.eval x) (a.eval y); binOp op t (a.eval x) (a.eval y))))) w _
      rw [e1, e2]
      exact binA_ok
    · rename_i u hne hx
      split <;> try exact trivial
      rename_i v hy
      have e1 := nrm_evn h hx
      have e2 := nrm_evn h hy
      show OutOk g.P β (do pure (.value (← (do eqGuard op t x y (a.eval x) (a.eval y); binOp op t (a.eval x) (a.eval y))))) w _
      rw [e1, e2]
      exact binY_ok
    · exact trivial
  case unOp op t x =>
    cases op <;> try exact trivial
    simp only [pureY]
    split <;> try exact trivial
    rename_i k n hx
    have e1 : a.eval x = .int k n := nrm_evn h hx
    show (execOp a.eval _).run g.P w = _
    cases hk : k.signed <;> simp [execOp, e1, Op.unary, Op.intBits, hk]
  case makeInterface t x =>
    simp only [pureY]
    split <;> try exact trivial
    rename_i hc
    split <;> try exact trivial
    rename_i l o hx
    have he : a.eval x = .pointer (some ⟨β l, o, none⟩) := h.ev hx
    show (execOp a.eval _).run g.P w = _
    unfold Program.concrete at hc
    cases hu : g.P.underlying t with
    | none => simp [hu] at hc
    | some d => cases d <;> simp [hu] at hc <;> simp [execOp, he, Instr.makeInterface, run_underlying hu, SV.den, Ce.den]
  case indexAddr t x i =>
    simp only [pureY]
    split <;> try exact trivial
    rename_i u hx
    split <;> try exact trivial
    rename_i k iv hi
    have e1 := h.ev hx
    have e2 : a.eval i = .int k iv := nrm_evn h hi
    show OutOk g.P β (do pure (.value (← Instr.indexAt t (a.eval x) (a.eval i)))) w _
    rw [e1, e2]
    exact idxY_ok
  case index t x i =>
    simp only [pureY]
    split <;> try exact trivial
    rename_i u hx
    split <;> try exact trivial
    rename_i k iv hi
    have e1 := h.ev hx
    have e2 : a.eval i = .int k iv := nrm_evn h hi
    show OutOk g.P β (do pure (.value (← Instr.index t (a.eval x) (a.eval i)))) w _
    rw [e1, e2]
    exact elmY_ok
  case slice t x lo hi mx =>
    simp only [pureY]
    split <;> try exact trivial
    rename_i u hx
    split <;> try exact trivial
    rename_i l hl
    split <;> try exact trivial
    rename_i hh hhi
    split <;> try exact trivial
    rename_i m hm
    have e1 := h.ev hx
    show OutOk g.P β (do pure (.value (← Instr.sliceAt t (a.eval x) (lo.map a.eval) (hi.map a.eval) (mx.map a.eval)))) w _
    rw [e1]
    exact slcY_ok (bdO_ok h hl) (bdO_ok h hhi) (bdO_ok h hm) (gmLen_ok h)
  case extract x i =>
    simp only [pureY]
    split <;> try exact trivial
    rename_i vs hx
    have e1 : a.eval x = .tuple (vs.map (tpDen β)).toArray := h.ev hx
    split <;> try exact trivial
    · rename_i y hy
      rw [getL_eq] at hy
      show (execOp a.eval _).run g.P w = _
      simp [execOp, e1, Instr.extract, hy, tpDen, SV.den]
    · rename_i cs hy
      rw [getL_eq] at hy
      show (execOp a.eval _).run g.P w = _
      simp [execOp, e1, Instr.extract, hy, tpDen, SV.den]
  case typeAssert x xt t ok =>
    simp only [pureY]
    split <;> try exact trivial
    rename_i u hx
    have e1 := nrm_evn h hx
    show OutOk g.P β (do pure (.value (← Instr.typeAssert (a.eval x) xt t ok))) w _
    rw [e1]
    exact assertY_ok
  case call c =>
    obtain ⟨callee, args, ts⟩ := c
    cases callee <;> try exact trivial
    rename_i b
    cases b <;> try exact trivial
    simp only [pureY]
    split <;> try exact trivial
    rename_i x hargs
    split <;> try exact trivial
    rename_i t ts' hts
    have ea : args = #[x] := by apply Array.ext'; simpa using hargs
    have et : ts[0]? = some t := by rw [← Array.getElem?_toList, hts]; rfl
    split <;> try exact trivial
    rename_i e hu
    split <;> try exact trivial
    · rename_i l o n e' hx
      have he : a.eval x = .slice (some ⟨β l, o, none⟩) n (β (l + 1) - e') := h.ev hx
      show (execOp a.eval _).run g.P w = _
      simp [execOp, resolve, invoke, builtin, Builtin.len_, ea, et, he, run_underlying hu, goInt, SV.den, Ce.den]
    · rename_i l o k z e' hx
      have he : a.eval x = (SV.c (.tl l o k z e')).den β := h.ev hx
      simp only [SV.den, Ce.den] at he
      show (execOp a.eval _).run g.P w = _
      simp [execOp, resolve, invoke, builtin, Builtin.len_, ea, et, he, run_underlying hu, goInt, SV.den, Ce.den]
end

/-- What leaves memory as it is. -/
def pureX (P : Program) (env : Env) (mem : Mem) (gm : GMem) (op : Op) : Out :=
  match pureOp P env mem [] op with
  | .no => pureY P env gm op
  | r => r
theorem pureX_ok {g : Cx} {β : Nat → Nat} {s : GS} {L : Res} {a : Act} {w : World} (h : RelG g β s L a w) (o : Oper) : OutOk g.P β (execOp a.eval o) w (pureX g.P s.env s.mem s.gm o.op) := by
  unfold pureX
  have h1 := pureOp_ok h o
  split
  · exact pureY_ok h o
  · exact h1
end Go.Proofs.Ytngfadijcpnblaa

/- The evaluator: labels stay bounded. -/
namespace Go.Proofs.Ytngfadijcpnblaa
open Go.RowKit

def OutLt (n : Nat) : Out → Prop
  | .val x => x.lt n
  | .cells cs => ∀ x ∈ cs, x.lt n
  | _ => True
theorem vs_lt (n : Nat) (l : List Value) : ∀ x ∈ l.map Ce.v, x.lt n := by
  intro x hx
  obtain ⟨y, _, rfl⟩ := List.mem_map.1 hx
  trivial
theorem ev_lt {n : Nat} {env : Env} (h : ltE n env) {x : Operand} {s : SV} (hx : ev env x = some s) : s.lt n := by
  cases x with
  | tmp t => exact h t s hx
  | const v =>
    cases v <;> simp only [ev, Option.some.injEq] at hx <;> subst hx <;> first | trivial | exact vs_lt _ _
  | global b => simp only [ev, Option.some.injEq] at hx; subst hx; trivial
  | func f => simp only [ev, Option.some.injEq] at hx; subst hx; trivial
theorem nrm_lt {n : Nat} {env : Env} (h : ltE n env) {x : Operand} {s : SV} (hx : nrm (ev env x) = some s) : s.lt n := by
  cases hy : ev env x with
  | none => rw [hy] at hx; cases hx
  | some y =>
    rw [hy] at hx
    have := ev_lt h hy
    cases y <;> simp only [nrm, Option.some.injEq] at hx <;> subst hx <;> first | trivial | exact this
theorem getL_mem {α : Type} {l : List α} {k : Nat} {x : α} (h : getL l k = some x) : x ∈ l := by
  rw [getL_eq] at h
  exact List.mem_of_getElem? h
theorem cutL_mem {α : Type} {l : List α} {o n : Nat} {ys : List α} (h : cutL l o n = some ys) : ∀ x ∈ ys, x ∈ l := by
  intro x hx
  obtain ⟨c1, c2⟩ := cutL_spec l o n ys h
  obtain ⟨j, hj⟩ := List.getElem?_of_mem hx
  have hlt : j < n := by
    have := (List.getElem?_eq_some_iff.1 hj).1
    omega
  exact List.mem_of_getElem? ((c2 j hlt).trans hj)
theorem setsO_mem {cs ys zs : List Ce} {k : Nat} (h : fillS.setsO cs k ys = some zs) : ∀ z ∈ zs, z ∈ cs ∨ z ∈ ys := by
  intro z hz
  obtain ⟨h1, h2⟩ := setsO_spec cs k ys zs h
  obtain ⟨j, hj⟩ := List.getElem?_of_mem hz
  rw [h2] at hj
  split at hj
  · exact .inr (List.mem_of_getElem? hj)
  · exact .inl (List.mem_of_getElem? hj)
theorem cellsS_lt {n : Nat} {s : SV} {ys : List Ce} (h : s.lt n) (hy : cellsS s = some ys) : ∀ y ∈ ys, y.lt n := by
  cases s with
  | agg cs => simp only [cellsS, Option.some.injEq] at hy; subst hy; exact h
  | tup x => simp [cellsS] at hy
  | tps x => simp [cellsS] at hy
  | kb b =>
    simp only [cellsS, Option.some.injEq] at hy
    subst hy
    intro y hm
    simp only [List.mem_singleton] at hm
    subst hm
    trivial
  | c x =>
    simp only [cellsS] at hy
    split at hy <;> cases hy
    intro y hm
    simp only [List.mem_singleton] at hm
    subst hm
    exact h
theorem fillS_lt {n : Nat} {env : Env} (h : ltE n env) (place : Nat → Option (Nat × Nat)) : ∀ (ps : List (Nat × Operand)) (cs zs : List Ce), (∀ x ∈ cs, x.lt n) → fillS place env cs ps = some zs → ∀ z ∈ zs, z.lt n
  | [], cs, zs, hc, hf => by simp only [fillS, Option.some.injEq] at hf; subst hf; exact hc
  | (i, x) :: r, cs, zs, hc, hf => by
    simp only [fillS] at hf
    split at hf <;> try (cases hf; done)
    split at hf <;> try (cases hf; done)
    rename_i s hs
    split at hf <;> try (cases hf; done)
    rename_i ys hys
    split at hf <;> try (cases hf; done)
    split at hf <;> try (cases hf; done)
    split at hf <;> try (cases hf; done)
    rename_i cs' hcs
    refine fillS_lt h place r cs' zs (fun z hz => ?_) hf
    rcases setsO_mem hcs z hz with hz | hz
    · exact hc z hz
    · exact cellsS_lt (ev_lt h hs) hys z hz
theorem valsO_lt {n : Nat} {l : List Value} {cs : List Ce} (h : valsO l = some cs) : ∀ x ∈ cs, x.lt n := by
  rw [valsO_eq] at h
  cases h
  exact vs_lt _ _
theorem zeroS_lt {P : Program} {t n : Nat} {cs : List Ce} (h : zeroS P t = some cs) : ∀ x ∈ cs, x.lt n := by
  unfold zeroS at h
  split at h <;> try (cases h; done)
  split at h <;> try (cases h; done)
  split at h <;> try (cases h; done)
  · exact valsO_lt h
  · cases h
    intro x hx
    simp only [List.mem_singleton] at hx
    subst hx
    trivial
theorem buildS_lt {P : Program} {n t : Nat} {env : Env} (h : ltE n env) {ps : List (Nat × Operand)} {zs : List Ce} (hb : buildS P env t ps = some zs) : ∀ z ∈ zs, z.lt n := by
  unfold buildS at hb
  split at hb <;> try (cases hb; done)
  rename_i z hz
  split at hb <;> try (cases hb; done)
  · split at hb <;> try (cases hb; done)
    exact fillS_lt h _ _ _ _ (zeroS_lt hz) hb
  · split at hb <;> try (cases hb; done)
    exact fillS_lt h _ _ _ _ (zeroS_lt hz) hb
theorem rowS_lt {P : Program} {n e m : Nat} {env : Env} (h : ltE n env) {ps : List (Nat × Operand)} {cs : List Ce} (hr : rowS P env e m ps = some cs) : ∀ z ∈ cs, z.lt n := by
  unfold rowS at hr
  split at hr <;> try (cases hr; done)
  split at hr <;> try (cases hr; done)
  rename_i z hz
  split at hr <;> try (cases hr; done)
  split at hr <;> try (cases hr; done)
  split at hr <;> try (cases hr; done)
  rw [repS_eq] at hr
  refine fillS_lt h _ _ _ _ (fun x hx => ?_) hr
  obtain ⟨l, hl, hx2⟩ := List.mem_flatten.1 hx
  obtain rfl := List.eq_of_mem_replicate hl
  exact zeroS_lt hz x hx2
theorem binV_lt {P : Program} {op : BinOp} {t n : Nat} {c : Bool} {u v : Value} : OutLt n (binV P op t c u v) := by
  unfold binV
  repeat' (first | exact trivial | split)

theorem pureOp_lt {P : Program} {n : Nat} {env : Env} {mem : Mem} (h : ltE n env) (hm : ltM n mem) (op : Op) : OutLt n (pureOp P env mem [] op) := by
  cases op <;> simp only [pureOp] <;> try exact trivial
  case move x => split <;> first | exact trivial | (rename_i hx; exact ev_lt h hx)
  case assign x => split <;> first | exact trivial | (rename_i hx; exact ev_lt h hx)
  case load t x =>
    split <;> try exact trivial
    split <;> try exact trivial
    rename_i hl
    split <;> try exact trivial
    · split <;> try exact trivial
      rename_i hy
      exact (hm _ (lookM_mem hl)).2 _ (getL_mem hy)
    · split <;> try exact trivial
      rename_i hy
      exact fun x hx => (hm _ (lookM_mem hl)).2 _ (cutL_mem hy x hx)
  case nilCheck x =>
    split <;> try exact trivial
    rename_i hx
    exact ev_lt h hx
  case binOp op t x y tt => repeat' (first | exact trivial | exact binV_lt | split)
  case unOp op t x => repeat' (first | exact trivial | split)
  case convert a b x => repeat' (first | exact trivial | split)
  case fieldAddr t x f =>
    split <;> try exact trivial
    split <;> try exact trivial
    split <;> try exact trivial
    split <;> try exact trivial
    split <;> try exact trivial
    rename_i hx
    exact ev_lt h hx
  case field t x f =>
    split <;> try exact trivial
    split <;> try exact trivial
    split <;> try exact trivial
    rename_i cs hx
    have hc : ∀ x ∈ cs, x.lt n := ev_lt h hx
    split <;> try exact trivial
    · split <;> try exact trivial
      rename_i hy
      exact hc _ (getL_mem hy)
    · split <;> try exact trivial
      rename_i hy
      exact fun x hx => hc _ (cutL_mem hy x hx)
  case extract x i =>
    split <;> try exact trivial
    split <;> try exact trivial
    split <;> try exact trivial
    rename_i hv
    exact valsO_lt hv
  case makeInterface t x => repeat' (first | exact trivial | split)
  case makeFunc f a b => repeat' (first | exact trivial | split)
  case build t ps =>
    split <;> try exact trivial
    rename_i hb
    exact buildS_lt h hb
  case call c =>
    obtain ⟨callee, args, ts⟩ := c
    cases callee <;> try exact trivial
    rename_i b
    cases b <;> try exact trivial
    all_goals (simp only [pureOp]; repeat' (first | exact trivial | split))

theorem eqOut_lt {n : Nat} {op : BinOp} {b : Bool} : OutLt n (eqOut op b) := by unfold eqOut; split <;> trivial
theorem intB_lt {n : Nat} {op : BinOp} {k : IntKind} {a b : Int} : OutLt n (intB op k a b) := by unfold intB; repeat' (first | exact trivial | split)
theorem binY_lt {P : Program} {op : BinOp} {t n : Nat} {x y : SV} : OutLt n (binY P op t x y) := by
  unfold binY shiftB strB eqI
  repeat' (first | exact trivial | exact eqOut_lt | exact intB_lt | split)
theorem binA_lt {P : Program} {op : BinOp} {t n : Nat} {x y : List Ce} : OutLt n (binA P op t x y) := by
  unfold binA
  repeat' (first | exact trivial | exact eqOut_lt | split)
theorem ifaceOf_lt {n : Nat} {x : SV} {t : TypeId} {c : Ce} (h : x.lt n) (hx : ifaceOf x = some (t, c)) : c.lt n := by
  unfold ifaceOf at hx
  split at hx
  · cases hx; exact h
  · split at hx <;> cases hx
    trivial
  · cases hx
theorem tOf_lt {n : Nat} {x : SV} {p : Bool × List Ce} (h : x.lt n) (hx : tOf x = some p) : ∀ y ∈ p.2, y.lt n := by
  cases x <;> simp only [tOf, Option.some.injEq] at hx <;> try (cases hx; done)
  · subst hx; intro y hy; simp only [List.mem_singleton] at hy; subst hy; exact h
  · subst hx; exact h
  · subst hx; intro y hy; simp only [List.mem_singleton] at hy; subst hy; trivial
theorem zeroC_lt {P : Program} {t n : Nat} {p : Bool × List Ce} (h : zeroC P t = some p) : ∀ y ∈ p.2, y.lt n := by
  unfold zeroC at h
  split at h <;> try (cases h; done)
  split at h <;> try (cases h; done)
  split at h <;> try (cases h; done)
  · split at h <;> cases h
    rename_i hv
    exact valsO_lt hv
  · cases h
    intro y hy
    simp only [List.mem_singleton] at hy
    subst hy
    trivial
theorem two_lt {n : Nat} {p : Bool × List Ce} {b : Bool} (h : ∀ y ∈ p.2, y.lt n) : (SV.tps [p, (false, [.v (.bool b)])]).lt n := by
  intro q hq y hy
  simp only [List.mem_cons, List.not_mem_nil, or_false] at hq
  rcases hq with rfl | rfl
  · exact h y hy
  · simp only [List.mem_singleton] at hy
    subst hy
    trivial
theorem holdsT_lt {n : Nat} {ok : Bool} {x : SV} (h : x.lt n) : OutLt n (holdsT ok x) := by
  unfold holdsT
  split
  · exact h
  · split
    · rename_i hp
      exact two_lt (tOf_lt h hp)
    · trivial
theorem failsT_lt {P : Program} {t n : Nat} {ok : Bool} : OutLt n (failsT P t ok) := by
  unfold failsT
  split
  · trivial
  · split
    · rename_i hp
      exact two_lt (zeroC_lt hp)
    · trivial
theorem assertY_lt {P : Program} {n : Nat} {x : SV} {t : TypeId} {ok : Bool} (h : x.lt n) : OutLt n (assertY P x t ok) := by
  unfold assertY
  split
  · split
    · exact failsT_lt
    · split <;> try exact trivial
      split <;> try exact trivial
      split
      · exact holdsT_lt h
      · exact failsT_lt
  · split
    · exact failsT_lt
    · split <;> try exact trivial
      rename_i hx
      split
      · exact holdsT_lt (x := .c _) (ifaceOf_lt h hx)
      · exact failsT_lt
  · trivial
theorem rowOf_lt {n l o m : Nat} {x : SV} (h : x.lt n) (hx : rowOf x = some (l, o, m)) : l < n := by
  unfold rowOf at hx
  split at hx
  · cases hx; exact h
  · cases hx
    have : l + 1 < n := h
    omega
  · cases hx
theorem idxY_lt {P : Program} {n t : Nat} {x : SV} {iv : Int} (h : x.lt n) : OutLt n (idxY P t x iv) := by
  unfold idxY
  split <;> try exact trivial
  split <;> try exact trivial
  · split <;> try exact trivial
    split <;> try exact trivial
    rename_i hx
    split <;> try exact trivial
    exact rowOf_lt h hx
  · split <;> try exact trivial
    split <;> try exact trivial
    · split <;> try exact trivial
      exact h
    · split <;> exact trivial
theorem elmY_lt {P : Program} {n t : Nat} {x : SV} {iv : Int} (h : x.lt n) : OutLt n (elmY P t x iv) := by
  unfold elmY
  split <;> try exact trivial
  split <;> try exact trivial
  · split <;> try exact trivial
    split <;> try exact trivial
    split <;> try exact trivial
    split <;> try exact trivial
    · split <;> try exact trivial
      rename_i hy
      exact h _ (getL_mem hy)
    · split <;> try exact trivial
      rename_i hy
      exact fun x hx => h _ (cutL_mem hy x hx)
  · repeat' (first | exact trivial | split)
theorem slcY_lt {P : Program} {n t : Nat} {x : SV} {lo hi mx : Option Nat} {gn : Nat → Option Nat} (h : x.lt n) : OutLt n (slcY P t x lo hi mx gn) := by
  unfold slcY
  split <;> try exact trivial
  · repeat' (first | exact trivial | split)
  · split <;> try exact trivial
    split <;> try exact trivial
    · repeat' (first | exact trivial | split)
    · repeat' (first | exact trivial | exact h | split)
    · have h1 : _ + 1 < n := h
      repeat' (first | exact trivial | exact h | exact (Nat.lt_of_succ_lt h : _ < n) | split)

theorem pureY_lt {P : Program} {n : Nat} {env : Env} {gm : GMem} (h : ltE n env) (hm : ltG n gm) (op : Op) : OutLt n (pureY P env gm op) := by
  cases op <;> simp only [pureY] <;> try exact trivial
  case load t x =>
    split <;> try exact trivial
    split <;> try exact trivial
    rename_i hl
    split <;> try exact trivial
    · split <;> try exact trivial
      rename_i hy
      exact (hm _ (lookG_mem hl)).2 _ (getL_mem hy)
    · split <;> try exact trivial
      rename_i hy
      exact fun x hx => (hm _ (lookG_mem hl)).2 _ (cutL_mem hy x hx)
  case nilCheck x =>
    split <;> try exact trivial
    rename_i hx
    exact ev_lt h hx
  case binOp op t x y tt => repeat' (first | exact trivial | exact binA_lt | exact binY_lt | split)
  case unOp op t x =>
    cases op <;> try exact trivial
    simp only [pureY]
    repeat' (first | exact trivial | exact intB_lt | split)
  case makeInterface t x =>
    split <;> try exact trivial
    split <;> try exact trivial
    rename_i hx
    exact ev_lt h hx
  case indexAddr t x i =>
    split <;> try exact trivial
    rename_i hx
    split <;> try exact trivial
    exact idxY_lt (ev_lt h hx)
  case index t x i =>
    split <;> try exact trivial
    rename_i hx
    split <;> try exact trivial
    exact elmY_lt (ev_lt h hx)
  case slice t x lo hi mx =>
    split <;> try exact trivial
    rename_i hx
    split <;> try exact trivial
    split <;> try exact trivial
    split <;> try exact trivial
    exact slcY_lt (ev_lt h hx)
  case extract x i =>
    split <;> try exact trivial
    rename_i vs hx
    have hv := ev_lt h hx
    split <;> try exact trivial
    · rename_i y hy
      exact hv _ (getL_mem hy) y (by simp)
    · rename_i cs hy
      exact hv _ (getL_mem hy)
  case typeAssert x xt t ok =>
    split <;> try exact trivial
    rename_i hx
    exact assertY_lt (nrm_lt h hx)
  case call c =>
    obtain ⟨callee, args, ts⟩ := c
    cases callee <;> try exact trivial
    rename_i b
    cases b <;> try exact trivial
    simp only [pureY]
    repeat' (first | exact trivial | split)
theorem pureX_lt {P : Program} {n : Nat} {env : Env} {mem : Mem} {gm : GMem} (h : ltE n env) (hm : ltM n mem) (hg : ltG n gm) (op : Op) : OutLt n (pureX P env mem gm op) := by
  unfold pureX
  have := pureOp_lt (P := P) h hm op
  split
  · exact pureY_lt h hg op
  · exact this
end Go.Proofs.Ytngfadijcpnblaa

/- The evaluator: operations that make or turn memory. -/
namespace Go.Proofs.Ytngfadijcpnblaa
open Go.RowKit

structure Grow (s s' : GS) : Prop where
  bd : Bd s → Bd s'
  nl : s.nl ≤ s'.nl
  low : s'.low ≤ s.low
  keeps : ∀ b, b ≤ s'.low → b ≤ s.nl → Keeps b s s'
theorem Grow.trans {s s' s'' : GS} (h : Grow s s') (k : Grow s' s'') : Grow s s'' :=
  ⟨fun b => k.bd (h.bd b), Nat.le_trans h.nl k.nl, Nat.le_trans k.low h.low, fun b h1 h2 => (h.keeps b (Nat.le_trans h1 k.low) h2).trans (k.keeps b h1 (Nat.le_trans h2 h.nl))⟩
theorem Grow.refl (s : GS) : Grow s s := ⟨id, Nat.le_refl _, Nat.le_refl _, fun b _ _ => Keeps.refl b s⟩

section
variable {g : Cx} {β : Nat → Nat} {s : GS} {L : Res} {a : Act} {w : World}

theorem RelG.agree {β' : Nat → Nat} (h : RelG g β s L a w) (hb : Bd s) (k : agree s.nl β β') : RelG g β' s L a w :=
  RelG.mk' h.defers h.size (fun t x hx => by rw [SV.den_agree k (hb.env t x hx)]; exact h.env t x hx) h.os h.tape h.output (by rw [memSP_agree k hb.mem, gmSP_agree k hb.gm]; exact h.sat')
theorem RelG.putE {env' : Env} (h : RelG g β s L a w) {d : Option Tmp} {x : SV} (hd : dstOk g.n d = true) (hp : putO d x s.env = some env') : RelG g β { s with env := env' } L (a.put d (x.den β)) w :=
  Rel.putO h hd hp
theorem Grow.env {env' : Env} {d : Option Nat} {x : SV} (hx : Bd s → x.lt s.nl) (hp : putO d x s.env = some env') : Grow s { s with env := env' } :=
  ⟨fun b => ⟨b.env.putO (hx b) hp, b.mem, b.gm⟩, Nat.le_refl _, Nat.le_refl _, fun b _ _ => Keeps.of_eq rfl rfl⟩

/-- A new block, of just these cells. -/
def newL (s : GS) (d : Option Nat) (x : SV) (t : Nat) (cs : List Ce) : Option GS :=
  match putO d x s.env with
  | some env => some ⟨env, (s.nl, t, cs) :: s.mem, s.gm, s.nl + 1, s.low⟩
  | none => none
theorem newL_grow {s' : GS} {d : Option Nat} {x : SV} {t : Nat} {cs : List Ce} (hc : Bd s → ∀ y ∈ cs, y.lt s.nl) (hx : x.lt (s.nl + 1)) (h : newL s d x t cs = some s') : Grow s s' := by
  unfold newL at h
  split at h <;> cases h
  rename_i env he
  refine ⟨fun b => ⟨(b.env.mono (Nat.le_succ _)).putO hx he, ?_, b.gm.mono (Nat.le_succ _)⟩, Nat.le_succ _, Nat.le_refl _, ?_⟩
  · intro e hm
    rcases List.mem_cons.1 hm with rfl | hm
    · exact ⟨Nat.lt_succ_self _, fun y hy => Ce.lt_mono (Nat.le_succ _) (hc b y hy)⟩
    · exact (b.mem.mono (Nat.le_succ _)) e hm
  · intro b _ hb m0 g0 ⟨n1, h1, h2⟩ h3 _ _
    refine ⟨⟨(s.nl, t, cs) :: n1, by rw [h1]; rfl, ?_⟩, h3⟩
    intro e hm
    rcases List.mem_cons.1 hm with rfl | hm
    · exact hb
    · exact h2 e hm
theorem newL_step {s' : GS} {o : Oper} {x : SV} {t : Nat} {cs : List Ce} {v : Value} (hr : RelG g β s L a w) (hb : Bd s) (hd : dstOk g.n o.dst = true) (hc : ∀ y ∈ cs, y.lt s.nl) (h : newL s o.dst x t cs = some s')
    (hrun : (execOp a.eval o).run g.P w = .ok (.value v) (w.alloc (.cells (cellsOf β cs) t))) (hv : x.den (upd β s.nl w.heap.size) = v) :
    ∃ β' a' w', agree s.nl β β' ∧ RelG g β' s' L a' w' ∧ ∀ N Q, N a' w' → o.wp g.P a w N Q := by
  unfold newL at h
  split at h <;> cases h
  rename_i env he
  have hag : agree s.nl β (upd β s.nl w.heap.size) := fun l hl => upd_ne (by omega)
  refine ⟨upd β s.nl w.heap.size, a.put o.dst v, w.alloc (.cells (cellsOf β cs) t), hag, ?_, fun N Q hn => wp_value hrun hn⟩
  have h1 : RelG g (upd β s.nl w.heap.size) { s with mem := (s.nl, t, cs) :: s.mem } L a (w.alloc (.cells (cellsOf β cs) t)) := by
    have h0 := hr.agree hb hag
    refine RelG.mk' h0.defers h0.size h0.env h0.os h0.tape h0.output ?_
    have := hr.sat'.alloc (.cells (cellsOf β cs) t)
    have e : memSP (upd β s.nl w.heap.size) ((s.nl, t, cs) :: s.mem) = blk w.heap.size (.cells (cellsOf β cs) t) :: memSP β s.mem := by
      have e1 := memSP_agree hag hb.mem
      simp only [memSP, List.map_cons, cellsOf, upd_self] at e1 ⊢
      rw [e1, dens_agree hag hc]
    rw [e, gmSP_agree hag hb.gm]
    exact this
  have := h1.putE hd he
  rw [hv] at this
  exact this

/-- A new block that may grow. -/
def newG (s : GS) (d : Option Nat) (gm : GMem) (low e n sz : Nat) (cs : List Ce) : Option GS :=
  match putO d (.c (.gro s.nl 0 n 0)) s.env with
  | some env => some ⟨env, s.mem, (s.nl, e, n, sz, cs) :: gm, s.nl + 2, low⟩
  | none => none
theorem newG_step {s' : GS} {o : Oper} {gm : GMem} {low e n sz : Nat} {cs : List Ce} {b c : Nat} {w' : World} (hr : RelG g β s L a w) (hb : Bd s) (hd : dstOk g.n o.dst = true) (hc : ∀ y ∈ cs, y.lt s.nl) (hgm : ltG s.nl gm) (h : newG s o.dst gm low e n sz cs = some s')
    (hrun : (execOp a.eval o).run g.P w = .ok (.value (.slice (some ⟨b, 0, none⟩) n c)) w') (ho : w'.os = w.os ∧ w'.tape = w.tape ∧ w'.output = w.output)
    (hs : SatW (ownS e (some ⟨b, 0, none⟩) n c sz (cs.map (Ce.den β)) :: (memSP β s.mem ++ (gmSP β gm ++ (L.map (·.2) ++ g.F)))) w') :
    ∃ β' a' w', agree s.nl β β' ∧ RelG g β' s' L a' w' ∧ ∀ N Q, N a' w' → o.wp g.P a w N Q := by
  unfold newG at h
  split at h <;> cases h
  rename_i env he
  have hag : agree s.nl β (upd (upd β s.nl b) (s.nl + 1) c) := fun l hl => by rw [upd_ne (by omega), upd_ne (by omega)]
  refine ⟨_, a.put o.dst (.slice (some ⟨b, 0, none⟩) n c), w', hag, ?_, fun N Q hn => wp_value hrun hn⟩
  have h1 : RelG g (upd (upd β s.nl b) (s.nl + 1) c) { s with gm := (s.nl, e, n, sz, cs) :: gm } L a w' := by
    have h0 := hr.agree hb hag
    refine RelG.mk' h0.defers h0.size h0.env (ho.1.trans h0.os) (ho.2.1.trans h0.tape) (ho.2.2.trans h0.output) ?_
    have e1 : gmSP (upd (upd β s.nl b) (s.nl + 1) c) ((s.nl, e, n, sz, cs) :: gm) = ownS e (some ⟨b, 0, none⟩) n c sz (cs.map (Ce.den β)) :: gmSP β gm := by
      have e2 := gmSP_agree hag hgm
      simp only [gmSP, List.map_cons] at e2 ⊢
      rw [e2]
      simp only [grSP, upd_self, upd_ne (show s.nl ≠ s.nl + 1 by omega), dens_agree hag hc]
    show SatW (memSP _ s.mem ++ (gmSP _ ((s.nl, e, n, sz, cs) :: gm) ++ (L.map (·.2) ++ g.F))) w'
    rw [memSP_agree hag hb.mem, e1]
    exact hs.perm List.perm_middle.symm
  have := h1.putE hd he
  simp only [SV.den, Ce.den, upd_self, upd_ne (show s.nl ≠ s.nl + 1 by omega), Nat.sub_zero] at this
  exact this
theorem newG_bd {s' : GS} {d : Option Nat} {gm : GMem} {low e n sz : Nat} {cs : List Ce} (hc : Bd s → ∀ y ∈ cs, y.lt s.nl) (hgm : Bd s → ltG s.nl gm) (h : newG s d gm low e n sz cs = some s') : (Bd s → Bd s') ∧ s.nl ≤ s'.nl ∧ s'.low = low ∧ s'.mem = s.mem ∧ s'.gm = (s.nl, e, n, sz, cs) :: gm := by
  unfold newG at h
  split at h <;> cases h
  rename_i env he
  refine ⟨fun b => ⟨(b.env.mono (by show s.nl ≤ s.nl + 2; omega)).putO (by show s.nl + 1 < s.nl + 2; omega) he, b.mem.mono (by show s.nl ≤ s.nl + 2; omega), ?_⟩, by show s.nl ≤ s.nl + 2; omega, rfl, rfl, rfl⟩
  intro x hm
  rcases List.mem_cons.1 hm with rfl | hm
  · exact ⟨by show s.nl + 1 < s.nl + 2; omega, fun y hy => Ce.lt_mono (by show s.nl ≤ s.nl + 2; omega) (hc b y hy)⟩
  · exact ((hgm b).mono (by show s.nl ≤ s.nl + 2; omega)) x hm
end

def minN (x y : Nat) : Nat :=
  match Nat.ble x y with
  | true => x
  | false => y
theorem minN_le (x y : Nat) : minN x y ≤ x ∧ minN x y ≤ y := by
  unfold minN
  split
  · rename_i h; exact ⟨Nat.le_refl _, by simpa using h⟩
  · rename_i h
    have : ¬ x ≤ y := by rw [← Nat.ble_eq, h]; simp
    exact ⟨by omega, Nat.le_refl _⟩
end Go.Proofs.Ytngfadijcpnblaa

/- The evaluator: append, make, stores: 'effX'. -/
namespace Go.Proofs.Ytngfadijcpnblaa
open Go.RowKit

/-- The cells of a slice: how many elements, which cells. -/
def rowCells (s : GS) (y : SV) (sz : Nat) : Option (Nat × List Ce) :=
  match rowOf y with
  | some (l, o, n) => match lookM s.mem l with
    | some (_, cs) => match cutL cs o (n * sz) with
      | some ys => some (n, ys)
      | none => none
    | none => match lookG s.gm l with
      | some (_, _, _, cs) => match cutL cs o (n * sz) with
        | some ys => some (n, ys)
        | none => none
      | none => none
  | none => none
def allPl : List Ce → Bool
  | [] => true
  | x :: r => match x.plain with
    | true => allPl r
    | false => false
def small (n by_ : Nat) : Bool :=
  match Nat.ble n maxLen with
  | true => Nat.ble (n * by_) 140737488355328
  | false => false
def appE (P : Program) (s : GS) (d : Option Nat) (t : TypeId) (x y : SV) : Option GS :=
  match P.underlying t with
  | some (.slice e) => match elemI P e with
    | some (sz, by_) => match rowCells s y sz with
      | none => match isNilS y with
        | true => match y with
          | .c (.v (.slice none 0 _)) => match x with
            | .c (.v (.slice none 0 c)) => match putO d x s.env with
              | some env => some { s with env := env }
              | none => none
            | .c (.locs _ _ n c) => match Nat.ble n c with
              | true => match putO d x s.env with
                | some env => some { s with env := env }
                | none => none
              | false => none
            | .c (.gro l _ n e') => match gmLen s.gm l with
              | some N => match Nat.ble (e' + n) N with
                | true => match putO d x s.env with
                  | some env => some { s with env := env }
                  | none => none
                | false => none
              | none => none
            | _ => none
          | _ => none
        | false => none
      | some (0, _) => none
      | some (m + 1, news) => match allPl news with
        | false => none
        | true => match x with
          | .c (.v (.slice none 0 0)) => match small (m + 1) by_ with
            | true => newG s d s.gm s.low e (m + 1) sz news
            | false => none
          | .c (.gro l 0 n 0) => match lookG s.gm l with
            | some (e2, N, sz2, cs) => match Nat.beq e2 e with
              | true => match Nat.beq N n with
                | true => match Nat.beq sz2 sz with
                  | true => match small (n + (m + 1)) by_ with
                    | true => match delG s.gm l with
                      | some gm' => match appS cs news with
                        | some zs => newG s d gm' (minN s.low l) e (n + (m + 1)) sz zs
                        | none => none
                      | none => none
                    | false => none
                  | false => none
                | false => none
              | false => none
            | none => none
          | .c (.locs l o n c) => match Nat.beq n c with
            | true => match small (n + (m + 1)) by_ with
              | true => match lookM s.mem l with
                | some (_, cs) => match cutL cs o (n * sz) with
                  | some olds => match appS olds news with
                    | some zs => newG s d s.gm s.low e (n + (m + 1)) sz zs
                    | none => none
                  | none => none
                | none => none
              | false => none
            | false => none
          | _ => none
    | none => none
  | _ => none

section
variable {g : Cx} {β : Nat → Nat} {s : GS} {L : Res} {a : Act} {w : World}

theorem rowCells_ok (h : RelG g β s L a w) {y : SV} {sz m : Nat} {news : List Ce} (hy : rowCells s y sz = some (m, news)) :
    ∃ b o c, y.den β = .slice (some ⟨b, o, none⟩) m c ∧ news.length = m * sz ∧ ∀ j u, (news.map (Ce.den β))[j]? = some u → w.cell? ⟨b, o + j, none⟩ = some u := by
  unfold rowCells at hy
  split at hy <;> try (cases hy; done)
  rename_i l o n hr
  obtain ⟨c, hd⟩ := rowOf_den hr β
  have key : ∀ (cs : List Ce), (∀ j x, cs[j]? = some x → w.cell? ⟨β l, j, none⟩ = some (x.den β)) → ∀ ys, cutL cs o (n * sz) = some ys → ys.length = n * sz ∧ ∀ j u, (ys.map (Ce.den β))[j]? = some u → w.cell? ⟨β l, o + j, none⟩ = some u := by
    intro cs hc ys hcut
    obtain ⟨c1, c2⟩ := cutL_spec cs o _ ys hcut
    refine ⟨c1, fun j u hu => ?_⟩
    rw [List.getElem?_map] at hu
    cases hj : ys[j]? with
    | none => rw [hj] at hu; cases hu
    | some x =>
      rw [hj] at hu
      cases hu
      have hlt : j < n * sz := by have := (List.getElem?_eq_some_iff.1 hj).1; omega
      exact hc _ _ (by rw [c2 j hlt]; exact hj)
  split at hy
  · rename_i cs hl
    split at hy <;> cases hy
    rename_i ys hcut
    obtain ⟨k1, k2⟩ := key cs (fun j x hx => by rw [h.cell hl, hx]; rfl) _ hcut
    exact ⟨β l, o, c, hd, k1, k2⟩
  · split at hy <;> try (cases hy; done)
    rename_i e N sz2 cs hl
    split at hy <;> cases hy
    rename_i ys hcut
    obtain ⟨cur, hg⟩ := h.gr hl
    obtain ⟨k1, k2⟩ := key cs (fun j x hx => hg.cell hx) _ hcut
    exact ⟨β l, o, c, hd, k1, k2⟩
theorem rowCells_lt (hb : Bd s) {y : SV} {sz m : Nat} {news : List Ce} (hy : rowCells s y sz = some (m, news)) : ∀ x ∈ news, x.lt s.nl := by
  unfold rowCells at hy
  split at hy <;> try (cases hy; done)
  split at hy
  · rename_i hl
    split at hy <;> cases hy
    rename_i hcut
    exact fun x hx => (hb.mem _ (lookM_mem hl)).2 _ (cutL_mem hcut x hx)
  · split at hy <;> try (cases hy; done)
    rename_i hl
    split at hy <;> cases hy
    rename_i hcut
    exact fun x hx => (hb.gm _ (lookG_mem hl)).2 _ (cutL_mem hcut x hx)
theorem allPl_one : ∀ {cs : List Ce}, allPl cs = true → ∀ u ∈ cs.map (Ce.den β), u.oneCell' = true
  | [], _, u, hu => by cases hu
  | x :: r, h, u, hu => by
    unfold allPl at h
    split at h <;> try (cases h; done)
    rename_i hx
    rcases List.mem_cons.1 hu with rfl | hu
    · exact plain_one hx
    · exact allPl_one h u hu
theorem small_ok {n by_ : Nat} (h : small n by_ = true) : n ≤ maxLen ∧ n * by_ ≤ 140737488355328 := by
  unfold small at h
  split at h <;> try (cases h; done)
  rename_i h1
  exact ⟨by simpa using h1, by simpa using h⟩
theorem app_nil {P : Program} {t ty e : TypeId} {i : TypeInfo} {A : Option Addr} {n c c2 : Nat} (ht : P.underlying t = some (.slice e)) (hi : P.info? e = some i) (hn : n ≤ c) (w : World) :
    (Builtin.append_ #[t, t] ty #[.slice A n c, .slice none 0 c2]).run P w = .ok (.slice A n c) w := by
  cases A <;> simp [Builtin.append_, run_underlying ht, sizeOf, typeInfo, hi, Builtin.lenOf, Builtin.firstCells, hn, storeCells]
theorem delG_lt {n : Nat} : ∀ {gm gm' : GMem} {l : Nat}, ltG n gm → delG gm l = some gm' → ltG n gm'
  | [], gm', l, h, hd => by simp only [delG, Option.some.injEq] at hd; subst hd; exact h
  | (k, y) :: r, gm', l, h, hd => by
    simp only [delG] at hd
    split at hd
    · cases hd; exact fun e he => h e (List.mem_cons_of_mem _ he)
    · split at hd <;> cases hd
      rename_i r' hr
      intro e he
      rcases List.mem_cons.1 he with rfl | he
      · exact h _ (by simp)
      · exact delG_lt (fun e he => h e (List.mem_cons_of_mem _ he)) hr e he
/-- What goes is below no bound that is kept. -/
theorem delG_keeps {b l : Nat} (hl : b ≤ l) : ∀ {gm gm' g0 : GMem}, (∃ n2, gm = n2 ++ g0 ∧ ∀ e ∈ n2, b ≤ e.1) → (∀ e ∈ g0, e.1 < b) → delG gm l = some gm' → ∃ n2, gm' = n2 ++ g0 ∧ ∀ e ∈ n2, b ≤ e.1
  | [], gm', g0, ⟨n2, h1, h2⟩, h3, hd => by
    simp only [delG, Option.some.injEq] at hd
    subst hd
    exact ⟨n2, h1, h2⟩
  | (k, y) :: r, gm', g0, ⟨n2, h1, h2⟩, h3, hd => by
    cases n2 with
    | nil =>
      -- nothing above: the label is found nowhere
      simp only [List.nil_append] at h1
      have hno : ∀ (q : GMem), (∀ e ∈ q, e.1 < b) → delG q l = some q := by
        intro q
        induction q with
        | nil => intro _; rfl
        | cons z q ih =>
          obtain ⟨kz, yz⟩ := z
          intro hq
          have hk : kz ≠ l := by have := hq (kz, yz) (by simp); simp at this; omega
          have hbq : Nat.beq kz l = false := by rw [← Bool.not_eq_true, Nat.beq_eq]; exact hk
          simp only [delG, hbq, ih fun e he => hq e (List.mem_cons_of_mem _ he)]
      rw [h1, hno g0 h3] at hd
      cases hd
      exact ⟨[], rfl, by simp⟩
    | cons z n2 =>
      simp only [List.cons_append, List.cons.injEq] at h1
      obtain ⟨rfl, h1⟩ := h1
      simp only [delG] at hd
      split at hd
      · cases hd
        exact ⟨n2, h1, fun e he => h2 e (List.mem_cons_of_mem _ he)⟩
      · split at hd <;> cases hd
        rename_i r' hr
        obtain ⟨n3, k1, k2⟩ := delG_keeps hl ⟨n2, h1, fun e he => h2 e (List.mem_cons_of_mem _ he)⟩ h3 hr
        refine ⟨(k, y) :: n3, by rw [k1]; rfl, ?_⟩
        intro e he
        rcases List.mem_cons.1 he with rfl | he
        · exact h2 _ (by simp)
        · exact k2 e he

theorem Grow.ofG {s' : GS} {d : Option Nat} {gm : GMem} {low e n sz : Nat} {cs : List Ce} (hc : Bd s → ∀ y ∈ cs, y.lt s.nl) (hgm : Bd s → ltG s.nl gm) (h : newG s d gm low e n sz cs = some s') (hlow : low ≤ s.low)
    (hk : ∀ b, b ≤ low → ∀ g0, (∃ n2, s.gm = n2 ++ g0 ∧ ∀ e ∈ n2, b ≤ e.1) → (∀ e ∈ g0, e.1 < b) → ∃ n2, gm = n2 ++ g0 ∧ ∀ e ∈ n2, b ≤ e.1) : Grow s s' := by
  obtain ⟨h1, h2, h3, h4, h5⟩ := newG_bd hc hgm h
  refine ⟨h1, h2, by rw [h3]; exact hlow, fun b hb hbn m0 g0 k1 k2 k3 k4 => ?_⟩
  rw [h3] at hb
  obtain ⟨n2, e1, e2⟩ := hk b hb g0 k2 k4
  refine ⟨by rw [h4]; exact k1, (s.nl, e, n, sz, cs) :: n2, by rw [h5, e1]; rfl, ?_⟩
  intro x hx
  rcases List.mem_cons.1 hx with rfl | hx
  · exact hbn
  · exact e2 x hx

theorem appE_grow {P : Program} {s' : GS} {d : Option Nat} {t : TypeId} {x y : SV} (hx : Bd s → x.lt s.nl) (h : appE P s d t x y = some s') : Grow s s' := by
  unfold appE at h
  split at h <;> try (cases h; done)
  split at h <;> try (cases h; done)
  split at h
  · split at h <;> try (cases h; done)
    split at h <;> try (cases h; done)
    split at h <;> try (cases h; done)
    · split at h <;> cases h
      rename_i he
      exact Grow.env hx he
    · split at h <;> try (cases h; done)
      split at h <;> cases h
      rename_i he
      exact Grow.env hx he
    · split at h <;> try (cases h; done)
      split at h <;> try (cases h; done)
      split at h <;> cases h
      rename_i he
      exact Grow.env hx he
  · cases h
  · rename_i m news hrow
    split at h <;> try (cases h; done)
    split at h <;> try (cases h; done)
    · split at h <;> try (cases h; done)
      exact Grow.ofG (fun b => rowCells_lt b hrow) (fun b => b.gm) h (Nat.le_refl _) (fun b _ g0 k _ => k)
    · split at h <;> try (cases h; done)
      rename_i hl
      split at h <;> try (cases h; done)
      split at h <;> try (cases h; done)
      split at h <;> try (cases h; done)
      split at h <;> try (cases h; done)
      split at h <;> try (cases h; done)
      rename_i gm' hd
      split at h <;> try (cases h; done)
      rename_i zs hz
      rw [appS_eq] at hz
      cases hz
      refine Grow.ofG (fun b => ?_) (fun b => delG_lt b.gm hd) h (minN_le _ _).1 (fun b hb g0 k1 k2 => delG_keeps (Nat.le_trans hb (minN_le _ _).2) k1 k2 hd)
      intro u hu
      rcases List.mem_append.1 hu with hu | hu
      · exact (b.gm _ (lookG_mem hl)).2 u hu
      · exact rowCells_lt b hrow u hu
    · split at h <;> try (cases h; done)
      split at h <;> try (cases h; done)
      split at h <;> try (cases h; done)
      rename_i hl
      split at h <;> try (cases h; done)
      rename_i olds hcut
      split at h <;> try (cases h; done)
      rename_i zs hz
      rw [appS_eq] at hz
      cases hz
      refine Grow.ofG (fun b => ?_) (fun b => b.gm) h (Nat.le_refl _) (fun b _ g0 k _ => k)
      intro u hu
      rcases List.mem_append.1 hu with hu | hu
      · exact (b.mem _ (lookM_mem hl)).2 u (cutL_mem hcut u hu)
      · exact rowCells_lt b hrow u hu
end
end Go.Proofs.Ytngfadijcpnblaa

/- The evaluator: operations that make or turn memory are as the model has them. -/
namespace Go.Proofs.Ytngfadijcpnblaa
open Go.RowKit

section
variable {g : Cx} {β : Nat → Nat} {s : GS} {L : Res} {a : Act} {w : World}

abbrev StepEx (g : Cx) (β : Nat → Nat) (s s' : GS) (L : Res) (a : Act) (w : World) (o : Oper) : Prop :=
  ∃ β' a' w', agree s.nl β β' ∧ RelG g β' s' L a' w' ∧ ∀ N Q, N a' w' → o.wp g.P a w N Q

theorem own_some {e n c sz : Nat} {A : Option Addr} {cells : List Value} {Ls : List SP} (h : SatW (ownS e A n c sz cells :: Ls) w) (hn : 0 < n) : ∃ b, A = some ⟨b, 0, none⟩ := by
  obtain ⟨r, hh, x1, x2, x3, r1, k1, k2, y1, y2, y3, y4, y5, y6⟩ := h
  rcases y5.2 with ⟨_, h0, _⟩ | ⟨b, cur, z3, _⟩
  · omega
  · exact ⟨b, z3⟩
theorem sat_nil {e sz : Nat} {Ls : List SP} (h : SatW Ls w) : SatW (ownS e none 0 0 sz [] :: Ls) w := by
  obtain ⟨r, hh, y1, y2, y3, y4⟩ := h
  exact ⟨r, hh, y1, y2, y3, PH.em, PH.em, hh, PH.em_le _, PH.em_le _, PH.le_refl _, PH.em_dj _, own_nil _ _ _ _, y4⟩

/-- append to a slice without room: a new block; all that was stays. -/
theorem app_full {P : Program} {t ty e : TypeId} {i : TypeInfo} {z : Value} {b o n b2 o2 m c : Nat} {olds news : List Value} (ht : P.underlying t = some (.slice e)) (hi : P.info? e = some i) (hz : i.zero = some z) (hzs : z.cells.size = i.size)
    (hlo : olds.length = n * i.size) (hold : ∀ j u, olds[j]? = some u → w.cell? ⟨b, o + j, none⟩ = some u) (hln : news.length = m * i.size) (hnew : ∀ j u, news[j]? = some u → w.cell? ⟨b2, o2 + j, none⟩ = some u) (hm : 0 < m)
    (h63 : n + m ≤ maxLen) (hbytes : (n + m) * i.bytes ≤ 140737488355328) :
    ∃ c' w', (Builtin.append_ #[t, t] ty #[.slice (some ⟨b, o, none⟩) n n, .slice (some ⟨b2, o2, none⟩) m c]).run P w = .ok (.slice (some ⟨w.heap.size, 0, none⟩) (n + m) c') w' ∧ w'.os = w.os ∧ w'.tape = w.tape ∧ w'.output = w.output ∧
      ∀ Ls, SatW Ls w → SatW (ownS e (some ⟨w.heap.size, 0, none⟩) (n + m) c' i.size (olds ++ news) :: Ls) w' := by
  have hsm : n + m ≤ 9223372036854775807 := by simp only [maxLen] at h63; omega
  have hge := grownCap_ge w (n + m) n e
  have hcm := grownCap_le_maxLen w (n + m) n e h63
  refine ⟨grownCap w (n + m) n e, w.drew.alloc (.cells (olds.toArray ++ news.toArray ++ Builtin.zeroCells z.cells (grownCap w (n + m) n e - (n + m))) e), ?_, rfl, rfl, rfl, fun Ls hs => ?_⟩
  · exact run_append_grow (P := P) w t ty e i z ht hi hz ⟨b, o, none⟩ n n olds hlo (fun j u hu => by rw [add_plain']; exact hold j u hu) ⟨b2, o2, none⟩ m c news hln (fun j u hu => by rw [add_plain']; exact hnew j u hu) (by omega) (by omega) (growslice_fits (by omega) hbytes)
  · have h1 := (hs.heap (w' := w.drew) rfl).alloc (.cells (olds.toArray ++ news.toArray ++ Builtin.zeroCells z.cells (grownCap w (n + m) n e - (n + m))) e)
    refine h1.imp fun r h hb => ⟨by rw [List.length_append, hlo, hln, Nat.add_mul], .inr ⟨w.heap.size, _, rfl, hb, hge, hcm, ?_, ?_⟩⟩
    · simp only [Array.size_append, List.size_toArray, size_zeroCells, hzs, hlo, hln, ← Nat.add_mul]
      congr 1
      omega
    · have hlen2 : (olds ++ news).length = (n + m) * i.size := by rw [List.length_append, hlo, hln, Nat.add_mul]
      simp only [Array.toList_append, List.append_assoc]
      rw [← List.append_assoc, ← hlen2]
      exact List.take_left

set_option maxHeartbeats 1000000 in
theorem appE_step {s' : GS} {o : Oper} {t : TypeId} {xo yo : Operand} {x y : SV} (hr : RelG g β s L a w) (hb : Bd s) (hd : dstOk g.n o.dst = true) (ho : o.op = .call ⟨.builtin .append, #[xo, yo], #[t, t]⟩)
    (hx : ev s.env xo = some x) (hy : ev s.env yo = some y) (h : appE g.P s o.dst t x y = some s') : StepEx g β s s' L a w o := by
  have ex := hr.ev hx
  have ey := hr.ev hy
  have hrun : ∀ v w', (Builtin.append_ #[t, t] o.type #[x.den β, y.den β]).run g.P w = .ok v w' → (execOp a.eval o).run g.P w = .ok (.value v) w' := fun v w' hw => by
    simp [execOp, ho, resolve, ex, ey, invoke, builtin, hw]
  unfold appE at h
  split at h <;> try (cases h; done)
  rename_i e ht
  split at h <;> try (cases h; done)
  rename_i sz by_ he
  obtain ⟨ei, z, hei, hz, hzs, hpos, hes, hby⟩ := elemI_ok he
  have same : ∀ env, putO o.dst x s.env = some env → (Builtin.append_ #[t, t] o.type #[x.den β, y.den β]).run g.P w = .ok (x.den β) w → StepEx g β s { s with env := env } L a w o := fun env hp hw =>
    ⟨β, a.put o.dst (x.den β), w, agree.refl _ _, hr.putE hd hp, fun N Q hn => wp_value (hrun _ _ hw) hn⟩
  split at h
  · split at h <;> try (cases h; done)
    split at h <;> try (cases h; done)
    rename_i c2
    split at h <;> try (cases h; done)
    · split at h <;> cases h
      rename_i env hp
      exact same _ hp (app_nil ht hei (Nat.zero_le _) w)
    · split at h <;> try (cases h; done)
      rename_i hle
      split at h <;> cases h
      rename_i env hp
      exact same _ hp (app_nil ht hei (by simpa using hle) w)
    · split at h <;> try (cases h; done)
      rename_i l o' n e' _ N hN
      split at h <;> try (cases h; done)
      rename_i hle
      split at h <;> cases h
      rename_i env hp
      have h1 := gmLen_ok hr _ _ hN
      have h2 : e' + n ≤ N := by simpa using hle
      exact same _ hp (app_nil ht hei (by omega) w)
  · cases h
  · rename_i m news hrow
    obtain ⟨b2, o2, c2, hyd, hnl, hnc⟩ := rowCells_ok hr hrow
    have hnlt := rowCells_lt hb hrow
    have hnl' : (news.map (Ce.den β)).length = (m + 1) * ei.size := by rw [List.length_map, hnl, hes]
    have hnc' : ∀ j u, (news.map (Ce.den β))[j]? = some u → w.cell? ((⟨b2, o2, none⟩ : Addr).add j) = some u := fun j u hu => by rw [add_plain']; exact hnc j u hu
    split at h <;> try (cases h; done)
    rename_i hpl
    have hone := allPl_one (β := β) hpl
    split at h <;> try (cases h; done)
    · -- the first ones
      split at h <;> try (cases h; done)
      rename_i hsm
      obtain ⟨s1, s2⟩ := small_ok hsm
      obtain ⟨A', c'', w', r1, r2, r3, r4, r5⟩ := own_append (P := g.P) (ty := o.type) ht hei hz hzs hpos (sat_nil (e := e) (sz := ei.size) hr.sat') ⟨b2, o2, none⟩ (m + 1) c2 _ hnl' hnc' hone (by omega) (by rw [hby, Nat.zero_add]; exact s2)
      rw [Nat.zero_add] at r1 r5
      obtain ⟨b, rfl⟩ := own_some r5 (by omega)
      rw [hes] at r5
      refine newG_step (b := b) (c := c'') hr hb hd hnlt hb.gm h (hrun _ _ ?_) ⟨r2, r3, r4⟩ r5
      rw [hyd]
      exact r1
    · -- more
      rename_i l n
      split at h <;> try (cases h; done)
      rename_i e2 N sz2 cs hl
      split at h <;> try (cases h; done)
      rename_i he2
      obtain rfl : e2 = e := Nat.eq_of_beq_eq_true he2
      split at h <;> try (cases h; done)
      rename_i hN
      obtain rfl : N = n := Nat.eq_of_beq_eq_true hN
      split at h <;> try (cases h; done)
      rename_i hz2
      obtain rfl : sz2 = sz := Nat.eq_of_beq_eq_true hz2
      split at h <;> try (cases h; done)
      rename_i hsm
      obtain ⟨s1, s2⟩ := small_ok hsm
      split at h <;> try (cases h; done)
      rename_i gm' hdel
      split at h <;> try (cases h; done)
      rename_i zs hzz
      rw [appS_eq] at hzz
      cases hzz
      have hsat : SatW (grSP β (l, e2, N, sz2, cs) :: (memSP β s.mem ++ (gmSP β gm' ++ (L.map (·.2) ++ g.F)))) w := by
        have h1 := hr.sat'.swapHead
        have h2 := h1.perm ((lookG_perm hl hdel).append_right _)
        have h3 : SatW ((grSP β (l, e2, N, sz2, cs) :: gmSP β gm') ++ (memSP β s.mem ++ (L.map (·.2) ++ g.F))) w := h2
        exact h3.swapHead.perm List.perm_middle
      unfold grSP at hsat
      simp only at hsat
      rw [← hes] at hsat
      obtain ⟨A', c'', w', r1, r2, r3, r4, r5⟩ := own_append (P := g.P) (ty := o.type) ht hei hz hzs hpos hsat ⟨b2, o2, none⟩ (m + 1) c2 _ hnl' hnc' hone (by omega) (by rw [hby]; exact s2)
      obtain ⟨b, rfl⟩ := own_some r5 (by omega)
      rw [hes, ← List.map_append] at r5
      refine newG_step (b := b) (c := c'') hr hb hd ?_ (delG_lt hb.gm hdel) h (hrun _ _ ?_) ⟨r2, r3, r4⟩ r5
      · intro u hu
        rcases List.mem_append.1 hu with hu | hu
        · exact (hb.gm _ (lookG_mem hl)).2 u hu
        · exact hnlt u hu
      · rw [hyd]
        simpa [SV.den, Ce.den] using r1
    · -- without room
      rename_i l o' n c
      split at h <;> try (cases h; done)
      rename_i hnc2
      obtain rfl : n = c := Nat.eq_of_beq_eq_true hnc2
      split at h <;> try (cases h; done)
      rename_i hsm
      obtain ⟨s1, s2⟩ := small_ok hsm
      split at h <;> try (cases h; done)
      rename_i tt cs hl
      split at h <;> try (cases h; done)
      rename_i olds hcut
      split at h <;> try (cases h; done)
      rename_i zs hzz
      rw [appS_eq] at hzz
      cases hzz
      obtain ⟨c1, c3⟩ := cutL_spec cs o' _ olds hcut
      have hold : ∀ j u, (olds.map (Ce.den β))[j]? = some u → w.cell? ⟨β l, o' + j, none⟩ = some u := by
        intro j u hu
        rw [List.getElem?_map] at hu
        cases hj : olds[j]? with
        | none => rw [hj] at hu; cases hu
        | some x =>
          rw [hj] at hu
          cases hu
          have hlt : j < n * sz := by have := (List.getElem?_eq_some_iff.1 hj).1; omega
          rw [hr.cell hl, c3 j hlt, hj]
          rfl
      obtain ⟨c', w', r1, r2, r3, r4, r5⟩ := app_full (P := g.P) (ty := o.type) (m := m + 1) (c := c2) ht hei hz hzs (by rw [List.length_map, c1, hes]) hold hnl' hnc (by omega) (by omega) (by rw [hby]; exact s2)
      have r6 := r5 _ hr.sat'
      rw [hes, ← List.map_append] at r6
      refine newG_step (b := w.heap.size) (c := c') hr hb hd ?_ hb.gm h (hrun _ _ ?_) ⟨r2, r3, r4⟩ r6
      · intro u hu
        rcases List.mem_append.1 hu with hu | hu
        · exact (hb.mem _ (lookM_mem hl)).2 u (cutL_mem hcut u hu)
        · exact hnlt u hu
      · rw [hyd]
        exact r1
end
end Go.Proofs.Ytngfadijcpnblaa

/- The evaluator: stores, make, and all operations that are no calls of functions: 'effX'. -/
namespace Go.Proofs.Ytngfadijcpnblaa
open Go.RowKit

section
variable {g : Cx} {β : Nat → Nat} {s : GS} {L : Res} {a : Act} {w : World}

theorem setMo_keeps {b l : Nat} {zs : List Ce} (hl : b ≤ l) : ∀ {m m' m0 : Mem}, (∃ n1, m = n1 ++ m0 ∧ ∀ e ∈ n1, b ≤ e.1) → (∀ e ∈ m0, e.1 < b) → setMo m l zs = some m' → ∃ n1, m' = n1 ++ m0 ∧ ∀ e ∈ n1, b ≤ e.1
  | [], m', m0, ⟨n1, h1, h2⟩, h3, hd => by
    simp only [setMo, Option.some.injEq] at hd
    subst hd
    exact ⟨n1, h1, h2⟩
  | (k, t, y) :: r, m', m0, ⟨n1, h1, h2⟩, h3, hd => by
    cases n1 with
    | nil =>
      simp only [List.nil_append] at h1
      have hno : ∀ (q : Mem), (∀ e ∈ q, e.1 < b) → setMo q l zs = some q := by
        intro q
        induction q with
        | nil => intro _; rfl
        | cons z q ih =>
          obtain ⟨kz, tz, yz⟩ := z
          intro hq
          have hk : kz ≠ l := by have := hq (kz, tz, yz) (by simp); simp at this; omega
          have hbq : Nat.beq kz l = false := by rw [← Bool.not_eq_true, Nat.beq_eq]; exact hk
          simp only [setMo, hbq, ih fun e he => hq e (List.mem_cons_of_mem _ he)]
      rw [h1, hno m0 h3] at hd
      cases hd
      exact ⟨[], rfl, by simp⟩
    | cons z n1 =>
      simp only [List.cons_append, List.cons.injEq] at h1
      obtain ⟨rfl, h1⟩ := h1
      simp only [setMo] at hd
      split at hd
      · cases hd
        refine ⟨(k, t, zs) :: n1, by rw [h1]; rfl, ?_⟩
        intro e he
        rcases List.mem_cons.1 he with rfl | he
        · exact h2 (k, t, y) (by simp)
        · exact h2 e (List.mem_cons_of_mem _ he)
      · split at hd <;> cases hd
        rename_i r' hr
        obtain ⟨n3, k1, k2⟩ := setMo_keeps hl ⟨n1, h1, fun e he => h2 e (List.mem_cons_of_mem _ he)⟩ h3 hr
        refine ⟨(k, t, y) :: n3, by rw [k1]; rfl, ?_⟩
        intro e he
        rcases List.mem_cons.1 he with rfl | he
        · exact h2 _ (by simp)
        · exact k2 e he
theorem setG_keeps {b l : Nat} {zs : List Ce} (hl : b ≤ l) : ∀ {m m' m0 : GMem}, (∃ n1, m = n1 ++ m0 ∧ ∀ e ∈ n1, b ≤ e.1) → (∀ e ∈ m0, e.1 < b) → setG m l zs = some m' → ∃ n1, m' = n1 ++ m0 ∧ ∀ e ∈ n1, b ≤ e.1
  | [], m', m0, ⟨n1, h1, h2⟩, h3, hd => by
    simp only [setG, Option.some.injEq] at hd
    subst hd
    exact ⟨n1, h1, h2⟩
  | (k, t, u, v, y) :: r, m', m0, ⟨n1, h1, h2⟩, h3, hd => by
    cases n1 with
    | nil =>
      simp only [List.nil_append] at h1
      have hno : ∀ (q : GMem), (∀ e ∈ q, e.1 < b) → setG q l zs = some q := by
        intro q
        induction q with
        | nil => intro _; rfl
        | cons z q ih =>
          obtain ⟨kz, tz, uz, vz, yz⟩ := z
          intro hq
          have hk : kz ≠ l := by have := hq (kz, tz, uz, vz, yz) (by simp); simp at this; omega
          have hbq : Nat.beq kz l = false := by rw [← Bool.not_eq_true, Nat.beq_eq]; exact hk
          simp only [setG, hbq, ih fun e he => hq e (List.mem_cons_of_mem _ he)]
      rw [h1, hno m0 h3] at hd
      cases hd
      exact ⟨[], rfl, by simp⟩
    | cons z n1 =>
      simp only [List.cons_append, List.cons.injEq] at h1
      obtain ⟨rfl, h1⟩ := h1
      simp only [setG] at hd
      split at hd
      · cases hd
        refine ⟨(k, t, u, v, zs) :: n1, by rw [h1]; rfl, ?_⟩
        intro e he
        rcases List.mem_cons.1 he with rfl | he
        · exact h2 (k, t, u, v, y) (by simp)
        · exact h2 e (List.mem_cons_of_mem _ he)
      · split at hd <;> cases hd
        rename_i r' hr
        obtain ⟨n3, k1, k2⟩ := setG_keeps hl ⟨n1, h1, fun e he => h2 e (List.mem_cons_of_mem _ he)⟩ h3 hr
        refine ⟨(k, t, u, v, y) :: n3, by rw [k1]; rfl, ?_⟩
        intro e he
        rcases List.mem_cons.1 he with rfl | he
        · exact h2 _ (by simp)
        · exact k2 e he
theorem setMo_lt {n l : Nat} {zs : List Ce} (hz : ∀ z ∈ zs, z.lt n) : ∀ {m m' : Mem}, ltM n m → setMo m l zs = some m' → ltM n m'
  | [], m', h, hd => by simp only [setMo, Option.some.injEq] at hd; subst hd; exact h
  | (k, t, y) :: r, m', h, hd => by
    simp only [setMo] at hd
    split at hd
    · cases hd
      intro e he
      rcases List.mem_cons.1 he with rfl | he
      · exact ⟨(h (k, t, y) (by simp)).1, hz⟩
      · exact h e (List.mem_cons_of_mem _ he)
    · split at hd <;> cases hd
      rename_i r' hr
      intro e he
      rcases List.mem_cons.1 he with rfl | he
      · exact h _ (by simp)
      · exact setMo_lt hz (fun e he => h e (List.mem_cons_of_mem _ he)) hr e he
theorem setG_lt {n l : Nat} {zs : List Ce} (hz : ∀ z ∈ zs, z.lt n) : ∀ {m m' : GMem}, ltG n m → setG m l zs = some m' → ltG n m'
  | [], m', h, hd => by simp only [setG, Option.some.injEq] at hd; subst hd; exact h
  | (k, t, u, v, y) :: r, m', h, hd => by
    simp only [setG] at hd
    split at hd
    · cases hd
      intro e he
      rcases List.mem_cons.1 he with rfl | he
      · exact ⟨(h (k, t, u, v, y) (by simp)).1, hz⟩
      · exact h e (List.mem_cons_of_mem _ he)
    · split at hd <;> cases hd
      rename_i r' hr
      intro e he
      rcases List.mem_cons.1 he with rfl | he
      · exact h _ (by simp)
      · exact setG_lt hz (fun e he => h e (List.mem_cons_of_mem _ he)) hr e he
theorem setG_perm : ∀ {gm gm' gd : GMem} {l e n sz : Nat} {cs zs : List Ce}, lookG gm l = some (e, n, sz, cs) → setG gm l zs = some gm' → delG gm l = some gd → (gmSP β gm').Perm (grSP β (l, e, n, sz, zs) :: gmSP β gd)
  | [], _, _, _, _, _, _, _, _, h, _, _ => by cases h
  | (k, t, u, v, y) :: r, gm', gd, l, e, n, sz, cs, zs, h, hs, hd => by
    rw [lookG_cons] at h
    simp only [setG] at hs
    simp only [delG] at hd
    by_cases ek : k = l
    · subst ek
      rw [if_pos rfl] at h
      cases h
      simp at hs hd
      subst hs
      subst hd
      exact List.Perm.refl _
    · rw [if_neg ek] at h
      have hb : Nat.beq k l = false := by rw [← Bool.not_eq_true, Nat.beq_eq]; exact ek
      rw [hb] at hs hd
      simp only at hs hd
      split at hs <;> cases hs
      rename_i r1 h1
      split at hd <;> cases hd
      rename_i r2 h2
      exact (List.Perm.cons _ (setG_perm h h1 h2)).trans (List.Perm.swap _ _ _)

theorem gr_store {l e n sz off : Nat} {cs ys zs : List Ce} {gm' : GMem} {t : TypeId} {i : TypeInfo} {v : Value} (hr : RelG g β s L a w) (hl : lookG s.gm l = some (e, n, sz, cs)) (hv : v.cells = cellsOf β ys) (hi : g.P.info? t = some i) (hs : ys.length = i.size)
    (hfit : off + ys.length ≤ cs.length) (hp : allPlain ys = true) (hz : fillS.setsO cs off ys = some zs) (hg : setG s.gm l zs = some gm') :
    ∃ w', (Instr.storeAt t (.pointer (some ⟨β l, off, none⟩)) v).run g.P w = .ok () w' ∧ RelG g β { s with gm := gm' } L a w' := by
  obtain ⟨gd, hd⟩ := delG_some s.gm l
  have h2 := hr.sat'.swapHead.perm ((lookG_perm hl hd).append_right _)
  obtain ⟨r, hh, x1, x2, x3, r1, k1, k2, y1, y2, y3, y4, y5, y6⟩ := h2
  obtain ⟨z1, z2⟩ := y5
  rcases z2 with ⟨z3, _⟩ | ⟨b, cur, z3, z4, z5, z6, z7, z8⟩
  · cases z3
  cases z3
  simp only at z1 z4 z5 z6 z7 z8
  rw [List.length_map] at z1
  have hblk : SatW (blk (β l) (.cells cur e (0, 0)) :: (gmSP β gd ++ (memSP β s.mem ++ (L.map (·.2) ++ g.F)))) w := ⟨r, hh, x1, x2, x3, r1, k1, k2, y1, y2, y3, y4, z4, y6⟩
  have hw := hblk.get
  have hcs : n * sz ≤ cur.size := by rw [z7]; exact Nat.mul_le_mul_right _ z5
  have hst := run_storeCells_at g.P (β l) off e (ys.map (Ce.den β)) 0 cur w hw (by simp; omega) (by
    intro v hv
    obtain ⟨x, hx, rfl⟩ := List.mem_map.1 hv
    exact plain_one (allPlain_mem hp x hx))
  obtain ⟨q1, q2⟩ := setsO_spec cs off ys zs hz
  refine ⟨w.setRow (β l) (cur.toList.take (off + 0) ++ ys.map (Ce.den β) ++ cur.toList.drop (off + 0 + (ys.map (Ce.den β)).length)).toArray, ?_, ?_⟩
  · have e : v.cells.toList = ys.map (Ce.den β) := by rw [hv]; simp [cellsOf]
    have e2 : v.cells.size = i.size := by rw [hv, size_cellsOf, hs]
    simp [Instr.storeAt, Instr.sureAddr, storeVar, sizeOf, typeInfo, hi, e, e2] at hst ⊢
    simp [hst]
  · have h3 := SatW.set hblk (o' := .cells (cur.toList.take (off + 0) ++ ys.map (Ce.den β) ++ cur.toList.drop (off + 0 + (ys.map (Ce.den β)).length)).toArray e (0, 0)) (fun n hn => setRow_other w _ n _ hn) (setRow_heap w _ _ _ _ _ hw)
    have h4 := h3.imp (Q := grSP β (l, e, n, sz, zs)) (fun r h hb => by
      refine ⟨by rw [List.length_map, q1, z1], .inr ⟨β l, _, rfl, hb, z5, z6, ?_, ?_⟩⟩
      · simp only [List.size_toArray, List.length_append, List.length_take, List.length_drop, List.length_map, Array.length_toList, ← z7]
        omega
      · apply List.ext_getElem?
        intro j
        have zj := congrArg (fun q : List Value => q[j]?) z8
        simp only [List.getElem?_take, List.getElem?_map] at zj ⊢
        rw [q2 j]
        by_cases hj : j < n * sz
        · rw [if_pos hj] at zj ⊢
          simp only [Nat.add_zero, List.getElem?_append, List.length_take, List.length_append, List.length_map, Array.length_toList, List.getElem?_take, List.getElem?_drop, List.getElem?_map]
          by_cases c1 : j < off
          · rw [if_pos (by omega), if_pos (by omega), if_pos c1, if_neg (by omega)]
            exact zj
          · by_cases c2 : j < off + ys.length
            · rw [if_pos (by omega), if_neg (by omega), if_pos ⟨by omega, c2⟩, Nat.min_eq_left (by omega)]
            · rw [if_neg (by omega), if_neg (by omega), Nat.min_eq_left (by omega), show off + ys.length + (j - (off + ys.length)) = j from by omega]
              exact zj
        · rw [if_neg hj, if_neg (by omega), List.getElem?_eq_none (by omega)]
          rfl)
    refine RelG.mk' hr.defers hr.size hr.env hr.os hr.tape hr.output ?_
    have h5 : SatW (gmSP β gm' ++ (memSP β s.mem ++ (L.map (·.2) ++ g.F))) _ := SatW.perm (L := (grSP β (l, e, n, sz, zs) :: gmSP β gd) ++ (memSP β s.mem ++ (L.map (·.2) ++ g.F))) h4 ((setG_perm hl hg hd).symm.append_right _)
    exact h5.swapHead

theorem made_eq {P : Program} {e n : Nat} {i : TypeInfo} {z : List Ce} {zv : Value} (hzc : zv.cells = cellsOf β z) (e1 : z.length = i.size) (e3 : 0 < i.size) : (Array.range (n * i.size)).map (zv.cells[· % zv.cells.size]!) = cellsOf β (List.replicate n z).flatten := by
  rw [hzc, size_cellsOf]
  apply Array.ext_getElem?
  intro j
  rw [getElem?_cellsOf]
  simp only [Array.getElem?_map]
  by_cases hj : j < n * i.size
  · rw [rep_get z (by omega) n j (by rw [e1]; exact hj)]
    have hm : j % z.length < z.length := Nat.mod_lt _ (by omega)
    have e5 : (cellsOf β z)[j % z.length]! = z[j % z.length].den β := by
      rw [getElem!_pos _ _ (by rw [size_cellsOf]; exact hm)]
      simp [cellsOf]
    simp [hj, e5, List.getElem?_eq_getElem hm]
  · rw [List.getElem?_eq_none (by simp [e1]; omega)]
    simp [hj]
end

theorem run_makeSlice' {P : Program} {w : World} {t e : TypeId} {i : TypeInfo} {z : Value} (ht : P.underlying t = some (.slice e)) (hi : P.info? e = some i) (hz : i.zero = some z) (kl kc : IntKind) (l c : Nat) (hlc : l ≤ c) (hb : i.bytes * c ≤ 281474976710656) (h63 : c ≤ 9223372036854775807) :
    (Instr.makeSlice t (.int kl (Int.ofNat l)) (.int kc (Int.ofNat c))).run P w = .ok (.slice (some ⟨w.heap.size, 0, none⟩) l c) (w.alloc (.cells (madeCells z.cells (c * i.size)) e)) :=
  run_make w t e i z ht hi hz kl kc (Int.ofNat l) (Int.ofNat c) (Int.natCast_nonneg _) (Int.ofNat_le.2 hlc) (by show (i.bytes : Int) * (c : Int) ≤ _; rw [← Int.natCast_mul]; omega) (by show (c : Int) ≤ _; omega)

/-- An operation that makes or turns memory. -/
def effX (P : Program) (n : Nat) (s : GS) (o : Oper) : Option GS :=
  match dstOk n o.dst with
  | false => none
  | true => match o.op with
    | .pick c x y => match nrm (ev s.env c) with
      | some (.c (.v (.bool b))) => match ev s.env (match b with | true => x | false => y) with
        | some u => match putO o.dst u s.env with
          | some env => some { s with env := env }
          | none => none
        | none => none
      | _ => none
    | .alloc t => match zeroS P t with
      | some cs => newL s o.dst (.c (.loc s.nl 0)) t cs
      | none => none
    | .box t x => match ev s.env x with
      | some u => match cellsS u with
        | some cs => newL s o.dst (.c (.loc s.nl 0)) t cs
        | none => none
      | none => none
    | .buildSlice t m ps => match P.underlying t with
      | some (.slice e) => match rowS P s.env e m ps.toList with
        | some cs => newL s o.dst (.c (.locs s.nl 0 m m)) e cs
        | none => none
      | _ => none
    | .makeSlice t l c => match P.underlying t with
      | some (.slice e) => match nrm (ev s.env l) with
        | some (.c (.v (.int _ (.ofNat l)))) => match nrm (ev s.env c) with
          | some (.c (.v (.int _ (.ofNat c)))) => match P.info? e with
            | some i => match i.zero with
              | some _ => match zeroS P e with
                | some z => match Nat.beq z.length i.size with
                  | true => match Nat.blt 0 i.size with
                    | true => match Nat.ble l c with
                      | true => match Nat.ble (i.bytes * c) 281474976710656 with
                        | true => match Nat.ble c 9223372036854775807 with
                          | true => match repS c z with
                            | some cs => newL s o.dst (.c (.locs s.nl 0 l c)) e cs
                            | none => none
                          | false => none
                        | false => none
                      | false => none
                    | false => none
                  | false => none
                | none => none
              | none => none
            | none => none
          | _ => none
        | _ => none
      | _ => none
    | .store t x y => match ev s.env x with
      | some (.c (.loc l off)) => match ev s.env y with
        | some u => match cellsS u with
          | some ys => match P.info? t with
            | some i => match Nat.beq ys.length i.size with
              | true => match allPlain ys with
                | true => match lookM s.mem l with
                  | some (_, cs) => match Nat.ble (off + ys.length) cs.length with
                    | true => match fillS.setsO cs off ys with
                      | some zs => match setMo s.mem l zs with
                        | some mem' => match putO o.dst (.c (.v undef)) s.env with
                          | some env => some { s with env := env, mem := mem', low := minN s.low l }
                          | none => none
                        | none => none
                      | none => none
                    | false => none
                  | none => match lookG s.gm l with
                    | some (_, _, _, cs) => match Nat.ble (off + ys.length) cs.length with
                      | true => match fillS.setsO cs off ys with
                        | some zs => match setG s.gm l zs with
                          | some gm' => match putO o.dst (.c (.v undef)) s.env with
                            | some env => some { s with env := env, gm := gm', low := minN s.low l }
                            | none => none
                          | none => none
                        | none => none
                      | false => none
                    | none => none
                | false => none
              | false => none
            | none => none
          | none => none
        | none => none
      | _ => none
    | .call ⟨.builtin .append, args, ts⟩ => match args.toList with
      | [x, y] => match ts.toList with
        | [t, t'] => match Nat.beq t t' with
          | true => match ev s.env x with
            | some u => match ev s.env y with
              | some v => appE P s o.dst t u v
              | none => none
            | none => none
          | false => none
        | _ => none
      | _ => none
    | _ => none

theorem effX_grow {P : Program} {n : Nat} {s s' : GS} {o : Oper} (h : effX P n s o = some s') : Grow s s' := by
  unfold effX at h
  split at h <;> try (cases h; done)
  split at h <;> try (cases h; done)
  · -- pick
    split at h <;> try (cases h; done)
    split at h <;> try (cases h; done)
    rename_i u hu
    split at h <;> cases h
    rename_i hp
    exact Grow.env (fun b => ev_lt b.env hu) hp
  · split at h <;> try (cases h; done)
    rename_i hz
    exact newL_grow (fun b => zeroS_lt hz) (Nat.lt_succ_self _) h
  · split at h <;> try (cases h; done)
    rename_i hu
    split at h <;> try (cases h; done)
    rename_i hc
    exact newL_grow (fun b => cellsS_lt (ev_lt b.env hu) hc) (Nat.lt_succ_self _) h
  · split at h <;> try (cases h; done)
    split at h <;> try (cases h; done)
    rename_i hr
    exact newL_grow (fun b => rowS_lt b.env hr) (Nat.lt_succ_self _) h
  · split at h <;> try (cases h; done)
    split at h <;> try (cases h; done)
    split at h <;> try (cases h; done)
    split at h <;> try (cases h; done)
    split at h <;> try (cases h; done)
    split at h <;> try (cases h; done)
    rename_i z hz
    split at h <;> try (cases h; done)
    split at h <;> try (cases h; done)
    split at h <;> try (cases h; done)
    split at h <;> try (cases h; done)
    split at h <;> try (cases h; done)
    split at h <;> try (cases h; done)
    rename_i cs hr
    rw [repS_eq] at hr
    cases hr
    refine newL_grow (fun b => ?_) (Nat.lt_succ_self _) h
    intro x hx
    obtain ⟨l, hl, hx2⟩ := List.mem_flatten.1 hx
    obtain rfl := List.eq_of_mem_replicate hl
    exact zeroS_lt hz x hx2
  · split at h <;> try (cases h; done)
    split at h <;> try (cases h; done)
    rename_i u hu
    split at h <;> try (cases h; done)
    rename_i ys hys
    split at h <;> try (cases h; done)
    split at h <;> try (cases h; done)
    split at h <;> try (cases h; done)
    split at h
    · rename_i cs hl
      split at h <;> try (cases h; done)
      split at h <;> try (cases h; done)
      rename_i zs hz
      split at h <;> try (cases h; done)
      rename_i mem' hm
      split at h <;> cases h
      rename_i env hp
      have hzl : ∀ (b : Bd s), ∀ x ∈ zs, x.lt s.nl := fun b x hx => by
        rcases setsO_mem hz x hx with h1 | h1
        · exact (b.mem _ (lookM_mem hl)).2 x h1
        · exact cellsS_lt (ev_lt b.env hu) hys x h1
      exact ⟨fun b => ⟨b.env.putO (x := .c (.v undef)) trivial hp, setMo_lt (hzl b) b.mem hm, b.gm⟩, Nat.le_refl _, (minN_le _ _).1, fun b hb hn m0 g0 k1 k2 k3 k4 => ⟨setMo_keeps (Nat.le_trans hb (minN_le _ _).2) k1 k3 hm, k2⟩⟩
    · split at h <;> try (cases h; done)
      rename_i e nn sz cs hl
      split at h <;> try (cases h; done)
      split at h <;> try (cases h; done)
      rename_i zs hz
      split at h <;> try (cases h; done)
      rename_i gm' hm
      split at h <;> cases h
      rename_i env hp
      have hzl : ∀ (b : Bd s), ∀ x ∈ zs, x.lt s.nl := fun b x hx => by
        rcases setsO_mem hz x hx with h1 | h1
        · exact (b.gm _ (lookG_mem hl)).2 x h1
        · exact cellsS_lt (ev_lt b.env hu) hys x h1
      exact ⟨fun b => ⟨b.env.putO (x := .c (.v undef)) trivial hp, b.mem, setG_lt (hzl b) b.gm hm⟩, Nat.le_refl _, (minN_le _ _).1, fun b hb hn m0 g0 k1 k2 k3 k4 => ⟨k1, setG_keeps (Nat.le_trans hb (minN_le _ _).2) k2 k4 hm⟩⟩
  · split at h <;> try (cases h; done)
    split at h <;> try (cases h; done)
    split at h <;> try (cases h; done)
    split at h <;> try (cases h; done)
    rename_i u hu
    split at h <;> try (cases h; done)
    exact appE_grow (fun b => ev_lt b.env hu) h
end Go.Proofs.Ytngfadijcpnblaa

/- The evaluator: plans with several orders; states that are alike up to the labels' names. -/
namespace Go.Proofs.Ytngfadijcpnblaa
open Go.RowKit

/-! ### Plans with several orders -/
inductive PT where
  | nil
  | pure (i : Nat) (r : PT)
  | held (i : Nat) (r : PT)
  /-- One that acts, the plan behind it, and what else may come first. -/
  | alt (i : Nat) (keep : Bool) (r o : PT)

section
variable {P : Program} {ops : Array Oper} {Q : Exit → Act → World → Prop} {S T : World → Prop} {late : Nat → Bool}
def planRunT (P : Program) (ops : Array Oper) (Q : Exit → Act → World → Prop) (S : World → Prop) : PT → Bool → Act → World → Prop
  | .nil, false, a, w => Q .normal a w
  | .nil, true, _, _ => True
  | .pure i r, _, a, w => ∃ o v, ops[i]? = some o ∧ YieldsIf P ops (fun _ => True) o v a ∧ planRunT P ops Q S r false (a.put o.dst v) w
  | .held i r, _, a, w => ∃ o v, ops[i]? = some o ∧ YieldsIf P ops S o v a ∧ S w ∧ planRunT P ops Q S r false (a.put o.dst v) w
  | .alt i keep r q, _, a, w => (∃ o, ops[i]? = some o ∧ Region.wanted o (yielded ops a.tmps) = true ∧ o.wp P a w (fun a' w' => (keep = true → S w → S w') ∧ planRunT P ops Q S r false a' w') Q) ∧ planRunT P ops Q S q true a w
def isLateT : PT → Nat → Bool
  | .nil, _ => false
  | .pure _ r, j => isLateT r j
  | .held _ r, j => isLateT r j
  | .alt i keep r q, j => (match keep with | true => false | false => Nat.beq i j) || isLateT r j || isLateT q j
def idsT : PT → List Nat
  | .alt i _ _ q => i :: idsT q
  | _ => []
def planOkT (ops : Array Oper) (late : Nat → Bool) : PT → Bool → Nat → Array Bool → Bool
  | .nil, false, n, listed => Nat.beq n 0 && (Region.ready .any ops listed).isEmpty
  | .nil, true, _, _ => true
  | .pure i r, false, n + 1, listed => (Region.ready .any ops listed).contains i && Region.free .any ops listed i && planOkT ops late r false n (listed.setIfInBounds i true)
  | .held i r, false, n + 1, listed => (Region.ready .any ops listed).contains i && Region.free .any ops listed i && lateWait ops late i && planOkT ops late r false n (listed.setIfInBounds i true)
  | .alt i keep r q, b, n + 1, listed => (b || Region.ready .any ops listed == idsT (.alt i keep r q)) && (late i == !keep) && planOkT ops late r false n (listed.setIfInBounds i true) && planOkT ops late q true (n + 1) listed
  | _, _, _, _ => false

theorem plan_soundT (hsel : Region.noSelect ops = true) (hQ : ∀ c a w, ¬ Q (.panic c) a w) : ∀ (p : PT),
    (∀ (n : Nat) (listed : Array Bool) (a : Act) (w : World), planOkT ops late p false n listed = true → planRunT P ops Q S p false a w → wpX P ops Q S late n listed a w) ∧
    (∀ (n : Nat) (listed : Array Bool) (a : Act) (w : World), planOkT ops late p true (n + 1) listed = true → planRunT P ops Q S p true a w → ∀ i ∈ idsT p, wpOp P ops Q i (fun a' w' => (late i = false → S w → S w') ∧ wpX P ops Q S late n (listed.setIfInBounds i true) a' w') a w)
  | .nil => ⟨fun n listed a w hp h => by
      simp only [planOkT, Bool.and_eq_true, List.isEmpty_iff, Nat.beq_eq] at hp
      obtain ⟨rfl, hp⟩ := hp
      exact ⟨hp, h⟩, fun n listed a w _ _ i hi => by cases hi⟩
  | .pure i r => ⟨fun n listed a w hp h => by
      cases n with
      | zero => cases hp
      | succ n =>
        simp only [planOkT, Bool.and_eq_true] at hp
        obtain ⟨o, v, ho, hy, hr⟩ := h
        refine wpX_first ho (Region.noSelect_spec hsel) (fun c a w hq => absurd hq (hQ c _ w)) (T := fun _ => True) (fun _ _ _ _ _ _ _ _ => trivial) n listed a w (Region.free_spec ho hp.1.2) (by simpa using hp.1.1) hy trivial ?_
        exact (plan_soundT hsel hQ r).1 n _ _ w hp.2 hr, fun n listed a w _ _ i hi => by cases hi⟩
  | .held i r => ⟨fun n listed a w hp h => by
      cases n with
      | zero => cases hp
      | succ n =>
        simp only [planOkT, Bool.and_eq_true] at hp
        obtain ⟨o, v, ho, hy, hS, hr⟩ := h
        refine wpX_first ho (Region.noSelect_spec hsel) (fun c a w hq => absurd hq (hQ c _ w)) (T := S) (fun j oj hj hno w w' hw hk => ?_) n listed a w (Region.free_spec ho hp.1.1.2) (by simpa using hp.1.1.1) hy hS ?_
        · refine hk ?_ hw
          have hl := hp.1.2
          simp only [lateWait, List.all_eq_true, List.mem_range] at hl
          have h1 := hl j (Array.getElem?_eq_some_iff.1 hj).1
          simp only [hj, Bool.or_eq_true, Bool.not_eq_true'] at h1
          rcases h1 with h1 | h1
          · exact h1
          · obtain ⟨e, he, hb⟩ := Array.any_eq_true'.1 h1
            simp only [Bool.and_eq_true, beq_iff_eq] at hb
            exact absurd hb.2 (hno e he hb.1)
        · exact (plan_soundT hsel hQ r).1 n _ _ w hp.2 hr, fun n listed a w _ _ i hi => by cases hi⟩
  | .alt i keep r q => by
    have key : ∀ (b : Bool) (n : Nat) (listed : Array Bool) (a : Act) (w : World), planOkT ops late (.alt i keep r q) b (n + 1) listed = true → planRunT P ops Q S (.alt i keep r q) b a w →
        ∀ j ∈ idsT (.alt i keep r q), wpOp P ops Q j (fun a' w' => (late j = false → S w → S w') ∧ wpX P ops Q S late n (listed.setIfInBounds j true) a' w') a w := by
      intro b n listed a w hp h j hj
      simp only [planOkT, Bool.and_eq_true, beq_iff_eq] at hp
      simp only [planRunT] at h
      obtain ⟨⟨o, ho, hw, h1⟩, h2⟩ := h
      rcases List.mem_cons.1 hj with rfl | hj
      · unfold wpOp
        simp only [ho]
        rw [if_pos hw]
        left
        refine Oper.wp_mono (fun a' w' h3 => ⟨fun hl hS => h3.1 (by rw [hp.1.1.2] at hl; simpa using hl) hS, (plan_soundT hsel hQ r).1 n _ a' w' hp.1.2 h3.2⟩) h1
      · exact (plan_soundT hsel hQ q).2 n listed a w hp.2 h2 j hj
    refine ⟨fun n listed a w hp h => ?_, fun n listed a w hp h => key true n listed a w hp h⟩
    cases n with
    | zero => simp [planOkT] at hp
    | succ n =>
      have hk := key false n listed a w hp h
      simp only [planOkT, Bool.and_eq_true, beq_iff_eq, Bool.false_or] at hp
      rw [← hp.1.1.1] at hk
      exact ⟨fun h0 => (by rw [hp.1.1.1] at h0; cases h0), hk⟩
end

/-! ### States alike -/
def beqB (x y : Bool) : Bool := match x, y with
  | true, true => true
  | false, false => true
  | _, _ => false
theorem beqB_ok {x y : Bool} (h : beqB x y = true) : x = y := by cases x <;> cases y <;> simp_all [beqB]
def beqV0 : Value → Value → Bool
  | .int k n, .int k' n' => decide (k = k') && decide (n = n')
  | .bool b, .bool b' => beqB b b'
  | .pointer none, .pointer none => true
  | .slice none n c, .slice none n' c' => Nat.beq n n' && Nat.beq c c'
  | .nilIface, .nilIface => true
  | .nilFunc, .nilFunc => true
  | .string s, .string s' => decide (s = s')
  | .tuple ⟨[]⟩, .tuple ⟨[]⟩ => true
  | _, _ => false
theorem beqV0_ok {x y : Value} (h : beqV0 x y = true) : x = y := by
  unfold beqV0 at h
  split at h <;> first
    | rfl
    | (cases h; done)
    | (simp only [Bool.and_eq_true, decide_eq_true_eq, Nat.beq_eq] at h; obtain ⟨rfl, rfl⟩ := h; rfl)
    | (have := beqB_ok h; subst this; rfl)
    | (simp only [decide_eq_true_eq] at h; subst h; rfl)
def beqV (x y : Value) : Bool := match x, y with
  | .iface t v, .iface t' v' => Nat.beq t t' && beqV0 v v'
  | x, y => beqV0 x y
theorem beqV_ok {x y : Value} (h : beqV x y = true) : x = y := by
  unfold beqV at h
  split at h
  · simp only [Bool.and_eq_true, Nat.beq_eq] at h
    obtain ⟨rfl, h⟩ := h
    rw [beqV0_ok h]
  · exact beqV0_ok h
section
variable (ρ : Nat → Nat)
def sameCe : Ce → Ce → Bool
  | .v x, .v y => beqV x y
  | .loc l o, .loc l' o' => Nat.beq (ρ l) l' && Nat.beq o o'
  | .locs l o n c, .locs l' o' n' c' => Nat.beq (ρ l) l' && Nat.beq o o' && Nat.beq n n' && Nat.beq c c'
  | .ifl t l o, .ifl t' l' o' => Nat.beq t t' && Nat.beq (ρ l) l' && Nat.beq o o'
  | .gro l o n e, .gro l' o' n' e' => Nat.beq (ρ l) l' && Nat.beq (ρ (l + 1)) (l' + 1) && Nat.beq o o' && Nat.beq n n' && Nat.beq e e'
  | .tl l o k z e, .tl l' o' k' z' e' => Nat.beq (ρ l) l' && Nat.beq (ρ (l + 1)) (l' + 1) && Nat.beq o o' && Nat.beq k k' && Nat.beq z z' && Nat.beq e e'
  | _, _ => false
theorem sameCe_ok {x y : Ce} (h : sameCe ρ x y = true) (β : Nat → Nat) : x.den (fun l => β (ρ l)) = y.den β := by
  unfold sameCe at h
  split at h <;> try (cases h; done)
  · rw [beqV_ok h]; rfl
  · simp only [Bool.and_eq_true, Nat.beq_eq] at h
    obtain ⟨h, rfl⟩ := h
    simp [Ce.den, h]
  · simp only [Bool.and_eq_true, Nat.beq_eq] at h
    obtain ⟨⟨⟨h, rfl⟩, rfl⟩, rfl⟩ := h
    simp [Ce.den, h]
  · simp only [Bool.and_eq_true, Nat.beq_eq] at h
    obtain ⟨⟨rfl, h⟩, rfl⟩ := h
    simp [Ce.den, h]
  · simp only [Bool.and_eq_true, Nat.beq_eq] at h
    obtain ⟨⟨⟨⟨h, h'⟩, rfl⟩, rfl⟩, rfl⟩ := h
    simp [Ce.den, h, h']
  · simp only [Bool.and_eq_true, Nat.beq_eq] at h
    obtain ⟨⟨⟨⟨⟨h, h'⟩, rfl⟩, rfl⟩, rfl⟩, rfl⟩ := h
    simp [Ce.den, h, h']
def sameCes : List Ce → List Ce → Bool
  | [], [] => true
  | x :: r, y :: s => sameCe ρ x y && sameCes r s
  | _, _ => false
theorem sameCes_ok (β : Nat → Nat) : ∀ {xs ys : List Ce}, sameCes ρ xs ys = true → xs.map (Ce.den fun l => β (ρ l)) = ys.map (Ce.den β)
  | [], [], _ => rfl
  | x :: r, y :: s, h => by
    simp only [sameCes, Bool.and_eq_true] at h
    simp only [List.map_cons]
    rw [sameCe_ok ρ h.1 β, sameCes_ok β h.2]
  | [], _ :: _, h => by cases h
  | _ :: _, [], h => by cases h
def sameTs : List (Bool × List Ce) → List (Bool × List Ce) → Bool
  | [], [] => true
  | (b, x) :: r, (c, y) :: s => beqB b c && sameCes ρ x y && sameTs r s
  | _, _ => false
theorem sameTp_ok (β : Nat → Nat) {b : Bool} {x y : List Ce} (h : sameCes ρ x y = true) : tpDen (fun l => β (ρ l)) (b, x) = tpDen β (b, y) := by
  have hm := sameCes_ok ρ β h
  cases b with
  | true => simp only [tpDen, hm]
  | false =>
    rcases x with _ | ⟨x, _ | ⟨x2, xs⟩⟩ <;> rcases y with _ | ⟨y, _ | ⟨y2, ys⟩⟩ <;> first
      | rfl
      | (simp at hm; done)
      | (simp only [List.map_cons, List.map_nil, List.cons.injEq, and_true] at hm; exact hm)
theorem sameTs_ok (β : Nat → Nat) : ∀ {xs ys : List (Bool × List Ce)}, sameTs ρ xs ys = true → xs.map (tpDen fun l => β (ρ l)) = ys.map (tpDen β)
  | [], [], _ => rfl
  | (b, x) :: r, (c, y) :: s, h => by
    simp only [sameTs, Bool.and_eq_true] at h
    obtain rfl := beqB_ok h.1.1
    simp only [List.map_cons]
    rw [sameTp_ok ρ β h.1.2, sameTs_ok β h.2]
  | [], _ :: _, h => by cases h
  | _ :: _, [], h => by cases h
def sameSV : SV → SV → Bool
  | .c x, .c y => sameCe ρ x y
  | .agg x, .agg y => sameCes ρ x y
  | .tup [], .tup [] => true
  | .kb b, .kb c => beqB b c
  | .tps x, .tps y => sameTs ρ x y
  | _, _ => false
theorem sameSV_ok {x y : SV} (h : sameSV ρ x y = true) (β : Nat → Nat) : x.den (fun l => β (ρ l)) = y.den β := by
  unfold sameSV at h
  split at h <;> try (cases h; done)
  · exact sameCe_ok ρ h β
  · simp only [SV.den]; rw [sameCes_ok ρ β h]
  · rfl
  · rw [beqB_ok h]; rfl
  · simp only [SV.den]; rw [sameTs_ok ρ β h]
def sameE : Env → Env → Bool
  | [], _ => true
  | (t, x) :: r, e => match look e t with
    | some y => sameSV ρ x y && sameE r e
    | none => false
theorem sameE_ok (β : Nat → Nat) {e : Env} : ∀ {r : Env}, sameE ρ r e = true → ∀ t x, look r t = some x → ∃ y, look e t = some y ∧ x.den (fun l => β (ρ l)) = y.den β
  | [], _, t, x, h => by cases h
  | (u, v) :: r, h, t, x, hx => by
    simp only [sameE] at h
    split at h <;> try (cases h; done)
    rename_i y hy
    simp only [Bool.and_eq_true] at h
    simp only [look_cons] at hx
    split at hx
    · rename_i e1
      subst e1
      cases hx
      exact ⟨y, hy, sameSV_ok ρ h.1 β⟩
    · exact sameE_ok β h.2 t x hx
def takeM : Mem → Nat → Option ((Nat × List Ce) × Mem)
  | [], _ => none
  | (l, x) :: r, k => match Nat.beq l k with
    | true => some (x, r)
    | false => match takeM r k with
      | some (y, r') => some (y, (l, x) :: r')
      | none => none
theorem takeM_perm {k : Nat} : ∀ {m m' : Mem} {x : Nat × List Ce}, takeM m k = some (x, m') → m.Perm ((k, x) :: m')
  | [], _, _, h => by cases h
  | (l, x) :: r, m', y, h => by
    simp only [takeM] at h
    split at h
    · rename_i e
      cases h
      rw [Nat.beq_eq] at e
      subst e
      exact .refl _
    · split at h <;> cases h
      rename_i y r' hr
      exact ((takeM_perm hr).cons (l, x)).trans (.swap _ _ _)
def sameM : Mem → Mem → Bool
  | [], _ => true
  | (l, t, cs) :: r, m => match takeM m (ρ l) with
    | some ((t', cs'), m') => Nat.beq t t' && sameCes ρ cs cs' && sameM r m'
    | none => false
theorem sameM_ok (β : Nat → Nat) {w : World} {X : List SP} : ∀ {r m : Mem} {Y : List SP}, sameM ρ r m = true → SatW (memSP β m ++ (Y ++ X)) w → SatW (Y ++ (memSP (fun l => β (ρ l)) r ++ X)) w
  | [], m, Y, _, h => by
    have := h.app_right
    simpa [memSP] using this
  | (l, t, cs) :: r, m, Y, h, hs => by
    simp only [sameM] at h
    split at h <;> try (cases h; done)
    rename_i t' cs' m' hm
    simp only [Bool.and_eq_true, Nat.beq_eq] at h
    obtain ⟨⟨rfl, h1⟩, h2⟩ := h
    have e : cellsOf β cs' = cellsOf (fun l => β (ρ l)) cs := by
      unfold cellsOf
      rw [sameCes_ok ρ β h1]
    have hp : (memSP β m).Perm (memSP β ((ρ l, t, cs') :: m')) := (takeM_perm hm).map _
    have h3 : SatW (blk (β (ρ l)) (.cells (cellsOf (fun l => β (ρ l)) cs) t (0, 0)) :: (memSP β m' ++ (Y ++ X))) w := by
      have := hs.perm (hp.append_right (Y ++ X))
      simpa [memSP, e] using this
    have h4 : SatW (memSP β m' ++ ((Y ++ [blk (β (ρ l)) (.cells (cellsOf (fun l => β (ρ l)) cs) t (0, 0))]) ++ X)) w := by
      refine h3.perm ?_
      rw [List.append_assoc]
      simpa using (List.perm_middle (a := blk (β (ρ l)) (.cells (cellsOf (fun l => β (ρ l)) cs) t (0, 0))) (l₁ := memSP β m' ++ Y) (l₂ := X)).symm
    have h5 := sameM_ok β h2 h4
    simpa [memSP] using h5
def takeG : GMem → Nat → Option ((Nat × Nat × Nat × List Ce) × GMem)
  | [], _ => none
  | (l, x) :: r, k => match Nat.beq l k with
    | true => some (x, r)
    | false => match takeG r k with
      | some (y, r') => some (y, (l, x) :: r')
      | none => none
theorem takeG_perm {k : Nat} : ∀ {m m' : GMem} {x : Nat × Nat × Nat × List Ce}, takeG m k = some (x, m') → m.Perm ((k, x) :: m')
  | [], _, _, h => by cases h
  | (l, x) :: r, m', y, h => by
    simp only [takeG] at h
    split at h
    · rename_i e
      cases h
      rw [Nat.beq_eq] at e
      subst e
      exact .refl _
    · split at h <;> cases h
      rename_i y r' hr
      exact ((takeG_perm hr).cons (l, x)).trans (.swap _ _ _)
def sameG : GMem → GMem → Bool
  | [], _ => true
  | (l, e, n, sz, cs) :: r, m => match takeG m (ρ l) with
    | some ((e', n', sz', cs'), m') => Nat.beq (ρ (l + 1)) (ρ l + 1) && Nat.beq e e' && Nat.beq n n' && Nat.beq sz sz' && sameCes ρ cs cs' && sameG r m'
    | none => false
theorem sameG_ok (β : Nat → Nat) {w : World} {X : List SP} : ∀ {r m : GMem} {Y : List SP}, sameG ρ r m = true → SatW (gmSP β m ++ (Y ++ X)) w → SatW (Y ++ (gmSP (fun l => β (ρ l)) r ++ X)) w
  | [], m, Y, _, h => by
    have := h.app_right
    simpa [gmSP] using this
  | (l, e, n, sz, cs) :: r, m, Y, h, hs => by
    simp only [sameG] at h
    split at h <;> try (cases h; done)
    rename_i e' n' sz' cs' m' hm
    simp only [Bool.and_eq_true, Nat.beq_eq] at h
    obtain ⟨⟨⟨⟨⟨h0, rfl⟩, rfl⟩, rfl⟩, h1⟩, h2⟩ := h
    have ee : grSP (fun l => β (ρ l)) (l, e, n, sz, cs) = grSP β (ρ l, e, n, sz, cs') := by
      simp only [grSP, h0]
      rw [sameCes_ok ρ β h1]
    have hp : (gmSP β m).Perm (gmSP β ((ρ l, e, n, sz, cs') :: m')) := (takeG_perm hm).map _
    have h3 : SatW (grSP (fun l => β (ρ l)) (l, e, n, sz, cs) :: (gmSP β m' ++ (Y ++ X))) w := by
      have := hs.perm (hp.append_right (Y ++ X))
      rw [ee]
      simpa [gmSP] using this
    have h4 : SatW (gmSP β m' ++ ((Y ++ [grSP (fun l => β (ρ l)) (l, e, n, sz, cs)]) ++ X)) w := by
      refine h3.perm ?_
      rw [List.append_assoc]
      simpa using (List.perm_middle (a := grSP (fun l => β (ρ l)) (l, e, n, sz, cs)) (l₁ := gmSP β m' ++ Y) (l₂ := X)).symm
    have h5 := sameG_ok β h2 h4
    simpa [gmSP] using h5
end
/-- Which labels an operation bore: the operation, from, to. -/
abbrev Marks := List (Nat × Nat × Nat)
def markAt : Marks → Nat → Nat
  | [], _ => 0
  | (i, a, _) :: r, k => match Nat.beq i k with
    | true => a
    | false => markAt r k
def renM : Marks → Marks → Nat → Nat
  | [], _, l => l
  | (i, a, b) :: r, m2, l => match Nat.ble a l with
    | true => match Nat.blt l b with
      | true => markAt m2 i + (l - a)
      | false => renM r m2 l
    | false => renM r m2 l
/-- A label's other name: those below n keep theirs. -/
def ren (n : Nat) (m1 m2 : Marks) (l : Nat) : Nat :=
  match Nat.blt l n with
  | true => l
  | false => renM m1 m2 l
def sameS (ρ : Nat → Nat) (r q : GS) : Bool := sameE ρ r.env q.env && sameM ρ r.mem q.mem && sameG ρ r.gm q.gm
theorem sameS_ok {g : Cx} {β : Nat → Nat} {r q : GS} {L : Res} {a : Act} {w : World} {n : Nat} {m1 m2 : Marks} (h : sameS (ren n m1 m2) r q = true) (hr : RelG g β q L a w) :
    RelG g (fun l => β (ren n m1 m2 l)) r L a w ∧ agree n β (fun l => β (ren n m1 m2 l)) := by
  simp only [sameS, Bool.and_eq_true] at h
  refine ⟨RelG.mk' hr.defers hr.size (fun t x hx => ?_) hr.os hr.tape hr.output ?_, fun l hl => ?_⟩
  · obtain ⟨y, hy, e⟩ := sameE_ok _ β h.1.1 t x hx
    rw [e]
    exact hr.env t y hy
  · have h1 := hr.sat'
    have h2 := sameM_ok _ β (Y := gmSP β q.gm) h.1.2 h1
    exact sameG_ok _ β (Y := memSP _ r.mem) h.2 h2
  · have : Nat.blt l n = true := by simpa [Nat.blt_eq] using hl
    simp only [ren, this]
end Go.Proofs.Ytngfadijcpnblaa

/- The evaluator: package-level variables that stay as they are. -/
namespace Go.Proofs.Ytngfadijcpnblaa
open Go.RowKit

/-- A block has these cells, from its first one on. -/
def blkAt (m : PH) (b : Nat) (ys : List Value) : Prop := ∃ cs t fr, m b = some (.cells cs t fr) ∧ ∀ j, j < ys.length → cs[j]? = ys[j]?
theorem blkAt.mono {m m' : PH} {b : Nat} {ys : List Value} (h : blkAt m b ys) (hm : m.le m') : blkAt m' b ys := (let ⟨cs, t, fr, h1, h2⟩ := h; ⟨cs, t, fr, hm _ _ h1, h2⟩)
/-- Block, cells. -/
abbrev Gl := List (Nat × List Value)
def GlobW (gl : Gl) (w : World) : Prop := ∀ e ∈ gl, blkAt (hw w) e.1 e.2
/-- Whatever else holds, the variables are there, and what stays (pre) may be had once more. -/
def Glob (gl : Gl) (pre : List SP) (F : List SP) : Prop := ∀ X w, SatW (X ++ F) w → GlobW gl w ∧ SatW (pre ++ (X ++ F)) w
theorem Glob.app {gl : Gl} {pre F L : List SP} (h : Glob gl pre F) : Glob gl pre (L ++ F) := fun X w hs => (by
  have := h (X ++ L) w (by rw [List.append_assoc]; exact hs)
  rw [List.append_assoc] at this
  exact this)
theorem Glob.nil (F : List SP) : Glob [] [] F := fun _ _ h => ⟨fun _ he => (by cases he), h⟩
def lookGl : Gl → Nat → Option (List Value)
  | [], _ => none
  | (b, cs) :: r, k => match Nat.beq b k with
    | true => some cs
    | false => lookGl r k
theorem lookGl_mem : ∀ {gl : Gl} {k : Nat} {cs : List Value}, lookGl gl k = some cs → (k, cs) ∈ gl
  | [], _, _, h => by cases h
  | (b, c) :: r, k, cs, h => by
    simp only [lookGl] at h
    split at h
    · rename_i e
      cases h
      rw [Nat.beq_eq] at e
      subst e
      exact List.mem_cons_self
    · exact List.mem_cons_of_mem _ (lookGl_mem h)
/-- A load from such a variable: what it comes to, of one cell. -/
def globX (gl : Gl) (P : Program) (env : Env) (op : Op) : Option Value :=
  match op with
  | .load t x => match ev env x with
    | some (.c (.v (.pointer (some ⟨b, off, none⟩)))) => match lookGl gl b with
      | some cs => match aggOf P t with
        | .one => getL cs off
        | _ => none
      | none => none
    | _ => none
  | _ => none
theorem globX_ok {gl : Gl} {g : Cx} {β : Nat → Nat} {s : GS} {L : Res} {a : Act} {w w' : World} {o : Oper} {v : Value} (h : RelG g β s L a w) (hw : GlobW gl w') (hx : globX gl g.P s.env o.op = some v) : (execOp a.eval o).run g.P w' = .ok (.value v) w' := by
  unfold globX at hx
  split at hx <;> try (cases hx; done)
  rename_i t x hop
  split at hx <;> try (cases hx; done)
  rename_i b off he0
  split at hx <;> try (cases hx; done)
  rename_i cs hl
  split at hx <;> try (cases hx; done)
  rename_i ha
  have he : a.eval x = .pointer (some ⟨b, off, none⟩) := h.ev he0
  obtain ⟨cs', t', fr', hb, hj⟩ := hw _ (lookGl_mem hl)
  rw [getL_eq] at hx
  have hlt : off < cs.length := (List.getElem?_eq_some_iff.1 hx).1
  have hcell : w'.cell? ⟨b, off, none⟩ = some v := by
    have hb' : w'.heap[b]? = some (.cells cs' t' fr') := hb
    unfold World.cell?
    simp only
    rw [hb']
    simp only [if_true]
    rw [hj off hlt]
    exact hx
  simp [execOp, hop, he, Instr.loadAt, Instr.sureAddr, loadVar, aggOf_one ha, hcell]
end Go.Proofs.Ytngfadijcpnblaa

/- The evaluator 'gx' of code, calls and all. -/
namespace Go.Proofs.Ytngfadijcpnblaa
open Go.RowKit

theorem effX_step {g : Cx} {β : Nat → Nat} {s s' : GS} {L : Res} {a : Act} {w : World} {o : Oper} (hr : RelG g β s L a w) (hb : Bd s) (h : effX g.P g.n s o = some s') : StepEx g β s s' L a w o := by
  unfold effX at h
  split at h <;> try (cases h; done)
  rename_i hd
  split at h <;> try (cases h; done)
  · -- pick
    rename_i c x y hop
    split at h <;> try (cases h; done)
    rename_i b hc
    have ecb : a.eval c = .bool b := nrm_evn hr hc
    split at h <;> try (cases h; done)
    rename_i u hu
    split at h <;> cases h
    rename_i env hp
    have eu := hr.ev hu
    refine ⟨β, a.put o.dst (u.den β), w, agree.refl _ _, hr.putE hd hp, fun N Q hn => wp_value ?_ hn⟩
    cases b <;> simp only at eu <;> simp [execOp, hop, ecb, asBool, eu]
  · -- alloc
    rename_i t hop
    split at h <;> try (cases h; done)
    rename_i cs hz
    obtain ⟨z, hzr, hzc⟩ := zeroS_den hz w
    exact newL_step (v := .pointer (some ⟨w.heap.size, 0, none⟩)) hr hb hd (zeroS_lt hz) h (by simp [execOp, hop, Instr.alloc, hzr, newVar, newRow, hzc β]) (by simp [SV.den, Ce.den, upd_self])
  · -- box
    rename_i t x hop
    split at h <;> try (cases h; done)
    rename_i u hu
    split at h <;> try (cases h; done)
    rename_i cs hcs
    refine newL_step (v := .pointer (some ⟨w.heap.size, 0, none⟩)) hr hb hd (cellsS_lt (ev_lt hb.env hu) hcs) h ?_ (by simp [SV.den, Ce.den, upd_self])
    simp only [execOp, hop, hr.ev hu, Instr.box, newVar, newRow, cellsS_den hcs β, Sem.run_bind, run_newObj, Sem.run_pure, Result.andThen_ok, World.alloc_eq]
  · -- buildSlice
    rename_i t m ps hop
    split at h <;> try (cases h; done)
    rename_i e hu
    split at h <;> try (cases h; done)
    rename_i cs hcs
    have := rowS_ok hr hu hcs
    exact newL_step (v := .slice (some ⟨w.heap.size, 0, none⟩) m m) hr hb hd (rowS_lt hb.env hcs) h (by simp [execOp, hop, this]) (by simp [SV.den, Ce.den, upd_self])
  · -- makeSlice
    rename_i t l c hop
    split at h <;> try (cases h; done)
    rename_i e hu
    split at h <;> try (cases h; done)
    rename_i kl ln hl
    split at h <;> try (cases h; done)
    rename_i kc cn hc
    split at h <;> try (cases h; done)
    rename_i i hi
    split at h <;> try (cases h; done)
    rename_i zv hzv
    split at h <;> try (cases h; done)
    rename_i z hz
    split at h <;> try (cases h; done)
    rename_i h1
    split at h <;> try (cases h; done)
    rename_i h2
    split at h <;> try (cases h; done)
    rename_i h3
    split at h <;> try (cases h; done)
    rename_i h4
    split at h <;> try (cases h; done)
    rename_i h5
    split at h <;> try (cases h; done)
    rename_i cs hr'
    rw [repS_eq] at hr'
    cases hr'
    have e1 : z.length = i.size := by simpa using h1
    have e2 : 0 < i.size := by simpa [Nat.blt_eq] using h2
    have e3 : ln ≤ cn := by simpa using h3
    have e4 : i.bytes * cn ≤ 281474976710656 := by simpa using h4
    have e5 : cn ≤ 9223372036854775807 := by simpa using h5
    have el : a.eval l = .int kl (Int.ofNat ln) := nrm_evn hr hl
    have ec : a.eval c = .int kc (Int.ofNat cn) := nrm_evn hr hc
    obtain ⟨z2, hzr, hzc⟩ := zeroS_den hz w
    have hz2 : z2 = zv := by
      have : (zeroValue e).run g.P w = .ok zv w := by simp [zeroValue, typeInfo, hi, hzv]
      rw [this] at hzr
      cases hzr
      rfl
    subst hz2
    have hrun := run_makeSlice' (P := g.P) (w := w) hu hi hzv kl kc ln cn e3 e4 e5
    have hm : madeCells z2.cells (cn * i.size) = cellsOf β (List.replicate cn z).flatten := made_eq (P := g.P) (e := e) (hzc β) e1 e2
    rw [hm] at hrun
    refine newL_step (v := .slice (some ⟨w.heap.size, 0, none⟩) ln cn) hr hb hd (fun x hx => ?_) h ?_ (by simp [SV.den, Ce.den, upd_self])
    · obtain ⟨l', hl', hx2⟩ := List.mem_flatten.1 hx
      obtain rfl := List.eq_of_mem_replicate hl'
      exact zeroS_lt hz x hx2
    · simp only [execOp, hop, el, ec, Sem.run_bind, hrun, Result.andThen_ok, Sem.run_pure]
  · -- store
    rename_i t x y hop
    split at h <;> try (cases h; done)
    rename_i l off hx
    split at h <;> try (cases h; done)
    rename_i u hu
    split at h <;> try (cases h; done)
    rename_i ys hys
    split at h <;> try (cases h; done)
    rename_i i hi
    split at h <;> try (cases h; done)
    rename_i hsz
    split at h <;> try (cases h; done)
    rename_i hpl
    have ex : a.eval x = .pointer (some ⟨β l, off, none⟩) := hr.ev hx
    have ey := hr.ev hu
    split at h
    · rename_i tt cs hl
      split at h <;> try (cases h; done)
      rename_i hfit
      split at h <;> try (cases h; done)
      rename_i zs hz
      split at h <;> try (cases h; done)
      rename_i mem' hm
      split at h <;> cases h
      rename_i env hp
      rw [setMo_eq] at hm
      cases hm
      obtain ⟨w', hrun, hR⟩ := store_ok hr hl (cellsS_den hys β) hi (by simpa using hsz) (by simpa using hfit) hpl hz
      refine ⟨β, a.put o.dst undef, w', agree.refl _ _, ?_, fun N Q hn => wp_skip' (w' := w') ?_ hn⟩
      · exact Rel.putO (x := .c (.v undef)) hR hd hp
      · simp only [execOp, hop, ex, ey, Sem.run_bind, hrun, Result.andThen_ok, Sem.run_pure]
    · split at h <;> try (cases h; done)
      rename_i e nn sz cs hl
      split at h <;> try (cases h; done)
      rename_i hfit
      split at h <;> try (cases h; done)
      rename_i zs hz
      split at h <;> try (cases h; done)
      rename_i gm' hm
      split at h <;> cases h
      rename_i env hp
      obtain ⟨w', hrun, hR⟩ := gr_store hr hl (cellsS_den hys β) hi (by simpa using hsz) (by simpa using hfit) hpl hz hm
      refine ⟨β, a.put o.dst undef, w', agree.refl _ _, ?_, fun N Q hn => wp_skip' (w' := w') ?_ hn⟩
      · exact Rel.putO (x := .c (.v undef)) hR hd hp
      · simp only [execOp, hop, ex, ey, Sem.run_bind, hrun, Result.andThen_ok, Sem.run_pure]
  · -- append
    rename_i args ts hop
    split at h <;> try (cases h; done)
    rename_i x y hargs
    split at h <;> try (cases h; done)
    rename_i t t' hts
    split at h <;> try (cases h; done)
    rename_i ht
    obtain rfl : t = t' := Nat.eq_of_beq_eq_true ht
    split at h <;> try (cases h; done)
    rename_i u hu
    split at h <;> try (cases h; done)
    rename_i v hv
    have ea : args = #[x, y] := by apply Array.ext'; simpa using hargs
    have et : ts = #[t, t] := by apply Array.ext'; simpa using hts
    subst ea
    subst et
    exact appE_step hr hb hd hop hu hv h

/-! ### Code -/
inductive GC where
  | run (k : List Item)
  | ops (all : Array Oper) (rest : List Oper) (k : List Item)
  /-- A region whose order is drawn: what is listed; what was there as it began; is that so still? -/
  | dr (all : Array Oper) (listed : Array Bool) (m0 : Mem) (g0 : GMem) (n0 : Nat) (hold : Bool)
  /-- .. these may come next. -/
  | al (cands : List Nat) (all : Array Oper) (listed : Array Bool) (m0 : Mem) (g0 : GMem) (n0 : Nat) (hold : Bool)
  /-- One operation of it that acts. -/
  | ef (all : Array Oper) (i : Nat)
structure GR where
  s : GS
  v : SV
  plan : PT
  marks : Marks
def mkP : Bool → Nat → PT → PT
  | false, i, r => .pure i r
  | true, i, r => .held i r

/-- Arguments as slots. -/
def argG : Nat → List SV → Env
  | _, [] => []
  | k, v :: r => (k, v) :: argG (k + 1) r
def evs (env : Env) : List Operand → Option (List SV)
  | [] => some []
  | x :: r => match nrm (ev env x) with
    | some s => match evs env r with
      | some t => some (s :: t)
      | none => none
    | none => none
def ofVs : List Value → List SV
  | [] => []
  | v :: r => ofV v :: ofVs r
def appV {α : Type} : List α → List α → Option (List α)
  | [], r => some r
  | x :: z, r => match appV z r with
    | some q => some (x :: q)
    | none => none
/-- Which function is called, with which arguments. -/
def calleeG (P : Program) (env : Env) (o : Oper) : Option (Nat × List SV) :=
  match o.op with
  | .call ⟨.value x, ars, _⟩ => match ev env x with
    | some (.c (.v (.func (.func f) first cap))) => match evs env ars.toList with
      | some vs => match appV vs (ofVs cap.toList) with
        | some ws => match appV (ofVs first.toList) ws with
          | some us => some (f, us)
          | none => none
        | none => none
      | none => none
    | _ => none
  | .call ⟨.invoke r name, ars, _⟩ => match ev env r with
    | some u => match (match u with
        | .c (.ifl t l o) => some (t, SV.c (.loc l o))
        | .c (.v (.iface t v)) => some (t, ofV v)
        | _ => none) with
      | some (t, rv) => match P.info? t with
        | some i => match i.methods.find? (·.name == name) with
          | some m => match m.path.toList with
            | [] => match m.func with
              | some (f, ptr) => match P.underlying t, ptr with
                | some (.pointer _), true => match evs env ars.toList with
                  | some vs => some (f, rv :: vs)
                  | none => none
                | some (.pointer _), false => none
                | some _, false => match evs env ars.toList with
                  | some vs => some (f, rv :: vs)
                  | none => none
                | _, _ => none
              | none => none
            | _ :: _ => none
          | none => none
        | none => none
      | none => none
    | none => none
  | _ => none
/-- Results as one value. -/
def retG (P : Program) (env : Env) (mem : Mem) : List ResultVar → Option (List SV)
  | [] => some []
  | .tmp t :: r => match look env t with
    | some s => match retG P env mem r with
      | some ss => some (s :: ss)
      | none => none
    | none => none
  | .cell x t :: r => match look env x with
    | some (.c (.loc l o)) => match lookM mem l with
      | some (_, cs) => match aggOf P t with
        | .one => match getL cs o with
          | some y => match retG P env mem r with
            | some ss => some (.c y :: ss)
            | none => none
          | none => none
        | .many n => match cutL cs o n with
          | some ys => match retG P env mem r with
            | some ss => some (.agg ys :: ss)
            | none => none
          | none => none
        | .no => none
      | none => none
    | _ => none
def tupG : List SV → Option (List (Bool × List Ce))
  | [] => some []
  | s :: r => match tOf s with
    | some p => match tupG r with
      | some ps => some (p :: ps)
      | none => none
    | none => none
def oneG : List SV → Option SV
  | [s] => some s
  | ss => match tupG ss with
    | some ps => some (.tps ps)
    | none => none

/-- Is it wanted? What is decided counts, in either form. -/
def guardG (ops : List Oper) (env : Env) (o : Oper) : Gd :=
  match o.guard with
  | none => .yes
  | some (j, want) => match getL ops j with
    | some oj => match oj.dst with
      | some d => match look env d with
        | some (.kb true) => match want with
          | true => .yes
          | false => .no
        | some (.kb false) => match want with
          | true => .no
          | false => .yes
        | some (.c (.v (.bool true))) => match want with
          | true => .yes
          | false => .no
        | some (.c (.v (.bool false))) => match want with
          | true => .no
          | false => .yes
        | some (.c (.v (.tuple _))) => .no
        | _ => .st
      | none => .st
    | none => .st
theorem guardG_yes {g : Cx} {env : Env} {mem : Mem} {β : Nat → Nat} {bnd : Bnd} {L : Res} {a : Act} {w : World} (hr : Rel g β env mem bnd L a w) {ops : Array Oper} {o : Oper} (h : guardG ops.toList env o = .yes) : Region.wanted o (yielded ops a.tmps) = true := by
  unfold guardG at h
  split at h
  · rename_i hg; simp [Region.wanted, hg]
  · rename_i j want hg
    split at h <;> try (cases h; done)
    rename_i oj hj
    split at h <;> try (cases h; done)
    rename_i d hd
    split at h <;> try (cases h; done)
    all_goals
      rename_i hl
      have hy := yielded_of hr hj hd hl
      split at h <;> first | (cases h; done) | simp [Region.wanted, hg, hy, SV.den, Ce.den]
theorem guardG_no {g : Cx} {env : Env} {mem : Mem} {β : Nat → Nat} {bnd : Bnd} {L : Res} {a : Act} {w : World} (hr : Rel g β env mem bnd L a w) {ops : Array Oper} {o : Oper} (h : guardG ops.toList env o = .no) : Region.wanted o (yielded ops a.tmps) = false := by
  unfold guardG at h
  split at h
  · cases h
  · rename_i j want hg
    split at h <;> try (cases h; done)
    rename_i oj hj
    split at h <;> try (cases h; done)
    rename_i d hd
    split at h <;> try (cases h; done)
    · rename_i hl
      have hy := yielded_of hr hj hd hl
      split at h <;> first | (cases h; done) | simp [Region.wanted, hg, hy, SV.den, Ce.den]
    · rename_i hl
      have hy := yielded_of hr hj hd hl
      split at h <;> first | (cases h; done) | simp [Region.wanted, hg, hy, SV.den, Ce.den]
    · rename_i hl
      have hy := yielded_of hr hj hd hl
      split at h <;> first | (cases h; done) | simp [Region.wanted, hg, hy, SV.den, Ce.den]
    · rename_i hl
      have hy := yielded_of hr hj hd hl
      split at h <;> first | (cases h; done) | simp [Region.wanted, hg, hy, SV.den, Ce.den]
    · rename_i hl
      have hy := yielded_of hr hj hd hl
      simp [Region.wanted, hg, hy, SV.den, Ce.den]

/-- The value that it comes to. -/
def outV (o : Out) : Option SV :=
  match o with
  | .val x => some x
  | .cells cs => some (.agg cs)
  | .ar k m => some (.c (.v (.int k (k.wrap m))))
  | .no => none
/-- The first of those ready that only looks: with the state behind it, and how it is met. -/
def lookR (gl : Gl) (P : Program) (n : Nat) (all : Array Oper) (env : Env) (m0 : Mem) (g0 : GMem) (hold : Bool) : List Nat → Option (Bool × Env × Nat)
  | [] => none
  | i :: r => match getL all.toList i with
    | some o => match dstOk n o.dst with
      | true => match guardG all.toList env o with
        | .no => match putO o.dst (.c (.v undef)) env with
          | some env' => some (false, env', i)
          | none => none
        | .br _ _ => none
        | .st => none
        | .yes => match outV (pureX P env [] [] o.op) with
          | some x => match putO o.dst x env with
            | some env' => some (false, env', i)
            | none => none
          | none => match hold with
            | false => lookR gl P n all env m0 g0 hold r
            | true => match outV (pureX P env m0 g0 o.op) with
              | some x => match putO o.dst x env with
                | some env' => some (true, env', i)
                | none => none
              | none => match globX gl P env o.op with
                | some v => match putO o.dst (ofV v) env with
                  | some env' => some (true, env', i)
                  | none => none
                | none => lookR gl P n all env m0 g0 hold r
      | false => none
    | none => none

def memN : Nat → List Nat → Bool
  | _, [] => false
  | k, l :: r => match Nat.beq k l with
    | true => true
    | false => memN k r
/-- Which blocks the loads of a region read, as far as that is known as it begins. -/
def shadow (P : Program) (all : List Oper) (mem : Mem) (gm : GMem) : List Oper → Env → List Nat → List Nat
  | [], _, acc => acc
  | o :: r, env, acc => match guardG all env o with
    | .no => match putO o.dst (.c (.v undef)) env with
      | some env' => shadow P all mem gm r env' acc
      | none => acc
    | .yes => match outV (pureX P env mem gm o.op) with
      | some x => match putO o.dst x env with
        | some env' => match o.op with
          | .load _ y => match ev env y with
            | some (.c (.loc l _)) => shadow P all mem gm r env' (l :: acc)
            | _ => shadow P all mem gm r env' acc
          | _ => shadow P all mem gm r env' acc
        | none => acc
      | none => match o.op with
        | .pick c x y => match nrm (ev env c) with
          | some (.c (.v (.bool b))) => match nrm (ev env (match b with | true => x | false => y)) with
            | some u => match putO o.dst u env with
              | some env' => shadow P all mem gm r env' acc
              | none => acc
            | none => shadow P all mem gm r env acc
          | _ => shadow P all mem gm r env acc
        | _ => shadow P all mem gm r env acc
    | _ => shadow P all mem gm r env acc
def keepM (ls : List Nat) : Mem → Mem
  | [] => []
  | (l, x) :: r => match memN l ls with
    | true => (l, x) :: keepM ls r
    | false => keepM ls r
def keepG (ls : List Nat) : GMem → GMem
  | [] => []
  | (l, x) :: r => match memN l ls with
    | true => (l, x) :: keepG ls r
    | false => keepG ls r
def heldOf (P : Program) (ops : Array Oper) (s : GS) : Mem × GMem :=
  match shadow P ops.toList s.mem s.gm ops.toList s.env [] with
  | ls => (keepM ls s.mem, keepG ls s.gm)
def heldIn (m0 : Mem) (g0 : GMem) (s : GS) : Bool := sameM (fun l => l) m0 s.mem && sameG (fun l => l) g0 s.gm
def keepIn (hold : Bool) (m0 : Mem) (g0 : GMem) (s : GS) : Bool :=
  match hold with
  | true => heldIn m0 g0 s
  | false => false
theorem keepM_mem {ls : List Nat} : ∀ {m : Mem}, ∀ e ∈ keepM ls m, e ∈ m
  | [], e, h => by cases h
  | (l, x) :: r, e, h => by
    simp only [keepM] at h
    split at h
    · rcases List.mem_cons.1 h with rfl | h
      · exact List.mem_cons_self
      · exact List.mem_cons_of_mem _ (keepM_mem e h)
    · exact List.mem_cons_of_mem _ (keepM_mem e h)
theorem keepG_mem {ls : List Nat} : ∀ {m : GMem}, ∀ e ∈ keepG ls m, e ∈ m
  | [], e, h => by cases h
  | (l, x) :: r, e, h => by
    simp only [keepG] at h
    split at h
    · rcases List.mem_cons.1 h with rfl | h
      · exact List.mem_cons_self
      · exact List.mem_cons_of_mem _ (keepG_mem e h)
    · exact List.mem_cons_of_mem _ (keepG_mem e h)
theorem heldOf_lt {P : Program} {ops : Array Oper} {s : GS} (h1 : ltM s.nl s.mem) (h2 : ltG s.nl s.gm) : ltM s.nl (heldOf P ops s).1 ∧ ltG s.nl (heldOf P ops s).2 :=
  ⟨fun e he => h1 e (keepM_mem e he), fun e he => h2 e (keepG_mem e he)⟩

/-- Cells that hold strings. -/
def strCe : List Ce → Option (List ByteArray)
  | [] => some []
  | .v (.string b) :: r => match strCe r with
    | some l => some (b :: l)
    | none => none
  | _ => none
/-- A slice, with elements of one cell each, in a state: its label, its place, its cells. -/
def slOf (s : GS) : SV → Option (Nat × Nat × List Ce)
  | .c (.locs l o n c) => match Nat.ble n c with
    | true => match lookM s.mem l with
      | some (_, cs) => match cutL cs o n with
        | some ys => some (l, o, ys)
        | none => none
      | none => none
    | false => none
  | .c (.gro l o n e) => match lookG s.gm l with
    | some (_, nt, _, cs) => match Nat.ble (n + e) nt with
      | true => match cutL cs o n with
        | some ys => some (l, o, ys)
        | none => none
      | false => none
    | none => none
  | _ => none
/-- strings.Join (its number: jn). -/
def joinX (jn : Nat) (s : GS) (f : Nat) (vs : List SV) : Option ByteArray :=
  match Nat.beq f jn with
  | true => match Nat.ble jn 999999 with
   | false => none
   | true => match vs with
    | [v, .c (.v (.string sep))] => match slOf s v with
      | some (_, _, ys) => match strCe ys with
        | some xs => match Nat.ble xs.length 140737488355328 with
          | true => match Nat.ble (Lib.join (xs.map (·.data.toList)) sep.data.toList).length 140737488355328 with
            | true => some ⟨(Lib.join (xs.map (·.data.toList)) sep.data.toList).toArray⟩
            | false => none
          | false => none
        | none => none
      | none => none
    | _ => none
  | false => none
/-- What is known of functions, and of package-level variables. -/
structure Kn where
  ex : Nat → List SV → Option SV
  gl : Gl
  pre : List SP
  jn : Nat
/-- So many steps. -/
def gx (P : Program) (kn : Kn) : Nat → Func → GS → GC → Option GR
  | 0, _, _, _ => none
  | m + 1, fn, s, .run k => match k with
    | .code .skip :: k => gx P kn m fn s (.run k)
    | .code (.label _) :: k => gx P kn m fn s (.run k)
    | .inBlock _ :: k => gx P kn m fn s (.run k)
    | .inScope _ :: k => gx P kn m fn s (.run k)
    | .code (.seq x y) :: k => gx P kn m fn s (.run (.code x :: .code y :: k))
    | .code (.block i x) :: k => gx P kn m fn s (.run (.code x :: .inBlock i :: k))
    | .code (.scope x) :: k => gx P kn m fn s (.run (.code x :: .inScope x :: k))
    | .code (.loop x) :: k => gx P kn m fn s (.run (.code x :: .inLoop x :: k))
    | .inLoop x :: k => gx P kn m fn s (.run (.code x :: .inLoop x :: k))
    | .code (.exit i) :: k => match exitTo i k with
      | some k' => gx P kn m fn s (.run k')
      | none => none
    | .code (.cond c x y) :: k => match nrm (ev s.env c) with
      | some (.c (.v (.bool true))) => gx P kn m fn s (.run (.code x :: k))
      | some (.c (.v (.bool false))) => gx P kn m fn s (.run (.code y :: k))
      | _ => none
    | .code (.region _ ops false) :: k => gx P kn m fn s (.ops ops ops.toList k)
    | .code (.region _ ops true) :: k => match gx P kn m fn s (.dr ops (Array.replicate ops.size false) (heldOf P ops s).1 (heldOf P ops s).2 s.nl (heldIn (heldOf P ops s).1 (heldOf P ops s).2 s)) with
      | some r => match planOkT ops (isLateT r.plan) r.plan false ops.size (Array.replicate ops.size false) with
        | true => match Region.noSelect ops with
          | true => gx P kn m fn r.s (.run k)
          | false => none
        | false => none
      | none => none
    | .code .ret :: _ => match retG P s.env s.mem fn.results.toList with
      | some vs => match oneG vs with
        | some v => some ⟨s, v, .nil, []⟩
        | none => none
      | none => none
    | [] => match retG P s.env s.mem fn.results.toList with
      | some vs => match oneG vs with
        | some v => some ⟨s, v, .nil, []⟩
        | none => none
      | none => none
    | _ => none
  | m + 1, fn, s, .ops all rest k => match rest with
    | [] => gx P kn m fn s (.run k)
    | o :: rest => match guardG all.toList s.env o with
      | .no => match dstOk fn.ntmps o.dst with
        | true => match putO o.dst (.c (.v undef)) s.env with
          | some env => gx P kn m fn { s with env := env } (.ops all rest k)
          | none => none
        | false => none
      | .yes => match outV (pureX P s.env s.mem s.gm o.op) with
        | some x => match dstOk fn.ntmps o.dst with
          | true => match putO o.dst x s.env with
            | some env => gx P kn m fn { s with env := env } (.ops all rest k)
            | none => none
          | false => none
        | none => match globX kn.gl P s.env o.op with
         | some v => match dstOk fn.ntmps o.dst with
          | true => match putO o.dst (ofV v) s.env with
            | some env => gx P kn m fn { s with env := env } (.ops all rest k)
            | none => none
          | false => none
         | none => match effX P fn.ntmps s o with
          | some s' => gx P kn m fn s' (.ops all rest k)
          | none => match calleeG P s.env o with
            | some (f, vs) => match dstOk fn.ntmps o.dst with
              | true => match kn.ex f vs with
                | some x => match putO o.dst x s.env with
                  | some env => gx P kn m fn { s with env := env } (.ops all rest k)
                  | none => none
                | none => match joinX kn.jn s f vs with
                 | some b => match putO o.dst (.c (.v (.string b))) s.env with
                  | some env => gx P kn m fn { s with env := env } (.ops all rest k)
                  | none => none
                 | none => match P.funcs[f]? with
                  | some fn' => match fn'.body with
                    | some c => match Nat.ble vs.length fn'.ntmps with
                      | true => match gx P kn m fn' ⟨argG 0 vs, s.mem, s.gm, s.nl, s.nl⟩ (.run [.code c]) with
                        | some r => match putO o.dst r.v s.env with
                          | some env => gx P kn m fn ⟨env, r.s.mem, r.s.gm, r.s.nl, minN s.low r.s.low⟩ (.ops all rest k)
                          | none => none
                        | none => none
                      | false => none
                    | none => none
                  | none => none
              | false => none
            | none => none
      | _ => none
  | m + 1, fn, s, .dr all listed m0 g0 n0 hold => match Region.ready .any all listed with
    | [] => some ⟨s, .kb true, .nil, []⟩
    | rd => match lookR kn.gl P fn.ntmps all s.env m0 g0 hold rd with
      | some (b, env, i) => match gx P kn m fn { s with env := env } (.dr all (listed.setIfInBounds i true) m0 g0 n0 hold) with
        | some r => some { r with plan := mkP b i r.plan }
        | none => none
      | none => gx P kn m fn s (.al rd all listed m0 g0 n0 hold)
  | m + 1, fn, s, .al cands all listed m0 g0 n0 hold => match cands with
    | [] => none
    | i :: cs => match gx P kn m fn { s with low := s.nl } (.ef all i) with
      | some e => match gx P kn m fn { e.s with low := minN s.low e.s.low } (.dr all (listed.setIfInBounds i true) m0 g0 n0 (keepIn hold m0 g0 e.s)) with
        | some r => match cs with
          | [] => some { r with plan := .alt i (keepIn hold m0 g0 e.s) r.plan .nil, marks := (i, s.nl, e.s.nl) :: r.marks }
          | _ :: _ => match gx P kn m fn s (.al cs all listed m0 g0 n0 hold) with
            | some q => match sameS (ren s.nl ((i, s.nl, e.s.nl) :: r.marks) q.marks) r.s q.s with
              | true => some { r with plan := .alt i (keepIn hold m0 g0 e.s) r.plan q.plan, marks := (i, s.nl, e.s.nl) :: r.marks }
              | false => none
            | none => none
        | none => none
      | none => none
  | m + 1, fn, s, .ef all i => match getL all.toList i with
    | some o => match guardG all.toList s.env o with
      | .yes => match effX P fn.ntmps s o with
        | some s' => some ⟨s', .kb true, .nil, []⟩
        | none => match calleeG P s.env o with
          | some (f, vs) => match dstOk fn.ntmps o.dst with
            | true => match P.funcs[f]? with
              | some fn' => match fn'.body with
                | some c => match Nat.ble vs.length fn'.ntmps with
                  | true => match gx P kn m fn' ⟨argG 0 vs, s.mem, s.gm, s.nl, s.nl⟩ (.run [.code c]) with
                    | some r => match putO o.dst r.v s.env with
                      | some env => some ⟨⟨env, r.s.mem, r.s.gm, r.s.nl, minN s.low r.s.low⟩, .kb true, .nil, []⟩
                      | none => none
                    | none => none
                  | false => none
                | none => none
              | none => none
            | false => none
          | none => none
      | _ => none
    | none => none
end Go.Proofs.Ytngfadijcpnblaa

/- The evaluator: it only adds to memory, or tells how deep it turned it. -/
namespace Go.Proofs.Ytngfadijcpnblaa
open Go.RowKit

/-- What is known of functions: without a body they give a value; with one there is a contract. -/
def ExOk (P : Program) (exA : Nat → List SV → Option SV) (pre : List SP) : Prop := ∀ f vs x, exA f vs = some x → (∀ n, x.lt n) ∧ ∀ β, ((∀ w, (callFunc f (vs.map (SV.den β)).toArray).run P w = .ok (.value (x.den β)) w) ∨ FnOk P f (vs.map (SV.den β)) pre fun v _ => v = x.den β)

theorem evs_lt {n : Nat} {env : Env} (h : ltE n env) : ∀ {xs : List Operand} {vs : List SV}, evs env xs = some vs → ∀ v ∈ vs, v.lt n
  | [], vs, hv => by simp only [evs, Option.some.injEq] at hv; subst hv; simp
  | x :: r, vs, hv => by
    simp only [evs] at hv
    split at hv <;> try (cases hv; done)
    rename_i s hs
    split at hv <;> cases hv
    rename_i t ht
    intro v hm
    rcases List.mem_cons.1 hm with rfl | hm
    · exact nrm_lt h hs
    · exact evs_lt h ht v hm
theorem ofV_lt (n : Nat) (v : Value) : (ofV v).lt n := by
  cases v <;> first | trivial | exact vs_lt _ _
theorem ofVs_eq : ∀ l : List Value, ofVs l = l.map ofV
  | [] => rfl
  | _ :: r => by simp [ofVs, ofVs_eq r]
theorem ofVs_lt (n : Nat) (l : List Value) : ∀ v ∈ ofVs l, v.lt n := by
  rw [ofVs_eq]
  intro v hv
  obtain ⟨x, _, rfl⟩ := List.mem_map.1 hv
  exact ofV_lt n x
theorem appV_eq {α : Type} : ∀ (z r : List α), appV z r = some (z ++ r)
  | [], r => rfl
  | x :: z, r => by simp [appV, appV_eq z r]
theorem calleeG_lt {P : Program} {n f : Nat} {env : Env} {o : Oper} {us : List SV} (h : ltE n env) (hc : calleeG P env o = some (f, us)) : ∀ v ∈ us, v.lt n := by
  unfold calleeG at hc
  split at hc <;> try (cases hc; done)
  · split at hc <;> try (cases hc; done)
    split at hc <;> try (cases hc; done)
    rename_i vs hvs
    rw [appV_eq] at hc
    simp only at hc
    rw [appV_eq] at hc
    simp only [Option.some.injEq, Prod.mk.injEq] at hc
    obtain ⟨_, rfl⟩ := hc
    intro v hv
    rcases List.mem_append.1 hv with hv | hv
    · exact ofVs_lt n _ v hv
    · rcases List.mem_append.1 hv with hv | hv
      · exact evs_lt h hvs v hv
      · exact ofVs_lt n _ v hv
  · split at hc <;> try (cases hc; done)
    rename_i u hu
    split at hc <;> try (cases hc; done)
    rename_i t rv hrv
    have hrl : rv.lt n := by
      split at hrv <;> cases hrv
      · exact (ev_lt (s := SV.c (.ifl _ _ _)) h hu : _ < n)
      · exact ofV_lt n _
    split at hc <;> try (cases hc; done)
    split at hc <;> try (cases hc; done)
    split at hc <;> try (cases hc; done)
    split at hc <;> try (cases hc; done)
    split at hc <;> try (cases hc; done)
    · split at hc <;> cases hc
      rename_i vs hvs _
      intro v hv
      rcases List.mem_cons.1 hv with rfl | hv
      · exact hrl
      · exact evs_lt h hvs v hv
    · split at hc <;> cases hc
      rename_i vs hvs _
      intro v hv
      rcases List.mem_cons.1 hv with rfl | hv
      · exact hrl
      · exact evs_lt h hvs v hv
theorem retG_lt {P : Program} {n : Nat} {env : Env} {mem : Mem} (h : ltE n env) (hm : ltM n mem) : ∀ {rs : List ResultVar} {vs : List SV}, retG P env mem rs = some vs → ∀ v ∈ vs, v.lt n
  | [], vs, hv => by simp only [retG, Option.some.injEq] at hv; subst hv; simp
  | .tmp t :: r, vs, hv => by
    simp only [retG] at hv
    split at hv <;> try (cases hv; done)
    rename_i s hs
    split at hv <;> cases hv
    rename_i ss hss
    intro v hv
    rcases List.mem_cons.1 hv with rfl | hv
    · exact h _ _ hs
    · exact retG_lt h hm hss v hv
  | .cell x t :: r, vs, hv => by
    simp only [retG] at hv
    split at hv <;> try (cases hv; done)
    split at hv <;> try (cases hv; done)
    rename_i hl
    split at hv <;> try (cases hv; done)
    · split at hv <;> try (cases hv; done)
      rename_i y hy
      split at hv <;> cases hv
      rename_i ss hss
      intro v hv
      rcases List.mem_cons.1 hv with rfl | hv
      · exact (hm _ (lookM_mem hl)).2 _ (getL_mem hy)
      · exact retG_lt h hm hss v hv
    · split at hv <;> try (cases hv; done)
      rename_i ys hy
      split at hv <;> cases hv
      rename_i ss hss
      intro v hv
      rcases List.mem_cons.1 hv with rfl | hv
      · exact fun x hx => (hm _ (lookM_mem hl)).2 _ (cutL_mem hy x hx)
      · exact retG_lt h hm hss v hv
theorem tupG_lt {n : Nat} : ∀ {ss : List SV} {ps : List (Bool × List Ce)}, (∀ v ∈ ss, v.lt n) → tupG ss = some ps → ∀ p ∈ ps, ∀ x ∈ p.2, x.lt n
  | [], ps, _, h => by simp only [tupG, Option.some.injEq] at h; subst h; simp
  | s :: r, ps, hl, h => by
    simp only [tupG] at h
    split at h <;> try (cases h; done)
    rename_i p hp
    split at h <;> cases h
    rename_i qs hq
    intro q hm
    rcases List.mem_cons.1 hm with rfl | hm
    · exact tOf_lt (hl s (by simp)) hp
    · exact tupG_lt (fun v hv => hl v (List.mem_cons_of_mem _ hv)) hq q hm
theorem oneG_lt {n : Nat} {ss : List SV} {v : SV} (hl : ∀ v ∈ ss, v.lt n) (h : oneG ss = some v) : v.lt n := by
  unfold oneG at h
  split at h
  · cases h; exact hl _ (by simp)
  · split at h <;> cases h
    rename_i ps hp
    exact tupG_lt hl hp

theorem argG_lt {n : Nat} : ∀ (vs : List SV) (k : Nat), (∀ v ∈ vs, v.lt n) → ltE n (argG k vs)
  | [], _, _ => fun t x hx => by cases hx
  | v :: r, k, h => fun t x hx => by
    simp only [argG, look_cons] at hx
    split at hx
    · cases hx; exact h v (by simp)
    · exact argG_lt r (k + 1) (fun v hv => h v (List.mem_cons_of_mem _ hv)) t x hx

theorem outV_lt {n : Nat} {o : Out} {x : SV} (h : OutLt n o) (hx : outV o = some x) : x.lt n := by
  unfold outV at hx
  split at hx <;> cases hx
  · exact h
  · exact h
  · trivial
theorem outV_ok {P : Program} {β : Nat → Nat} {s : Sem Next} {w : World} {o : Out} {x : SV} (h : OutOk P β s w o) (hx : outV o = some x) : s.run P w = .ok (.value (x.den β)) w := by
  unfold outV at hx
  split at hx <;> cases hx <;> exact h

theorem lookR_lt {gl : Gl} {P : Program} {n k : Nat} {all : Array Oper} {env env' : Env} {m0 : Mem} {g0 : GMem} {hold : Bool} {pi : Bool} {i : Nat} (h : ltE k env) (hm : ltM k m0) (hg : ltG k g0) : ∀ {rd : List Nat}, lookR gl P n all env m0 g0 hold rd = some (pi, env', i) → ltE k env'
  | [], hl => by cases hl
  | j :: r, hl => by
    simp only [lookR] at hl
    split at hl <;> try (cases hl; done)
    rename_i o ho
    split at hl <;> try (cases hl; done)
    split at hl <;> try (cases hl; done)
    · split at hl <;> cases hl
      rename_i hp
      exact h.putO (x := .c (.v undef)) trivial hp
    · split at hl
      · rename_i x hx
        split at hl <;> cases hl
        rename_i hp
        exact h.putO (outV_lt (pureX_lt h (fun _ he => by cases he) (fun _ he => by cases he) o.op) hx) hp
      · split at hl
        · exact lookR_lt h hm hg hl
        · split at hl
          · rename_i x hx
            split at hl <;> cases hl
            rename_i hp
            exact h.putO (outV_lt (pureX_lt h hm hg o.op) hx) hp
          · split at hl
            · rename_i v hv
              split at hl <;> cases hl
              rename_i hp
              exact h.putO (ofV_lt k v) hp
            · exact lookR_lt h hm hg hl

theorem Grow.lowered {s s' : GS} (h : Grow { s with low := s.nl } s') : Grow s { s' with low := minN s.low s'.low } :=
  ⟨fun b => (let c := h.bd ⟨b.env, b.mem, b.gm⟩; ⟨c.env, c.mem, c.gm⟩), h.nl, (minN_le _ _).1, fun b hb hn m0 g0 k1 k2 k3 k4 => h.keeps b (Nat.le_trans hb (minN_le _ _).2) hn m0 g0 k1 k2 k3 k4⟩
theorem Grow.call {s t : GS} {env : Env} {env0 : Env} (h : Grow ⟨env0, s.mem, s.gm, s.nl, s.nl⟩ t) (h0 : Bd s → ltE s.nl env0) (he : Bd s → Bd t → ltE t.nl env) : Grow s ⟨env, t.mem, t.gm, t.nl, minN s.low t.low⟩ :=
  ⟨fun b => (let c := h.bd ⟨h0 b, b.mem, b.gm⟩; ⟨he b c, c.mem, c.gm⟩), h.nl, (minN_le _ _).1, fun b hb hn m0 g0 k1 k2 k3 k4 => h.keeps b (Nat.le_trans hb (minN_le _ _).2) hn m0 g0 k1 k2 k3 k4⟩
end Go.Proofs.Ytngfadijcpnblaa

/- The evaluator: whatever it runs only adds to memory, or tells how deep it turned it. -/
namespace Go.Proofs.Ytngfadijcpnblaa
open Go.RowKit

structure GrowR (s : GS) (r : GR) : Prop where
  grow : Grow s r.s
  v : Bd s → r.v.lt r.s.nl
theorem GrowR.of {s s' : GS} {r : GR} (h : Grow s s') (k : GrowR s' r) : GrowR s r := ⟨h.trans k.grow, fun b => k.v (h.bd b)⟩
theorem GrowR.plan {s : GS} {r : GR} (h : GrowR s r) (p : PT) (m : Marks) : GrowR s { r with plan := p, marks := m } := ⟨h.grow, h.v⟩
theorem lookR_grow {gl : Gl} {P : Program} {n : Nat} {all : Array Oper} {env' : Env} {m0 : Mem} {g0 : GMem} {hold : Bool} {pi : Bool} {i : Nat} {s : GS} {rd : List Nat} (hm : Bd s → ltM s.nl m0) (hg : Bd s → ltG s.nl g0) (h : lookR gl P n all s.env m0 g0 hold rd = some (pi, env', i)) : Grow s { s with env := env' } :=
  ⟨fun b => ⟨lookR_lt b.env (hm b) (hg b) h, b.mem, b.gm⟩, Nat.le_refl _, Nat.le_refl _, fun b _ _ => Keeps.of_eq rfl rfl⟩

def drOk (s : GS) : GC → Prop
  | .dr _ _ m0 g0 _ _ => ltM s.nl m0 ∧ ltG s.nl g0
  | .al _ _ _ m0 g0 _ _ => ltM s.nl m0 ∧ ltG s.nl g0
  | _ => True

set_option maxHeartbeats 4000000 in
theorem gx_grow {P : Program} {kn : Kn} (hex : ExOk P kn.ex kn.pre) : ∀ (m : Nat) (fn : Func) (s : GS) (c : GC) (r : GR), gx P kn m fn s c = some r → Bd s → drOk s c → GrowR s r
  | 0, _, _, _, _, h, _, _ => by cases h
  | m + 1, fn, s, .run k, r, h, b, _ => by
    have ih := gx_grow (P := P) (kn := kn) hex m
    simp only [gx] at h
    split at h <;> try (cases h; done)
    · exact ih _ _ _ _ h b trivial
    · exact ih _ _ _ _ h b trivial
    · exact ih _ _ _ _ h b trivial
    · exact ih _ _ _ _ h b trivial
    · exact ih _ _ _ _ h b trivial
    · exact ih _ _ _ _ h b trivial
    · exact ih _ _ _ _ h b trivial
    · exact ih _ _ _ _ h b trivial
    · exact ih _ _ _ _ h b trivial
    · split at h <;> try (cases h; done)
      exact ih _ _ _ _ h b trivial
    · split at h <;> try (cases h; done)
      · exact ih _ _ _ _ h b trivial
      · exact ih _ _ _ _ h b trivial
    · exact ih _ _ _ _ h b trivial
    · split at h <;> try (cases h; done)
      rename_i q hq
      split at h <;> try (cases h; done)
      split at h <;> try (cases h; done)
      have h1 := ih _ _ _ _ hq b (heldOf_lt b.mem b.gm)
      exact GrowR.of h1.grow (ih _ _ _ _ h (h1.grow.bd b) trivial)
    · split at h <;> try (cases h; done)
      rename_i vs hv
      split at h <;> cases h
      rename_i v ho
      exact ⟨Grow.refl _, fun b => oneG_lt (retG_lt b.env b.mem hv) ho⟩
    · split at h <;> try (cases h; done)
      rename_i vs hv
      split at h <;> cases h
      rename_i v ho
      exact ⟨Grow.refl _, fun b => oneG_lt (retG_lt b.env b.mem hv) ho⟩
  | m + 1, fn, s, .ops all [] k, r, h, b, _ => by
    have ih := gx_grow (P := P) (kn := kn) hex m
    simp only [gx] at h
    exact ih _ _ _ _ h b trivial
  | m + 1, fn, s, .ops all (o :: rest) k, r, h, b, _ => by
    have ih := gx_grow (P := P) (kn := kn) hex m
    simp only [gx] at h
    split at h <;> try (cases h; done)
    · split at h <;> try (cases h; done)
      split at h <;> try (cases h; done)
      rename_i env hp
      have h1 : Grow s { s with env := env } := Grow.env (x := .c (.v undef)) (fun _ => trivial) hp
      exact GrowR.of h1 (ih _ _ _ _ h (h1.bd b) trivial)
    · split at h
      · rename_i x hx
        split at h <;> try (cases h; done)
        split at h <;> try (cases h; done)
        rename_i env hp
        have h1 : Grow s { s with env := env } := Grow.env (fun b => outV_lt (pureX_lt b.env b.mem b.gm o.op) hx) hp
        exact GrowR.of h1 (ih _ _ _ _ h (h1.bd b) trivial)
      · split at h
        · rename_i v hv
          split at h <;> try (cases h; done)
          split at h <;> try (cases h; done)
          rename_i env hp
          have h1 : Grow s { s with env := env } := Grow.env (fun _ => ofV_lt _ v) hp
          exact GrowR.of h1 (ih _ _ _ _ h (h1.bd b) trivial)
        split at h
        · rename_i s' hs
          have h1 := effX_grow hs
          exact GrowR.of h1 (ih _ _ _ _ h (h1.bd b) trivial)
        · split at h <;> try (cases h; done)
          rename_i f vs hc
          split at h <;> try (cases h; done)
          split at h
          · rename_i x hx
            split at h <;> try (cases h; done)
            rename_i env hp
            have h1 : Grow s { s with env := env } := Grow.env (fun _ => (hex _ _ _ hx).1 _) hp
            exact GrowR.of h1 (ih _ _ _ _ h (h1.bd b) trivial)
          · split at h
            · split at h <;> try (cases h; done)
              rename_i env hp
              have h1 : Grow s { s with env := env } := Grow.env (x := .c (.v (.string _))) (fun _ => trivial) hp
              exact GrowR.of h1 (ih _ _ _ _ h (h1.bd b) trivial)
            split at h <;> try (cases h; done)
            rename_i fn' hf
            split at h <;> try (cases h; done)
            rename_i c hb
            split at h <;> try (cases h; done)
            split at h <;> try (cases h; done)
            rename_i q hq
            split at h <;> try (cases h; done)
            rename_i env hp
            have hl : ltE s.nl (argG 0 vs) := argG_lt vs 0 (calleeG_lt b.env hc)
            have h1 := ih _ _ _ _ hq ⟨hl, b.mem, b.gm⟩ trivial
            have h2 : Grow s ⟨env, q.s.mem, q.s.gm, q.s.nl, minN s.low q.s.low⟩ := Grow.call (s := s) h1.grow (fun _ => hl) (fun b b' => (b.env.mono h1.grow.nl).putO (h1.v ⟨hl, b.mem, b.gm⟩) hp)
            exact GrowR.of h2 (ih _ _ _ _ h (h2.bd b) trivial)
  | m + 1, fn, s, .dr all listed m0 g0 n0 hold, r, h, b, hd => by
    have ih := gx_grow (P := P) (kn := kn) hex m
    obtain ⟨hd1, hd2⟩ : ltM s.nl m0 ∧ ltG s.nl g0 := hd
    simp only [gx] at h
    split at h
    · cases h
      exact ⟨Grow.refl _, fun _ => trivial⟩
    · split at h
      · rename_i pi env i hl
        split at h <;> cases h
        rename_i q hq
        have h1 := lookR_grow (fun _ => hd1) (fun _ => hd2) hl
        exact GrowR.plan (GrowR.of h1 (ih _ _ _ _ hq (h1.bd b) ⟨hd1, hd2⟩)) _ _
      · exact ih _ _ _ _ h b ⟨hd1, hd2⟩
  | m + 1, fn, s, .al cands all listed m0 g0 n0 hold, r, h, b, hd => by
    have ih := gx_grow (P := P) (kn := kn) hex m
    obtain ⟨hd1, hd2⟩ : ltM s.nl m0 ∧ ltG s.nl g0 := hd
    simp only [gx] at h
    split at h <;> try (cases h; done)
    split at h <;> try (cases h; done)
    rename_i e he
    split at h <;> try (cases h; done)
    rename_i q hq
    have h0 := (ih _ _ _ _ he ⟨b.env, b.mem, b.gm⟩ trivial).grow
    have h1 : Grow s { e.s with low := minN s.low e.s.low } := Grow.lowered h0
    have h2 := GrowR.of h1 (ih _ _ _ _ hq (h1.bd b) ⟨hd1.mono h1.nl, hd2.mono h1.nl⟩)
    split at h
    · cases h
      exact GrowR.plan h2 _ _
    · split at h <;> try (cases h; done)
      split at h <;> cases h
      exact GrowR.plan h2 _ _
  | m + 1, fn, s, .ef all i, r, h, b, _ => by
    have ih := gx_grow (P := P) (kn := kn) hex m
    simp only [gx] at h
    split at h <;> try (cases h; done)
    rename_i o ho
    split at h <;> try (cases h; done)
    split at h
    · rename_i s' hs
      cases h
      exact ⟨effX_grow hs, fun _ => trivial⟩
    · split at h <;> try (cases h; done)
      rename_i f vs hc
      split at h <;> try (cases h; done)
      split at h <;> try (cases h; done)
      rename_i fn' hf
      split at h <;> try (cases h; done)
      rename_i c hb
      split at h <;> try (cases h; done)
      split at h <;> try (cases h; done)
      rename_i q hq
      split at h <;> cases h
      rename_i env hp
      have hl : ltE s.nl (argG 0 vs) := argG_lt vs 0 (calleeG_lt b.env hc)
      have h1 := ih _ _ _ _ hq ⟨hl, b.mem, b.gm⟩ trivial
      exact ⟨Grow.call (s := s) h1.grow (fun _ => hl) (fun b b' => (b.env.mono h1.grow.nl).putO (h1.v ⟨hl, b.mem, b.gm⟩) hp), fun _ => trivial⟩
end Go.Proofs.Ytngfadijcpnblaa

/- The evaluator: calls and results are as the model has them. -/
namespace Go.Proofs.Ytngfadijcpnblaa
open Go.RowKit

section
variable {g : Cx} {β : Nat → Nat} {s : GS} {L : Res} {a : Act} {w : World}

theorem evs_ok (h : RelG g β s L a w) : ∀ {xs : List Operand} {vs : List SV}, evs s.env xs = some vs → xs.map a.eval = vs.map (SV.den β)
  | [], vs, hv => by simp only [evs, Option.some.injEq] at hv; subst hv; rfl
  | x :: r, vs, hv => by
    simp only [evs] at hv
    split at hv <;> try (cases hv; done)
    rename_i u hu
    split at hv <;> cases hv
    rename_i t ht
    simp [nrm_evn h hu, evs_ok h ht]
theorem ofVs_den (l : List Value) : (ofVs l).map (SV.den β) = l := by
  rw [ofVs_eq, List.map_map]
  have : (SV.den β ∘ ofV) = id := by funext x; exact ofV_den β x
  rw [this, List.map_id]

theorem calleeG_ok (h : RelG g β s L a w) {o : Oper} {f : Nat} {us : List SV} (hc : calleeG g.P s.env o = some (f, us)) : (execOp a.eval o).run g.P w = (callFunc f (us.map (SV.den β)).toArray).run g.P w := by
  unfold calleeG at hc
  split at hc <;> try (cases hc; done)
  · rename_i x ars ts hop
    split at hc <;> try (cases hc; done)
    rename_i f' first cap hx
    split at hc <;> try (cases hc; done)
    rename_i vs hvs
    rw [appV_eq] at hc
    simp only at hc
    rw [appV_eq] at hc
    simp only [Option.some.injEq, Prod.mk.injEq] at hc
    obtain ⟨rfl, rfl⟩ := hc
    have hargs : ars.map a.eval = (vs.map (SV.den β)).toArray := by
      apply Array.ext'
      simpa using evs_ok h hvs
    have hex : a.eval x = .func (.func f') first cap := h.ev hx
    have e : first ++ (vs.map (SV.den β)).toArray ++ cap = ((ofVs first.toList ++ (vs ++ ofVs cap.toList)).map (SV.den β)).toArray := by
      apply Array.ext'
      simp [ofVs_den]
    simp only [execOp, hop, resolve, hargs, hex, Deferred.ofValue, Sem.run_bind, Sem.run_pure, Result.andThen_ok, invoke, e]
  · rename_i r name ars ts hop
    split at hc <;> try (cases hc; done)
    rename_i u hu
    split at hc <;> try (cases hc; done)
    rename_i t rv hrv
    have er : a.eval r = .iface t (rv.den β) := by
      rw [h.ev hu]
      split at hrv <;> cases hrv
      · rfl
      · rw [ofV_den]; rfl
    split at hc <;> try (cases hc; done)
    rename_i i hi
    split at hc <;> try (cases hc; done)
    rename_i m hm
    split at hc <;> try (cases hc; done)
    rename_i hp
    split at hc <;> try (cases hc; done)
    rename_i f' ptr hf
    have key : ∀ vs, evs s.env ars.toList = some vs → (∀ d, g.P.underlying t = some d → (receiverAt t (.val (rv.den β)) ptr (if m.path.isEmpty then some ((name.splitOn ".").getLastD name) else none)).run g.P w = .ok (rv.den β) w) → (∃ d, g.P.underlying t = some d) →
        (execOp a.eval o).run g.P w = (callFunc f' ((rv :: vs).map (SV.den β)).toArray).run g.P w := by
      intro vs hvs hrec ⟨d, hd⟩
      have hargs : ars.map a.eval = (vs.map (SV.den β)).toArray := by
        apply Array.ext'
        simpa using evs_ok h hvs
      have hmeth : (method (g.P.types.size + Made.depth) t (rv.den β) name).run g.P w = .ok (f', rv.den β) w := by
        have hk : g.P.types.size + Made.depth = (g.P.types.size + 99) + 1 := rfl
        rw [hk]
        have h1 := hrec d hd
        generalize g.P.types.size + 99 = k
        simp only [method, typeInfo, Sem.run_bind, run_program, hi, Sem.run_pure, Result.andThen_ok, hm, hp, follow, hf, h1]
      have e2 : (#[a.eval r] ++ ars.map a.eval).extract 1 (#[a.eval r] ++ ars.map a.eval).size = ars.map a.eval := by
        apply Array.ext'
        simp
        exact List.take_of_length_le (by simp)
      have e3 : #[rv.den β] ++ ars.map a.eval = ((rv :: vs).map (SV.den β)).toArray := by
        rw [hargs]
        apply Array.ext'
        simp
      have e4 : (#[a.eval r] ++ ars.map a.eval)[0]? = some (.iface t (rv.den β)) := by
        rw [← er, Array.getElem?_append_left (by simp)]
        rfl
      simp only [execOp, hop, resolve, Sem.run_bind, Sem.run_pure, Result.andThen_ok, invoke, e4, e2, callMethod, run_program, hmeth, e3]
    split at hc <;> try (cases hc; done)
    · rename_i el hu2
      split at hc <;> cases hc
      rename_i vs hvs
      refine key vs ?_ (fun d hd => ?_) ⟨_, hu2⟩
      · assumption
      · simp [receiverAt, run_underlying hu2, Place.get]
    · rename_i d hne hu2
      split at hc <;> cases hc
      rename_i vs hvs
      refine key vs ?_ (fun d' hd => ?_) ⟨_, hu2⟩
      · assumption
      · cases d <;> first | (exact absurd rfl (hne _)) | (simp [receiverAt, run_underlying hu2, Place.get])

theorem retG_run (hr : RelG g β s L a w) : ∀ (rs : List ResultVar) (vs : List SV), retG g.P s.env s.mem rs = some vs → Sem.run g.P (rs.mapM (resS a.tmps)) w = .ok (vs.map (SV.den β)) w
  | [], vs, h => by simp only [retG, Option.some.injEq] at h; subst h; rfl
  | .tmp t :: r, vs, h => by
    simp only [retG] at h
    split at h <;> try (cases h; done)
    rename_i u hu
    split at h <;> cases h
    rename_i ss hs
    have ih := retG_run hr r ss hs
    have he : a.tmps.getD t undef = u.den β := by rw [Array.getD_eq_getD_getElem?, hr.env t u hu]; rfl
    rw [List.mapM_cons]
    simp only [resS, Sem.run_bind, Sem.run_pure, Result.andThen_ok, he, ih, List.map_cons]
  | .cell x t :: r, vs, h => by
    simp only [retG] at h
    split at h <;> try (cases h; done)
    rename_i l o hx
    have he : a.tmps.getD x undef = .pointer (some ⟨β l, o, none⟩) := by rw [Array.getD_eq_getD_getElem?, hr.env x _ hx]; rfl
    split at h <;> try (cases h; done)
    rename_i tt cs hl
    split at h <;> try (cases h; done)
    · rename_i ha
      split at h <;> try (cases h; done)
      rename_i y hy
      split at h <;> cases h
      rename_i ss hs
      have ih := retG_run hr r ss hs
      rw [List.mapM_cons]
      simp only [resS, Sem.run_bind, Sem.run_pure, Result.andThen_ok, he, asAddr, run_load_one hr hl ha hy, ih, List.map_cons]
      rfl
    · rename_i n ha
      split at h <;> try (cases h; done)
      rename_i ys hy
      split at h <;> cases h
      rename_i ss hs
      have ih := retG_run hr r ss hs
      rw [List.mapM_cons]
      simp only [resS, Sem.run_bind, Sem.run_pure, Result.andThen_ok, he, asAddr, run_load_many hr hl ha hy, ih, List.map_cons]
      rfl
theorem tupG_den : ∀ {ss : List SV} {ps : List (Bool × List Ce)}, tupG ss = some ps → ps.map (tpDen β) = ss.map (SV.den β)
  | [], ps, h => by simp only [tupG, Option.some.injEq] at h; subst h; rfl
  | s :: r, ps, h => by
    simp only [tupG] at h
    split at h <;> try (cases h; done)
    rename_i p hp
    split at h <;> cases h
    rename_i qs hq
    simp [tOf_den hp, tupG_den hq]
theorem oneG_den {vs : List SV} {v : SV} (h : oneG vs = some v) : oneV (vs.map (SV.den β)) = v.den β := by
  unfold oneG at h
  split at h
  · cases h; rfl
  · rename_i hne
    split at h <;> cases h
    rename_i ps hp
    have e := tupG_den (β := β) hp
    show oneV (vs.map (SV.den β)) = .tuple (ps.map (tpDen β)).toArray
    rw [e]
    match vs, hne with
    | [], _ => rfl
    | [x], hne => exact absurd rfl (hne x)
    | _ :: _ :: _, _ => rfl
theorem retG_ok (hr : RelG g β s L a w) {vs : List SV} {v : SV} (h : retG g.P s.env s.mem g.fn.results.toList = some vs) (h1 : oneG vs = some v) : (results g.fn a.tmps).run g.P w = .ok (v.den β) w := by
  have h2 := retG_run hr _ _ h
  have e : results g.fn a.tmps = (do
      let vs ← g.fn.results.mapM (resS a.tmps)
      pure (if h : vs.size = 1 then vs[0] else .tuple vs)) := by
    unfold results
    congr 1
  rw [e, Array.mapM_eq_mapM_toList]
  simp only [Sem.run_bind, Sem.run_map, h2]
  simp only [Result.andThen_ok, Sem.run_pure]
  rw [← oneG_den h1]
  match vs with
  | [] => rfl
  | [v] => rfl
  | v :: u :: r => rfl
end
end Go.Proofs.Ytngfadijcpnblaa

/- Heads: cheap looks at what a goal stands at, for steps that are tried in turn. -/
namespace Go.Proofs.Ytngfadijcpnblaa
section
variable {g : Cx} {env : Env} {mem : Mem} {bnd : Bnd} {L : Res} {N : Act → World → Prop} {Q : Exit → Act → World → Prop} {k : List Item} {kN : Act → World → Prop} {c : Code} {i : Nat} {ops : Array Oper}
  {dst : Option Tmp} {op : Op} {ty : TypeId} {pos : String} {af : Array Edge} {gd : Option (Nat × Bool)}
theorem atRet (h : Nx g env mem bnd L (RunC g (.code .ret :: k))) : Nx g env mem bnd L (RunC g (.code .ret :: k)) := h
theorem atEnd (h : Nx g env mem bnd L (RunC g [])) : Nx g env mem bnd L (RunC g []) := h
theorem atLoop (h : Nx g env mem bnd L (RunC g (.code (.loop c) :: k))) : Nx g env mem bnd L (RunC g (.code (.loop c) :: k)) := h
theorem atIn (h : Nx g env mem bnd L (RunC g (.inLoop c :: k))) : Nx g env mem bnd L (RunC g (.inLoop c :: k)) := h
theorem atDrawn (h : Nx g env mem bnd L (RunC g (.code (.region i ops true) :: k))) : Nx g env mem bnd L (RunC g (.code (.region i ops true) :: k)) := h
theorem atDrawnN (i : Nat) {ops : Array Oper} (h : Nx g env mem bnd L (RunC g (.code (.region i ops true) :: k))) : Nx g env mem bnd L (RunC g (.code (.region i ops true) :: k)) := h
theorem atRun (h : Nx g env mem bnd L (RunC g k)) : Nx g env mem bnd L (RunC g k) := h
theorem atOps {all : Array Oper} {rest : List Oper} (h : Nx g env mem bnd L (OpsC g all rest k)) : Nx g env mem bnd L (OpsC g all rest k) := h
theorem atIdx {t : TypeId} {x j : Operand} (h : Nx g env mem bnd L (OneC g ⟨dst, .indexAddr t x j, ty, pos, af, gd⟩ N Q)) : Nx g env mem bnd L (OneC g ⟨dst, .indexAddr t x j, ty, pos, af, gd⟩ N Q) := h
theorem atLoad {t : TypeId} {x : Operand} (h : Nx g env mem bnd L (OneC g ⟨dst, .load t x, ty, pos, af, gd⟩ N Q)) : Nx g env mem bnd L (OneC g ⟨dst, .load t x, ty, pos, af, gd⟩ N Q) := h
theorem atStore {t : TypeId} {x y : Operand} (h : Nx g env mem bnd L (OneC g ⟨dst, .store t x y, ty, pos, af, gd⟩ N Q)) : Nx g env mem bnd L (OneC g ⟨dst, .store t x y, ty, pos, af, gd⟩ N Q) := h
theorem atCall (f : Nat) {ars : Array Operand} {ts : Array TypeId} (h : Nx g env mem bnd L (OneC g ⟨dst, .call ⟨.value (.func f), ars, ts⟩, ty, pos, af, gd⟩ N Q)) : Nx g env mem bnd L (OneC g ⟨dst, .call ⟨.value (.func f), ars, ts⟩, ty, pos, af, gd⟩ N Q) := h
theorem atApp {ars : Array Operand} {ts : Array TypeId} (h : Nx g env mem bnd L (OneC g ⟨dst, .call ⟨.builtin .append, ars, ts⟩, ty, pos, af, gd⟩ N Q)) : Nx g env mem bnd L (OneC g ⟨dst, .call ⟨.builtin .append, ars, ts⟩, ty, pos, af, gd⟩ N Q) := h
theorem atOne (h : Nx g env mem bnd L (OneC g ⟨dst, op, ty, pos, af, gd⟩ N Q)) : Nx g env mem bnd L (OneC g ⟨dst, op, ty, pos, af, gd⟩ N Q) := h
theorem atHoIdx {T : World → Prop} {t : TypeId} {x j : Operand} (h : Nx g env mem bnd L (HoC g T ⟨dst, .indexAddr t x j, ty, pos, af, gd⟩ N)) : Nx g env mem bnd L (HoC g T ⟨dst, .indexAddr t x j, ty, pos, af, gd⟩ N) := h
theorem atHoLoad {T : World → Prop} {t : TypeId} {x : Operand} (h : Nx g env mem bnd L (HoC g T ⟨dst, .load t x, ty, pos, af, gd⟩ N)) : Nx g env mem bnd L (HoC g T ⟨dst, .load t x, ty, pos, af, gd⟩ N) := h
theorem atHo {T : World → Prop} (h : Nx g env mem bnd L (HoC g T ⟨dst, op, ty, pos, af, gd⟩ N)) : Nx g env mem bnd L (HoC g T ⟨dst, op, ty, pos, af, gd⟩ N) := h
theorem atPlan {H : Held} {hold : Bool} {plan : List PI} (h : Nx g env mem bnd L (planHead g ops H hold plan kN)) : Nx g env mem bnd L (planHead g ops H hold plan kN) := h
theorem atAftK {H : Held} {plan : List PI} (h : Nx g env mem bnd L (AftC g ops H true plan kN)) : Nx g env mem bnd L (AftC g ops H true plan kN) := h
theorem atAftL {H : Held} {plan : List PI} (h : Nx g env mem bnd L (AftC g ops H false plan kN)) : Nx g env mem bnd L (AftC g ops H false plan kN) := h
theorem atBr {b : Bool} {X Y : Prop} (h : BrM b X Y) : BrM b X Y := h
theorem atAr {kk : IntKind} {n : Int} {C : Int → Prop} (h : Ar kk n C) : Ar kk n C := h
end
end Go.Proofs.Ytngfadijcpnblaa

/- The framework, whole. -/
namespace Go.Proofs.Ytngfadijcpnblaa
abbrev iv (n : Int) : SV := .c (.v (.int .i64 n))
abbrev bv (b : Bool) : SV := .c (.v (.bool b))
abbrev sl (A : Option Addr) (n c : Nat) : SV := .c (.v (.slice A n c))
end Go.Proofs.Ytngfadijcpnblaa
