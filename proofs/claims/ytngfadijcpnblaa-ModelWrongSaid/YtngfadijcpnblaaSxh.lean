/- Rules: slices that are read, slices that are owned, loads and stores of blocks that are assertions. -/
import Derived.Test.YtngfadijcpnblaaSxg
import Derived.Maps.AppendAt
namespace Go.Proofs.Ytngfadijcpnblaa
open Go.RowKit

/-- In a memory a slice of so many elements, of so many cells each, has these cells. -/
def Rd (m : PH) (A : Option Addr) (n sz : Nat) (cells : List Value) : Prop :=
  cells.length = n * sz ∧ (0 < n → ∃ b o cs t fr, A = some ⟨b, o, none⟩ ∧ m b = some (.cells cs t fr) ∧ ∀ j, j < n * sz → cs[o + j]? = cells[j]?)
/-- What an assertion lets see. -/
def Sees (S : SP) (A : Option Addr) (n sz : Nat) (cells : List Value) : Prop := ∀ r h, r.dj h → S r h → Rd (r.un h) A n sz cells
/-- A place in a block has these cells. -/
def SeesAt (S : SP) (b p : Nat) (ys : List Value) : Prop := ∀ r h, r.dj h → S r h → ∃ cs t fr, (r.un h) b = some (.cells cs t fr) ∧ ∀ j, j < ys.length → cs[p + j]? = ys[j]?

theorem SeesAt.sub {S : SP} {b p : Nat} {ys : List Value} {y : Value} (h : SeesAt S b p ys) (j : Nat) (hj : ys[j]? = some y) : SeesAt S b (addN p j) [y] := by
  intro r m d s
  obtain ⟨cs, t, fr, h1, h2⟩ := h r m d s
  refine ⟨cs, t, fr, h1, fun i hi => ?_⟩
  have hi0 : i = 0 := by simpa using hi
  subst hi0
  have hlt : j < ys.length := (List.getElem?_eq_some_iff.1 hj).1
  rw [addN_eq, Nat.add_zero, h2 j hlt, hj]
  rfl
theorem SeesAt.cut {S : SP} {b p : Nat} {ys : List Value} (h : SeesAt S b p ys) (j n : Nat) (hn : j + n ≤ ys.length) : SeesAt S b (addN p j) ((ys.drop j).take n) := by
  intro r m d s
  obtain ⟨cs, t, fr, h1, h2⟩ := h r m d s
  refine ⟨cs, t, fr, h1, fun i hi => ?_⟩
  rw [List.length_take, List.length_drop] at hi
  rw [addN_eq, Nat.add_assoc, h2 (j + i) (by omega), List.getElem?_take, if_pos (by omega), List.getElem?_drop]

/-- A slice for reading. -/
def rdS (A : Option Addr) (n sz : Nat) (cells : List Value) : SP := fun r _ => Rd r A n sz cells
/-- A slice of the call's own: its elements are of type e. -/
def ownS (e : TypeId) (A : Option Addr) (n c sz : Nat) (cells : List Value) : SP := fun _ h =>
  cells.length = n * sz ∧ ((A = none ∧ n = 0 ∧ c = 0) ∨
    ∃ b cur, A = some ⟨b, 0, none⟩ ∧ h b = some (.cells cur e (0, 0)) ∧ n ≤ c ∧ c ≤ maxLen ∧ cur.size = c * sz ∧ cur.toList.take (n * sz) = cells)

theorem Rd.mono {m m' : PH} {A : Option Addr} {n sz : Nat} {cells : List Value} (h : Rd m A n sz cells) (hm : m.le m') : Rd m' A n sz cells :=
  ⟨h.1, fun hn => let ⟨b, o, cs, t, fr, h1, h2, h3⟩ := h.2 hn; ⟨b, o, cs, t, fr, h1, hm _ _ h2, h3⟩⟩
theorem rdS_sees (A : Option Addr) (n sz : Nat) (cells : List Value) : Sees (rdS A n sz cells) A n sz cells :=
  fun r h _ hs => Rd.mono hs (PH.le_un_left r h)
theorem rdS_pers (A : Option Addr) (n sz : Nat) (cells : List Value) : Pers (rdS A n sz cells) := fun _ _ h => h
theorem roAll_sees {m : PH} {A : Option Addr} {n sz : Nat} {cells : List Value} (h : Rd m A n sz cells) : Sees (roAll m) A n sz cells :=
  fun r h' _ hs => h.mono (PH.le_trans (show m.le r from hs) (PH.le_un_left r h'))
theorem own_rd {e : TypeId} {A : Option Addr} {n c sz : Nat} {cells : List Value} {r h : PH} (hs : ownS e A n c sz cells r h) : Rd h A n sz cells := by
  refine ⟨hs.1, fun hn => ?_⟩
  rcases hs.2 with ⟨_, h0, _⟩ | ⟨b, cur, h1, h2, h3, h4, h5, h6⟩
  · omega
  · refine ⟨b, 0, cur, e, (0, 0), h1, h2, fun j hj => ?_⟩
    rw [← h6, List.getElem?_take, if_pos hj]
    simp
theorem ownS_sees (e : TypeId) (A : Option Addr) (n c sz : Nat) (cells : List Value) : Sees (ownS e A n c sz cells) A n sz cells :=
  fun _ _ d hs => (own_rd hs).mono (PH.le_un_right d)
theorem own_share {e : TypeId} {A : Option Addr} {n c sz : Nat} {cells : List Value} : ∀ r h, r.dj h → ownS e A n c sz cells r h → rdS A n sz cells (r.un h) PH.em :=
  fun _ _ d hs => (own_rd hs).mono (PH.le_un_right d)
theorem own_nil (e sz : Nat) (r h : PH) : ownS e none 0 0 sz [] r h := ⟨by simp, .inl ⟨rfl, rfl, rfl⟩⟩

theorem Sees.at {S : SP} {A : Option Addr} {n sz : Nat} {cells : List Value} (hs : Sees S A n sz cells) {r h : PH} (d : r.dj h) (hS : S r h) {i : Nat} (hi : i < n) :
    ∃ b p, A = some ⟨b, p, none⟩ ∧ ∃ cs t fr, (r.un h) b = some (.cells cs t fr) ∧ ∀ j, j < sz → cs[p + i * sz + j]? = cells[i * sz + j]? := by
  obtain ⟨b, o, cs, t, fr, h1, h2, h3⟩ := (hs r h d hS).2 (by omega)
  refine ⟨b, o, h1, cs, t, fr, h2, fun j hj => ?_⟩
  have : i * sz + j < n * sz := by
    have := Nat.mul_le_mul_right sz (show i + 1 ≤ n from hi)
    rw [Nat.succ_mul] at this
    omega
  rw [Nat.add_assoc]
  exact h3 _ this

/-- The cells and bytes of an element's type. -/
def elemI (P : Program) (e : TypeId) : Option (Nat × Nat) :=
  match P.info? e with
  | some i => match i.zero with
    | some z => match Nat.beq z.cells.size i.size with
      | true => match Nat.blt 0 i.size with
        | true => some (i.size, i.bytes)
        | false => none
      | false => none
    | none => none
  | none => none
theorem elemI_ok {P : Program} {e : TypeId} {sz by_ : Nat} (h : elemI P e = some (sz, by_)) : ∃ i z, P.info? e = some i ∧ i.zero = some z ∧ z.cells.size = i.size ∧ 0 < i.size ∧ i.size = sz ∧ i.bytes = by_ := by
  unfold elemI at h
  cases hi : P.info? e with
  | none => rw [hi] at h; cases h
  | some i =>
    simp only [hi] at h
    cases hz : i.zero with
    | none => simp only [hz] at h; cases h
    | some z =>
      simp only [hz] at h
      cases h1 : Nat.beq z.cells.size i.size with
      | false => simp only [h1] at h; cases h
      | true =>
        simp only [h1] at h
        cases h2 : Nat.blt 0 i.size with
        | false => simp only [h2] at h; cases h
        | true =>
          simp only [h2] at h
          cases h
          exact ⟨i, z, rfl, hz, by simpa using h1, by simpa [Nat.blt_eq] using h2, rfl, rfl⟩

section
variable {g : Cx} {β : Nat → Nat} {env : Env} {mem : Mem} {bnd : Bnd} {L : Res} {a : Act} {w : World} {N : Act → World → Prop} {Q : Exit → Act → World → Prop}

theorem takeR_pick {n : Nat} {P : SP} {L' : Res} (h : takeR n L = some (P, L')) : pick [n] L = some ([P], L') := by simp [pick, h]

/-- The address of a slice's element. -/
theorem Nx.index (nm : Nat) {o : Oper} {t e : TypeId} {x i : Operand} {A : Option Addr} {n c : Nat} {k : IntKind} {iv : Int} {S : SP} {L' : Res} {sz : Nat} {cells ys : List Value} {by_ : Nat}
    (ho : o.op = .indexAddr t x i) (hx : ev env x = some (.c (.v (.slice A n c)))) (hi : ev env i = some (.c (.v (.int k iv)))) (ht : g.P.underlying t = some (.slice e)) (he : elemI g.P e = some (sz, by_)) (hd : dstOk g.n o.dst = true)
    (hp : takeR nm L = some (S, L')) (hs : Sees S A n sz cells) (h0 : 0 ≤ iv) (h1 : iv < n) (hy : ys.length = sz) (hys : ∀ j, j < sz → cells[iv.toNat * sz + j]? = ys[j]?)
    (hk : ∀ b p, SeesAt S b p ys → Nx g (putE o.dst (.c (.v (.pointer (some ⟨b, p, none⟩)))) env) mem bnd L N) : Nx g env mem bnd L (OneC g o N Q) := by
  intro β a w hr
  obtain ⟨ei, zz, he, hz, hzs, hpos, hez, hby⟩ := elemI_ok he
  have hsat := hr.picked (takeR_pick hp)
  obtain ⟨r, h, x1, x2, x3, r1, h1', h2', y1, y2, y3, y4, y5, y6⟩ := hsat
  have hd1 : r1.dj h1' := PH.dj_mono x3 y1 y2
  have hin : iv.toNat < n := by omega
  obtain ⟨b, p, hA, cs, tt, fr, hb, hc⟩ := hs.at hd1 y5 hin
  subst hA
  have hsee : SeesAt S b (p + iv.toNat * sz) ys := by
    intro r2 h2 d2 s2
    obtain ⟨b', p', hA', cs', tt', fr', hb', hc'⟩ := hs.at d2 s2 hin
    cases hA'
    exact ⟨cs', tt', fr', hb', fun j hj => by rw [hc' j (by omega), hys j (by omega)]⟩
  have hrun : (execOp a.eval o).run g.P w = .ok (.value (.pointer (some ⟨b, p + iv.toNat * sz, none⟩))) w := by
    have e1 : a.eval x = .slice (some ⟨b, p, none⟩) n c := hr.ev hx
    have e2 : a.eval i = .int k iv := hr.ev hi
    simp [execOp, ho, e1, e2, Instr.indexAt, asIntOf, run_underlying ht, h0, h1, sizeOf, typeInfo, he, hez, add_plain']
  exact wp_value hrun (hk b _ hsee β _ _ (hr.put o.dst (.c (.v (.pointer (some ⟨b, p + iv.toNat * sz, none⟩)))) hd))

/-- A load of what an assertion lets see. -/
theorem Nx.load (nm : Nat) {o : Oper} {t : TypeId} {x : Operand} {b p : Nat} {S : SP} {L' : Res} {ys : List Value} {cs : List Ce}
    (ho : o.op = .load t x) (hx : ev env x = some (.c (.v (.pointer (some ⟨b, p, none⟩))))) (hd : dstOk g.n o.dst = true) (hp : takeR nm L = some (S, L')) (hs : SeesAt S b p ys)
    (ht : aggOf g.P t = .many ys.length) (hy : valsO ys = some cs) (hk : Nx g (putE o.dst (.agg cs) env) mem bnd L N) : Nx g env mem bnd L (OneC g o N Q) := by
  intro β a w hr
  have hsat := hr.picked (takeR_pick hp)
  have hw : ∃ cs' t' fr', w.heap[b]? = some (.cells cs' t' fr') ∧ ∀ j, j < ys.length → cs'[p + j]? = ys[j]? := by
    obtain ⟨r, h, x1, x2, x3, r1, h1', h2', y1, y2, y3, y4, y5, y6⟩ := hsat
    obtain ⟨cs', t', fr', q1, q2⟩ := hs r1 h1' (PH.dj_mono x3 y1 y2) y5
    exact ⟨cs', t', fr', (PH.un_le (PH.le_trans y1 x1) (PH.le_trans y2 x2)) _ _ q1, q2⟩
  obtain ⟨cs', t', fr', q1, q2⟩ := hw
  obtain ⟨g1, g2⟩ := aggOf_many ht w
  rw [valsO_eq] at hy
  cases hy
  have hl : (loadCells ⟨b, p, none⟩ ys.length).run g.P w = .ok ys.toArray w := run_loadCells_list (P := g.P) w ⟨b, p, none⟩ ys (fun j v hv => by
    rw [add_plain', cell_of_row w _ _ _ _ _ q1]
    have hj : j < ys.length := (List.getElem?_eq_some_iff.1 hv).1
    rw [q2 j hj]; exact hv)
  have hrun : (execOp a.eval o).run g.P w = .ok (.value ((SV.agg (ys.map .v)).den β)) w := by
    have e1 : a.eval x = .pointer (some ⟨b, p, none⟩) := hr.ev hx
    have e2 : (Ce.den β ∘ Ce.v) = id := rfl
    simp [execOp, ho, e1, Instr.loadAt, Instr.sureAddr, loadVar, g1, g2, hl, SV.den, e2]
  exact wp_value hrun (hk β _ _ (hr.put o.dst (.agg (ys.map .v)) hd))
theorem Nx.load1 (nm : Nat) {o : Oper} {t : TypeId} {x : Operand} {b p : Nat} {S : SP} {L' : Res} {y : Value}
    (ho : o.op = .load t x) (hx : ev env x = some (.c (.v (.pointer (some ⟨b, p, none⟩))))) (hd : dstOk g.n o.dst = true) (hp : takeR nm L = some (S, L')) (hs : SeesAt S b p [y])
    (ht : aggOf g.P t = .one) (hk : Nx g (putE o.dst (.c (.v y)) env) mem bnd L N) : Nx g env mem bnd L (OneC g o N Q) := by
  intro β a w hr
  have hsat := hr.picked (takeR_pick hp)
  have hw : ∃ cs' t' fr', w.heap[b]? = some (.cells cs' t' fr') ∧ ∀ j, j < [y].length → cs'[p + j]? = [y][j]? := by
    obtain ⟨r, h, x1, x2, x3, r1, h1', h2', y1, y2, y3, y4, y5, y6⟩ := hsat
    obtain ⟨cs', t', fr', q1, q2⟩ := hs r1 h1' (PH.dj_mono x3 y1 y2) y5
    exact ⟨cs', t', fr', (PH.un_le (PH.le_trans y1 x1) (PH.le_trans y2 x2)) _ _ q1, q2⟩
  obtain ⟨cs', t', fr', q1, q2⟩ := hw
  have hc : w.cell? ⟨b, p, none⟩ = some y := by
    rw [cell_of_row w _ _ _ _ _ q1]
    simpa using q2 0 (by simp)
  have hrun : (execOp a.eval o).run g.P w = .ok (.value y) w := by
    have e1 : a.eval x = .pointer (some ⟨b, p, none⟩) := hr.ev hx
    simp [execOp, ho, e1, Instr.loadAt, Instr.sureAddr, loadVar, aggOf_one ht, hc]
  exact wp_value hrun (hk β _ _ (hr.put o.dst (.c (.v y)) hd))

/-- From a memory in which one block may have gone, to one that has another block. -/
theorem SatW.move {L : List SP} {w w' : World} {b b' : Nat} {o o' : Obj} (H : SatW (blk b o :: L) w) (hk : ∀ (n : Nat) (x : Obj), n ≠ b → w.heap[n]? = some x → w'.heap[n]? = some x) (hb : w'.heap[b']? = some o') (hn : b' = b ∨ w.heap[b']? = none) : SatW (blk b' o' :: L) w' := by
  obtain ⟨r, h, a, hb0, c, r1, h1, h2, a1, a2, a3, a4, a5, a6⟩ := H
  have hb5 : h1 b = some o := a5
  have h2b : h2 b = none := (a4 b).resolve_left (by rw [hb5]; simp)
  have rb : r b = none := (c b).resolve_right (by rw [a2 b o a5]; simp)
  have keep : ∀ x : PH, x.le (hw w) → x b = none → x.le (hw w') := fun x hx hxb n y hy => by
    by_cases e : n = b
    · subst e; rw [hxb] at hy; cases hy
    · exact hk n y e (hx n y hy)
  have none' : ∀ x : PH, x.le (hw w) → x b = none → x b' = none := fun x hx hxb => by
    rcases hn with e | e
    · subst e; exact hxb
    · exact PH.none_of_le hx e
  have d1 : (PH.one b' o').dj h2 := fun n => by
    by_cases e : n = b'
    · subst e; exact .inr (none' h2 (PH.le_trans a3 hb0) h2b)
    · left; simp [PH.one, e]
  refine ⟨r, (PH.one b' o').un h2, keep r a rb, PH.un_le (PH.one_le hb) (keep h2 (PH.le_trans a3 hb0) h2b), PH.dj_symm (PH.un_dj (fun n => ?_) (PH.dj_symm (PH.dj_mono c (PH.le_refl _) a3))), ?_⟩
  · by_cases e : n = b'
    · subst e; exact .inr (none' r a rb)
    · left; simp [PH.one, e]
  · exact ⟨PH.em, PH.one b' o', h2, PH.em_le _, PH.le_un_left _ _, PH.le_un_right d1, d1, PH.one_self _ _, a6⟩
theorem SatW.fresh {L : List SP} {w w' : World} {b : Nat} {o : Obj} (H : SatW L w) (hk : ∀ (n : Nat) (x : Obj), w.heap[n]? = some x → w'.heap[n]? = some x) (hb : w'.heap[b]? = some o) (hn : w.heap[b]? = none) : SatW (blk b o :: L) w' := by
  obtain ⟨r, h, a, b0, c, d⟩ := H
  have d1 : (PH.one b o).dj h := fun n => by
    by_cases e : n = b
    · subst e; exact .inr (PH.none_of_le b0 hn)
    · left; simp [PH.one, e]
  have d2 : r.dj (PH.one b o) := fun n => by
    by_cases e : n = b
    · subst e; exact .inl (PH.none_of_le a hn)
    · right; simp [PH.one, e]
  refine ⟨r, (PH.one b o).un h, PH.le_trans a hk, PH.un_le (PH.one_le hb) (PH.le_trans b0 hk), PH.dj_symm (PH.un_dj (PH.dj_symm d2) (PH.dj_symm c)), ?_⟩
  exact ⟨PH.em, PH.one b o, h, PH.em_le _, PH.le_un_left _ _, PH.le_un_right d1, d1, PH.one_self _ _, d⟩

/-- What an append leaves of an owned slice. -/
theorem own_append {L : List SP} {w : World} {P : Program} {t ty e : TypeId} {i : TypeInfo} {z : Value} {A : Option Addr} {n c : Nat} {cells : List Value} (ht : P.underlying t = some (.slice e)) (hi : P.info? e = some i) (hz : i.zero = some z)
    (hzs : z.cells.size = i.size) (hsz : 0 < i.size) (H : SatW (ownS e A n c i.size cells :: L) w) (ad : Addr) (m c' : Nat) (news : List Value) (hl : news.length = m * i.size) (hnews : ∀ j u, news[j]? = some u → w.cell? (ad.add j) = some u)
    (h1 : ∀ u ∈ news, u.oneCell' = true) (h63 : n + m ≤ maxLen) (hbytes : (n + m) * i.bytes ≤ 140737488355328) :
    ∃ A' c'' w', (Builtin.append_ #[t, t] ty #[.slice A n c, .slice (some ad) m c']).run P w = .ok (.slice A' (n + m) c'') w' ∧ w'.os = w.os ∧ w'.tape = w.tape ∧ w'.output = w.output ∧ SatW (ownS e A' (n + m) c'' i.size (cells ++ news) :: L) w' := by
  have hown : w.ownsRow 0 e i.size (.slice A n c) n cells := by
    obtain ⟨r, h, a, hb, cc, r1, k1, k2, a1, a2, a3, a4, a5, a6⟩ := H
    refine ⟨a5.1, ?_⟩
    rcases a5.2 with ⟨rfl, rfl, rfl⟩ | ⟨b, cur, rfl, h2, h3, h4, h5, h6⟩
    · exact .inl ⟨rfl, rfl⟩
    · exact .inr ⟨b, c, cur, rfl, Nat.zero_le _, hb _ _ (a2 _ _ h2), h3, h4, h5, h6⟩
  obtain ⟨v', w', hrun, hown', hg, _, hat⟩ := run_append_own_at (P := P) w 0 t ty e i z i.size i.bytes ht hi hz rfl rfl hzs hsz _ n cells hown ad m c' news hl hnews h1 h63 hbytes (Nat.zero_le _)
  have hlen := hown'.1
  rcases hown'.2 with ⟨rfl, h0⟩ | ⟨b', cap, cur', rfl, _, hh, hn, hm, hcs, htk⟩
  · refine ⟨none, 0, w', by rw [hrun, h0], hg.os, hg.tape, hg.output, ?_⟩
    have hL := H.tail
    have hA : A = none := by
      rcases hown.2 with ⟨hv, _⟩ | ⟨b, _, _, hv, _⟩
      · injection hv
      · injection hv with hv
        subst hv
        rcases hat with hat | hat <;> simp [Value.ownBlock] at hat
    subst hA
    have : SatW L w' := hL.more fun k x hx => by
      have hk : k < w.heap.size := (Array.getElem?_eq_some_iff.1 hx).1
      show w'.heap[k]? = some x
      rw [hg.block k hk (by simp [Value.ownBlock])]; exact hx
    obtain ⟨r, h, y1, y2, y3, y4⟩ := this
    exact ⟨r, h, y1, y2, y3, PH.em, PH.em, h, PH.em_le _, PH.em_le _, PH.le_refl _, PH.em_dj _, ⟨hlen, .inl ⟨rfl, h0, rfl⟩⟩, y4⟩
  · refine ⟨some ⟨b', 0, none⟩, cap, w', hrun, hg.os, hg.tape, hg.output, ?_⟩
    have keep : ∀ (k : Nat) (x : Obj), (some k ≠ (Value.slice A n c).ownBlock) → w.heap[k]? = some x → w'.heap[k]? = some x := fun k x hne hx => by
      have hk : k < w.heap.size := (Array.getElem?_eq_some_iff.1 hx).1
      rw [hg.block k hk hne]; exact hx
    have key : SatW (blk b' (.cells cur' e (0, 0)) :: L) w' := by
      have H' := H
      obtain ⟨r, h, a, hb, cc, r1, k1, k2, a1, a2, a3, a4, a5, a6⟩ := H'
      rcases a5.2 with ⟨rfl, rfl, rfl⟩ | ⟨b, cur, rfl, h2, h3, h4, h5, h6⟩
      · have hb' : b' = w.heap.size := by
          rcases hat with hat | hat
          · simp [Value.ownBlock] at hat
          · simpa [Value.ownBlock] using hat
        exact SatW.fresh H.tail (fun k x hx => keep k x (by simp [Value.ownBlock]) hx) hh (by subst hb'; simp)
      · have hblk : SatW (blk b (.cells cur e (0, 0)) :: L) w := ⟨r, h, a, hb, cc, r1, k1, k2, a1, a2, a3, a4, h2, a6⟩
        refine SatW.move hblk (fun k x hne hx => keep k x (by simp [Value.ownBlock, hne]) hx) hh ?_
        rcases hat with hat | hat
        · left; simpa [Value.ownBlock] using hat
        · right
          have : b' = w.heap.size := by simpa [Value.ownBlock] using hat
          subst this; simp
    exact key.imp fun r h hs => ⟨hlen, .inr ⟨b', cur', rfl, hs, hn, hm, hcs, htk⟩⟩

/-- append of a row of the call's own to an owned slice. -/
theorem Nx.append (nm : Nat) {o : Oper} {t e : TypeId} {x y : Operand} {A : Option Addr} {n c : Nat} {L' : Res} {sz l m c' tt : Nat} {cells news : List Value} {by_ : Nat} {cs : List Ce}
    (ho : o.op = .call ⟨.builtin .append, #[x, y], #[t, t]⟩) (hx : ev env x = some (.c (.v (.slice A n c)))) (hy : ev env y = some (.c (.locs l 0 m c'))) (hl : lookM mem l = some (tt, cs)) (hv : cesV bnd cs = some news)
    (ht : g.P.underlying t = some (.slice e)) (he : elemI g.P e = some (sz, by_)) (hd : dstOk g.n o.dst = true)
    (hp : takeR nm L = some (ownS e A n c sz cells, L')) (hlen : Nat.beq news.length (m * sz) = true) (hone : (news.all fun u => u.oneCell') = true) (h63 : n + m ≤ maxLen) (hbytes : (n + m) * by_ ≤ 140737488355328)
    (hk : ∀ A' c'', Nx g (putE o.dst (.c (.v (.slice A' (n + m) c''))) env) mem bnd ((nm, ownS e A' (n + m) c'' sz (cells ++ news)) :: L') N) : Nx g env mem bnd L (OneC g o N Q) := by
  intro β a w hr
  obtain ⟨ei, z, hei, hz, hzs, hpos, hes, hby⟩ := elemI_ok he
  subst hes
  subst hby
  have hsat := hr.picked (takeR_pick hp)
  have hblk := hr.block hl
  have hcv : cellsOf β cs = news.toArray := by unfold cellsOf; rw [cesV_den hr.bnd hv]
  obtain ⟨A', c'', w', hrun, h1, h2, h3, h4⟩ := own_append (P := g.P) (ty := o.type) ht hei hz hzs hpos hsat ⟨β l, 0, none⟩ m c' news (by simpa using hlen) (fun j u hu => by
    rw [add_plain', Nat.zero_add, cell_of_row w _ _ _ _ _ hblk, hcv]
    simpa using hu) (by simpa using hone) h63 hbytes
  have hrun' : (execOp a.eval o).run g.P w = .ok (.value (.slice A' (n + m) c'')) w' := by
    have e1 : a.eval x = .slice A n c := hr.ev hx
    have e2 : a.eval y = .slice (some ⟨β l, 0, none⟩) m c' := hr.ev hy
    simp [execOp, ho, resolve, e1, e2, invoke, builtin, hrun]
  refine wp_value hrun' (hk A' c'' β _ _ ?_)
  exact (hr.unpicked (ns := [nm]) (Ps := [_]) h4 h1 h2 h3).put o.dst (.c (.v (.slice A' (n + m) c''))) hd

/-- An assertion that holds of no memory at all. -/
theorem Nx.give (nm : Nat) (P : SP) (hP : P PH.em PH.em) (h : Nx g env mem bnd ((nm, P) :: L) N) : Nx g env mem bnd L N := by
  intro β a w hr
  refine h β a w ⟨hr.defers, hr.size, hr.env, hr.bnd, hr.os, hr.tape, hr.output, ?_⟩
  obtain ⟨r, hh, y1, y2, y3, y4⟩ := hr.sat
  have : SatW (P :: (memSP β mem ++ (L.map (·.2) ++ g.F))) w := ⟨r, hh, y1, y2, y3, PH.em, PH.em, hh, PH.em_le _, PH.em_le _, PH.le_refl _, PH.em_dj _, hP, y4⟩
  exact this.perm List.perm_middle.symm

/-! ### Slices of things that are laid as cells -/
theorem flat_len {α : Type} {enc : α → List Value} {sz : Nat} (he : ∀ x, (enc x).length = sz) (l : List α) : (l.flatMap enc).length = l.length * sz := by
  induction l with
  | nil => simp
  | cons x r ih => rw [List.flatMap_cons, List.length_append, ih, he, List.length_cons, Nat.succ_mul]; omega
theorem flat_at {α : Type} {enc : α → List Value} {sz : Nat} (he : ∀ x, (enc x).length = sz) : ∀ (l : List α) (i : Nat) (hi : i < l.length) (j : Nat), j < sz → (l.flatMap enc)[i * sz + j]? = (enc l[i])[j]?
  | [], i, hi, _, _ => by simp at hi
  | x :: r, 0, hi, j, hj => by
    rw [List.flatMap_cons, List.getElem?_append_left (by rw [he]; omega)]
    simp
  | x :: r, i + 1, hi, j, hj => by
    rw [List.flatMap_cons, List.getElem?_append_right (by rw [he, Nat.succ_mul]; omega), he, List.getElem_cons_succ, ← flat_at he r i (by simpa using hi) j hj]
    congr 1
    rw [Nat.succ_mul]
    omega

/-- The address of an element of a slice of such things. -/
theorem Nx.idx (nm : Nat) {α : Type} {enc : α → List Value} {l : List α} {o : Oper} {t e : TypeId} {x i : Operand} {A : Option Addr} {n c : Nat} {k : IntKind} {iv : Int} {S : SP} {L' : Res} {sz j by_ : Nat}
    (ho : o.op = .indexAddr t x i) (hx : ev env x = some (.c (.v (.slice A n c)))) (hi : ev env i = some (.c (.v (.int k iv)))) (ht : g.P.underlying t = some (.slice e)) (he : elemI g.P e = some (sz, by_)) (hd : dstOk g.n o.dst = true)
    (hp : takeR nm L = some (S, L')) (henc : ∀ x, (enc x).length = sz) (hs : Sees S A n sz (l.flatMap enc)) (hn : n = l.length) (hj : iv = j) (hlt : j < l.length)
    (hk : ∀ b p, SeesAt S b p (enc l[j]) → Nx g (putE o.dst (.c (.v (.pointer (some ⟨b, p, none⟩)))) env) mem bnd L N) : Nx g env mem bnd L (OneC g o N Q) := by
  subst hj
  subst hn
  refine Nx.index nm ho hx hi ht he hd hp hs (Int.natCast_nonneg _) (by omega) (ys := enc l[j]) (henc _) (fun j' hj' => ?_) hk
  rw [Int.toNat_natCast]
  exact flat_at henc l j hlt j' hj'
end
end Go.Proofs.Ytngfadijcpnblaa
