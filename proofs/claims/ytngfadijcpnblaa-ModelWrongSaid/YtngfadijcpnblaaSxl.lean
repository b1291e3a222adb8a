/- More rules: slices of slices; maps from integers. -/
import Derived.Test.YtngfadijcpnblaaSxk
import Derived.MapKept
namespace Go.Proofs.Ytngfadijcpnblaa
open Go.RowKit

section
variable {g : Cx} {β : Nat → Nat} {env : Env} {mem : Mem} {bnd : Bnd} {L : Res} {a : Act} {w : World} {N : Act → World → Prop} {Q : Exit → Act → World → Prop}

/-- Ways that meet again, with what differs among them. -/
theorem Nx.joinX {X : Type} (E : X → Env) (M : X → Mem) (B : Bnd) (R : X → Res) {c : Code} {k : List Item} (h1 : (∀ x, Nx g (E x) (M x) B (R x) (RunC g k)) → Nx g env mem bnd L (RunC g (.code c :: k))) (h2 : ∀ x, Nx g (E x) (M x) B (R x) (RunC g k)) : Nx g env mem bnd L (RunC g (.code c :: k)) := h1 h2

/-! ### x[l:h:m] -/
def evN (env : Env) : Option Operand → Int → Option Int
  | none, d => some d
  | some x, _ => match ev env x with
    | some (.c (.v (.int _ i))) => some i
    | _ => none
def resl (A : Option Addr) (l m sz : Nat) : Option Addr := if m = l then A else A.map (·.add (l * sz))
theorem evN_eval (hr : Rel g β env mem bnd L a w) {x : Operand} {d i : Int} (h : evN env (some x) d = some i) : ∃ k, a.eval x = .int k i := by
  unfold evN at h
  dsimp only at h
  split at h
  · rename_i k j hj
    cases h
    exact ⟨k, hr.ev hj⟩
  · cases h

theorem reslice_run (hr : Rel g β env mem bnd L a w) {o : Oper} {t e : TypeId} {x : Operand} {lo hi mx : Option Operand} {A : Option Addr} {n c sz by_ l h m : Nat}
    (ho : o.op = .slice t x lo hi mx) (hx : ev env x = some (.c (.v (.slice A n c)))) (ht : g.P.underlying t = some (.slice e)) (he : elemI g.P e = some (sz, by_))
    (hlo : evN env lo 0 = some (l : Int)) (hhi : evN env hi n = some (h : Int)) (hmx : evN env mx c = some (m : Int)) (hmh : mx.isSome = true → hi.isSome = true) (h1 : l ≤ h) (h2 : h ≤ m) (h3 : m ≤ c) (w' : World) : (execOp a.eval o).run g.P w' = .ok (.value ((SV.c (.v (.slice (resl A l m sz) (h - l) (m - l)))).den β)) w' := by
  obtain ⟨ei, zz, hei, hz, hzs, hpos, hez, hby⟩ := elemI_ok he
  have e1 : a.eval x = .slice A n c := hr.ev hx
  have hb : ∀ (k : IntKind) (i j : Nat) (code : BoundsCode), i ≤ j → (Instr.sliceBound (.int k i) j code).run g.P w' = .ok i w' := by
    intro k i j code hij
    have : (0 : Int) ≤ i ∧ (i : Int) ≤ j := ⟨by omega, by omega⟩
    simp [Instr.sliceBound, asIntOf, this]
  have hbs : (Instr.sliceBounds true n c (lo.map a.eval) (hi.map a.eval) (mx.map a.eval)).run g.P w' = .ok (l, h, m) w' := by
    have b1 : ∀ (k : IntKind) (code : BoundsCode), (Instr.sliceBound (.int k m) c code).run g.P w' = .ok m w' := fun k code => hb k m c code h3
    have b2 : ∀ (k : IntKind) (code : BoundsCode), (Instr.sliceBound (.int k h) m code).run g.P w' = .ok h w' := fun k code => hb k h m code h2
    have b3 : ∀ (k : IntKind) (code : BoundsCode), (Instr.sliceBound (.int k l) h code).run g.P w' = .ok l w' := fun k code => hb k l h code h1
    cases mx with
    | none =>
      have em : c = m := by
        have : (c : Int) = m := by simpa [evN] using hmx
        omega
      subst em
      cases hi with
      | none =>
        have eh : n = h := by
          have : (n : Int) = h := by simpa [evN] using hhi
          omega
        subst eh
        cases lo with
        | none =>
          have el : 0 = l := by
            have : (0 : Int) = l := by simpa [evN] using hlo
            omega
          subst el
          simp [Instr.sliceBounds]
        | some y =>
          obtain ⟨k, hy⟩ := evN_eval hr hlo
          simp [Instr.sliceBounds, hy, b3]
      | some z =>
        obtain ⟨k2, hz⟩ := evN_eval hr hhi
        cases lo with
        | none =>
          have el : 0 = l := by
            have : (0 : Int) = l := by simpa [evN] using hlo
            omega
          subst el
          simp [Instr.sliceBounds, hz, b2]
        | some y =>
          obtain ⟨k, hy⟩ := evN_eval hr hlo
          simp [Instr.sliceBounds, hy, hz, b2, b3]
    | some q =>
      obtain ⟨k3, hq⟩ := evN_eval hr hmx
      cases hi with
      | none => simp at hmh
      | some z =>
        obtain ⟨k2, hz⟩ := evN_eval hr hhi
        cases lo with
        | none =>
          have el : 0 = l := by
            have : (0 : Int) = l := by simpa [evN] using hlo
            omega
          subst el
          simp [Instr.sliceBounds, hz, hq, b1, b2]
        | some y =>
          obtain ⟨k, hy⟩ := evN_eval hr hlo
          simp [Instr.sliceBounds, hy, hz, hq, b1, b2, b3]
  subst hez
  simp [execOp, ho, e1, Instr.sliceAt, Instr.slice, run_underlying ht, hbs, sizeOf, typeInfo, hei, resl, SV.den, Ce.den]
theorem Nx.reslice {o : Oper} {t e : TypeId} {x : Operand} {lo hi mx : Option Operand} {A : Option Addr} {n c sz by_ l h m : Nat}
    (ho : o.op = .slice t x lo hi mx) (hx : ev env x = some (.c (.v (.slice A n c)))) (ht : g.P.underlying t = some (.slice e)) (he : elemI g.P e = some (sz, by_)) (hd : dstOk g.n o.dst = true)
    (hlo : evN env lo 0 = some (l : Int)) (hhi : evN env hi n = some (h : Int)) (hmx : evN env mx c = some (m : Int)) (hmh : mx.isSome = true → hi.isSome = true) (h1 : l ≤ h) (h2 : h ≤ m) (h3 : m ≤ c)
    (hk : Nx g (putE o.dst (.c (.v (.slice (resl A l m sz) (h - l) (m - l)))) env) mem bnd L N) : Nx g env mem bnd L (OneC g o N Q) :=
  Nx.val hd (fun _ _ _ hr w' => reslice_run hr ho hx ht he hlo hhi hmx hmh h1 h2 h3 w') hk
theorem Nx.hoReslice {o : Oper} {t e : TypeId} {x : Operand} {lo hi mx : Option Operand} {A : Option Addr} {n c sz by_ l h m : Nat} {T : World → Prop}
    (ho : o.op = .slice t x lo hi mx) (hx : ev env x = some (.c (.v (.slice A n c)))) (ht : g.P.underlying t = some (.slice e)) (he : elemI g.P e = some (sz, by_)) (hd : dstOk g.n o.dst = true)
    (hlo : evN env lo 0 = some (l : Int)) (hhi : evN env hi n = some (h : Int)) (hmx : evN env mx c = some (m : Int)) (hmh : mx.isSome = true → hi.isSome = true) (h1 : l ≤ h) (h2 : h ≤ m) (h3 : m ≤ c)
    (hk : Nx g (putE o.dst (.c (.v (.slice (resl A l m sz) (h - l) (m - l)))) env) mem bnd L N) : Nx g env mem bnd L (HoC g T o N) :=
  Nx.hoVal hd (fun _ _ _ hr w' => reslice_run hr ho hx ht he hlo hhi hmx hmh h1 h2 h3 w') hk

/-- What a part of a slice shows. -/
theorem Sees.part {S : SP} {A : Option Addr} {n sz l h m : Nat} {cells : List Value} (hs : Sees S A n sz cells) (h1 : l ≤ h) (h2 : h ≤ n) (h3 : h ≤ m) : Sees S (resl A l m sz) (h - l) sz ((cells.drop (l * sz)).take ((h - l) * sz)) := by
  intro r d hd hS
  obtain ⟨hlen, hrd⟩ := hs r d hd hS
  have hmul : (h - l) * sz = h * sz - l * sz := Nat.sub_mul _ _ _
  have hle : h * sz ≤ n * sz := Nat.mul_le_mul_right _ h2
  have hle1 : l * sz ≤ h * sz := Nat.mul_le_mul_right _ h1
  refine ⟨by rw [List.length_take, List.length_drop, hlen]; omega, fun hpos => ?_⟩
  obtain ⟨b, o, cs, t, fr, rfl, hb, hc⟩ := hrd (by omega)
  refine ⟨b, o + l * sz, cs, t, fr, ?_, hb, fun j hj => ?_⟩
  · unfold resl
    rw [if_neg (by omega)]
    simp [add_plain']
  · rw [List.getElem?_take, if_pos hj, List.getElem?_drop, Nat.add_assoc, ← hc (l * sz + j) (by omega)]
theorem flat_part {α : Type} {enc : α → List Value} {sz : Nat} (he : ∀ x, (enc x).length = sz) : ∀ (l : List α) (k h : Nat), k ≤ h → ((l.flatMap enc).drop (k * sz)).take ((h - k) * sz) = ((l.drop k).take (h - k)).flatMap enc := by
  intro l
  have drop : ∀ (l : List α) (k : Nat), (l.flatMap enc).drop (k * sz) = (l.drop k).flatMap enc := by
    intro l
    induction l with
    | nil => intro k; simp
    | cons x r ih =>
      intro k
      cases k with
      | zero => simp
      | succ k =>
        rw [List.flatMap_cons, List.drop_succ_cons, ← ih k, Nat.succ_mul, Nat.add_comm, ← List.drop_drop, List.drop_left' (he x)]
  have take : ∀ (l : List α) (k : Nat), (l.flatMap enc).take (k * sz) = (l.take k).flatMap enc := by
    intro l
    induction l with
    | nil => intro k; simp
    | cons x r ih =>
      intro k
      cases k with
      | zero => simp
      | succ k =>
        rw [List.flatMap_cons, List.take_succ_cons, List.flatMap_cons, ← ih k, Nat.succ_mul, Nat.add_comm, List.take_append]
        have := he x
        rw [List.take_of_length_le (by omega), this]
        congr 2
        omega
  intro k h _
  rw [drop, take]
/-- .. of a slice of things. -/
theorem Sees.cutOf {α : Type} {enc : α → List Value} {S : SP} {A : Option Addr} {n sz l h m : Nat} {xs : List α} (he : ∀ x, (enc x).length = sz) (hs : Sees S A n sz (xs.flatMap enc)) (h1 : l ≤ h) (h2 : h ≤ n) (h3 : h ≤ m) :
    Sees S (resl A l m sz) (h - l) sz (((xs.drop l).take (h - l)).flatMap enc) := by
  have := hs.part (l := l) (h := h) (m := m) h1 h2 h3
  rwa [flat_part he xs l h h1] at this
end

/-! ### Maps from integers -/
def mget : List (Int × Value) → Int → Option Value
  | [], _ => none
  | (x, v) :: r, k => if k = x then some v else mget r k
def mput : List (Int × Value) → Int → Value → List (Int × Value)
  | [], k, v => [(k, v)]
  | (x, u) :: r, k, v => if k = x then (k, v) :: r else (x, u) :: mput r k v
theorem mget_mput : ∀ (f : List (Int × Value)) (k j : Int) (v : Value), mget (mput f k v) j = if j = k then some v else mget f j
  | [], k, j, v => by simp [mput, mget]
  | (x, u) :: r, k, j, v => by
    unfold mput
    by_cases h : k = x
    · subst h
      simp only [if_true, mget]
      by_cases hj : j = k <;> simp [hj]
    · rw [if_neg h]
      unfold mget
      rw [mget_mput r k j v]
      by_cases hj : j = k
      · subst hj
        simp [h]
      · simp [hj]
abbrev mapIs (kk : IntKind) (es : List MapEntry) (f : List (Int × Value)) : Prop := es.map (fun e => (e.key, e.val)) = f.map fun p => (Value.int kk p.1, p.2)
/-- A map of the call's own. -/
def ownM (kk : IntKind) (b : Nat) (f : List (Int × Value)) : SP := fun _ h => ∃ es clock, h b = some (.map es clock) ∧ mapIs kk es.toList f

theorem findNow_is (kd kk : IntKind) (k : Int) : ∀ (es : List MapEntry) (f : List (Int × Value)) (i : Nat), mapIs kk es f →
    (∃ v j, Instr.findNow (.int kd) (.int kk k) es i = some (some (i + j, v)) ∧ mget f k = some v ∧ (es[j]?.map (·.key)) = some (.int kk k) ∧ ∀ u, mapIs kk (es.modify j fun e => { e with key := .int kk k, val := u }) (mput f k u)) ∨
    (Instr.findNow (.int kd) (.int kk k) es i = some none ∧ mget f k = none ∧ ∀ u born, mapIs kk (es ++ [⟨.int kk k, u, born⟩]) (mput f k u))
  | [], [], i, _ => .inr ⟨rfl, rfl, fun u born => rfl⟩
  | [], _ :: _, i, h => by simp [mapIs] at h
  | _ :: _, [], i, h => by simp [mapIs] at h
  | e :: es, (x, v) :: f, i, h => by
    simp only [mapIs, List.map_cons, List.cons.injEq, Prod.mk.injEq] at h
    obtain ⟨⟨hk, hv⟩, hr⟩ := h
    by_cases hkx : k = x
    · subst hkx
      left
      refine ⟨v, 0, ?_, by simp [mget], by simp [hk], fun u => ?_⟩
      · unfold Instr.findNow
        simp [Instr.sameNow, hk, hv]
      · simp [mapIs, mput, hr]
    · have ih := findNow_is kd kk k es f (i + 1) hr
      have hstep : Instr.findNow (.int kd) (.int kk k) (e :: es) i = Instr.findNow (.int kd) (.int kk k) es (i + 1) := by
        have hf : (k == x) = false := by simp [hkx]
        conv => lhs; unfold Instr.findNow
        simp [Instr.sameNow, hk, hf]
      rcases ih with ⟨v', j, h1, h2, h3, h4⟩ | ⟨h1, h2, h3⟩
      · left
        refine ⟨v', j + 1, by rw [hstep, h1]; simp; omega, by simp [mget, hkx, h2], by simpa using h3, fun u => ?_⟩
        have := h4 u
        simp only [mapIs] at this
        simp [mapIs, mput, hkx, hk, hv, this]
      · right
        refine ⟨by rw [hstep, h1], by simp [mget, hkx, h2], fun u born => ?_⟩
        have := h3 u born
        simp only [mapIs, List.map_append, List.map_cons, List.map_nil] at this
        simp only [mapIs, mput, if_neg hkx, List.cons_append, List.map_cons, List.map_append, List.map_nil, hk, hv, this]

section
variable {g : Cx} {β : Nat → Nat} {env : Env} {mem : Mem} {bnd : Bnd} {L : Res} {a : Act} {w : World} {N : Act → World → Prop} {Q : Exit → Act → World → Prop}

theorem Nx.makeMap (nm : Nat) (kk : IntKind) {o : Oper} {t : TypeId} (ho : o.op = .makeMap t none) (hd : dstOk g.n o.dst = true)
    (hk : ∀ b, Nx g (putE o.dst (.c (.v (.map (some b)))) env) mem bnd ((nm, ownM kk b []) :: L) N) : Nx g env mem bnd L (OneC g o N Q) := by
  intro β a w hr
  have hrun : (execOp a.eval o).run g.P w = .ok (.value (.map (some w.heap.size))) (w.alloc (.map #[] 0)) := by
    simp [execOp, ho, Instr.makeMap]
  have hs : SatW (blk w.heap.size (.map #[] 0) :: (memSP β mem ++ (L.map (·.2) ++ g.F))) (w.alloc (.map #[] 0)) :=
    SatW.fresh hr.sat (fun n x hx => le_hw_alloc w _ n x hx) (by show (w.heap.push _)[w.heap.size]? = _; simp) (by simp)
  have hs2 : SatW (ownM kk w.heap.size [] :: (memSP β mem ++ (L.map (·.2) ++ g.F))) (w.alloc (.map #[] 0)) := hs.imp fun r h hb => ⟨#[], 0, hb, rfl⟩
  have hR : Rel g β env mem bnd ((nm, ownM kk w.heap.size []) :: L) a (w.alloc (.map #[] 0)) := ⟨hr.defers, hr.size, hr.env, hr.bnd, hr.os, hr.tape, hr.output, hs2.perm List.perm_middle.symm⟩
  exact wp_value hrun (hk w.heap.size β _ _ (hR.put o.dst (.c (.v (.map (some w.heap.size)))) hd))
theorem sameBits_int (kk : IntKind) (k : Int) : ∀ n, Instr.sameBits n (.int kk k) (.int kk k) = true := by
  intro n
  cases n <;> simp [Instr.sameBits]

theorem ownM_at {nm : Nat} {L' : Res} {kk : IntKind} {b : Nat} {f : List (Int × Value)} (hr : Rel g β env mem bnd L a w) (hp : takeR nm L = some (ownM kk b f, L')) : ∃ es clock, w.heap[b]? = some (.map es clock) ∧ mapIs kk es.toList f := by
  obtain ⟨r, h, x1, x2, x3, r1, h1', h2', y1, y2, y3, y4, y5, y6⟩ := hr.picked (takeR_pick hp)
  obtain ⟨es, clock, hb, hm⟩ := y5
  exact ⟨es, clock, (PH.le_trans y2 x2) _ _ hb, hm⟩

theorem Nx.lookup (nm : Nat) {o : Oper} {t kt e : TypeId} {x i : Operand} {b : Nat} {kk : IntKind} {k : Int} {f : List (Int × Value)} {L' : Res} {z v : Value}
    (ho : o.op = .lookup t x i false) (hx : ev env x = some (.c (.v (.map (some b))))) (hi : ev env i = some (.c (.v (.int kk k)))) (ht : g.P.underlying t = some (.map kt e)) (hkt : g.P.underlying kt = some (.int kk))
    (hz : (g.P.info? e).bind (·.zero) = some z) (hd : dstOk g.n o.dst = true) (hp : takeR nm L = some (ownM kk b f, L')) (hv : (mget f k).getD z = v)
    (hk : Nx g (putE o.dst (.c (.v v)) env) mem bnd L N) : Nx g env mem bnd L (OneC g o N Q) := by
  intro β a w hr
  obtain ⟨es, clock, hb, hm⟩ := ownM_at hr hp
  have e1 : a.eval x = .map (some b) := hr.ev hx
  have e2 : a.eval i = .int kk k := hr.ev hi
  obtain ⟨ie, hie, hze⟩ := Option.bind_eq_some_iff.1 hz
  have hrun : (execOp a.eval o).run g.P w = .ok (.value v) w := by
    have hck : (Instr.checkKey es.isEmpty 10000 kt (.int kk k)).run g.P w = .ok () w := MapKept.run_checkKey hkt (show MapKept.IsKey (.int kk) (.int kk k) from rfl) _ 9999
    rcases findNow_is kk kk k es.toList f 0 hm with ⟨u, j, h1, h2, _, _⟩ | ⟨h1, h2, _⟩
    · have : v = u := by rw [← hv, h2]; rfl
      subst this
      simp [execOp, ho, e1, e2, Instr.lookup, run_underlying ht, MapKept.run_getObj_map hb, hck, Instr.findKey, run_underlying hkt, h1]
    · have : v = z := by rw [← hv, h2]; rfl
      subst this
      simp [execOp, ho, e1, e2, Instr.lookup, run_underlying ht, MapKept.run_getObj_map hb, hck, Instr.findKey, run_underlying hkt, h1, zeroValue, typeInfo, hie, hze]
  exact wp_value hrun (hk β _ w (hr.put o.dst (.c (.v v)) hd))

theorem Nx.mapPut (nm : Nat) {o : Oper} {t kt e : TypeId} {x i y : Operand} {b : Nat} {kk : IntKind} {k : Int} {f : List (Int × Value)} {L' : Res} {u : Value}
    (ho : o.op = .mapUpdate t x i y) (hx : ev env x = some (.c (.v (.map (some b))))) (hi : ev env i = some (.c (.v (.int kk k)))) (hy : ev env y = some (.c (.v u))) (ht : g.P.underlying t = some (.map kt e)) (hkt : g.P.underlying kt = some (.int kk))
    (hd : dstOk g.n o.dst = true) (hp : takeR nm L = some (ownM kk b f, L'))
    (hk : Nx g (putE o.dst (.c (.v undef)) env) mem bnd ((nm, ownM kk b (mput f k u)) :: L') N) : Nx g env mem bnd L (OneC g o N Q) := by
  intro β a w hr
  have hpick := hr.picked (takeR_pick hp)
  have hpick2 := hpick
  obtain ⟨r, h, x1, x2, x3, r1, h1', h2', y1, y2, y3, y4, y5, y6⟩ := hpick
  obtain ⟨es, clock, hb1, hm⟩ := y5
  have hb : w.heap[b]? = some (.map es clock) := (PH.le_trans y2 x2) _ _ hb1
  have hblk : SatW (blk b (.map es clock) :: (memSP β mem ++ (L'.map (·.2) ++ g.F))) w := ⟨r, h, x1, x2, x3, r1, h1', h2', y1, y2, y3, y4, hb1, y6⟩
  have e1 : a.eval x = .map (some b) := hr.ev hx
  have e2 : a.eval i = .int kk k := hr.ev hi
  have e3 : a.eval y = u := hr.ev hy
  have hck : (Instr.checkKey false 10000 kt (.int kk k)).run g.P w = .ok () w := MapKept.run_checkKey hkt (show MapKept.IsKey (.int kk) (.int kk k) from rfl) _ 9999
  have key : ∃ es' clock', (Instr.mapUpdate t (.map (some b)) (.int kk k) u).run g.P w = .ok () { w with heap := w.heap.setIfInBounds b (.map es' clock') } ∧ mapIs kk es'.toList (mput f k u) := by
    rcases findNow_is kk kk k es.toList f 0 hm with ⟨v, j, h1, h2, h3, h4⟩ | ⟨h1, h2, h3⟩
    · refine ⟨es.modify j fun e => { e with key := .int kk k, val := u }, clock, ?_, by rw [Array.toList_modify]; exact h4 u⟩
      have hold : ((es[j]?.map (·.key)).getD (.int kk k)) = .int kk k := by
        have : es[j]? = es.toList[j]? := by simp
        rw [this, h3]
        rfl
      simp [Instr.mapUpdate, run_underlying ht, MapKept.run_getObj_map hb, hck, Instr.findKey, run_underlying hkt, h1, hold, Instr.keyThatStays, sameBits_int, MapKept.run_setObj_map _ hb]
    · refine ⟨es.push ⟨.int kk k, u, clock⟩, clock + 1, ?_, by rw [Array.toList_push]; exact h3 u clock⟩
      simp [Instr.mapUpdate, run_underlying ht, MapKept.run_getObj_map hb, hck, Instr.findKey, run_underlying hkt, h1, MapKept.run_setObj_map _ hb]
  obtain ⟨es', clock', hrun, hm'⟩ := key
  have hlt : b < w.heap.size := (Array.getElem?_eq_some_iff.1 hb).1
  have h4 : SatW (blk b (.map es' clock') :: (memSP β mem ++ (L'.map (·.2) ++ g.F))) { w with heap := w.heap.setIfInBounds b (.map es' clock') } :=
    SatW.move hblk (fun n x hn hx => by
      show (w.heap.setIfInBounds b _)[n]? = _
      rw [Array.getElem?_setIfInBounds_ne (fun e => hn e.symm)]; exact hx) (by show (w.heap.setIfInBounds b _)[b]? = _; rw [Array.getElem?_setIfInBounds_self_of_lt hlt]) (.inl rfl)
  have h5 : SatW ([ownM kk b (mput f k u)] ++ (memSP β mem ++ (L'.map (·.2) ++ g.F))) { w with heap := w.heap.setIfInBounds b (.map es' clock') } := h4.imp fun r h hs => ⟨es', clock', hs, hm'⟩
  refine wp_skip' (w' := { w with heap := w.heap.setIfInBounds b (.map es' clock') }) ?_ (hk β _ _ ((hr.unpicked (ns := [nm]) (Ps := [_]) h5 rfl rfl rfl).put o.dst (.c (.v undef)) hd))
  simp only [execOp, ho, e1, e2, e3, Sem.run_bind, hrun, Result.andThen_ok, Sem.run_pure]
end
end Go.Proofs.Ytngfadijcpnblaa
