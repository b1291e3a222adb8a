/- The plan's executor is sound; rules at its stops. -/
import Derived.Test.YtngfadijcpnblaaSxi
namespace Go.Proofs.Ytngfadijcpnblaa
open Go.RowKit

section
variable {g : Cx} {β : Nat → Nat} {env : Env} {mem : Mem} {bnd : Bnd} {L : Res} {a : Act} {w : World} {N : Act → World → Prop} {Q : Exit → Act → World → Prop} {ops : Array Oper} {H : Held} {plan r : List PI} {k : List Item}

/-- A look, at other worlds that hold the blocks at which it may look. -/
theorem lookStep_sound {o : Oper} {lm : Mem} {S : World → Prop} {st C D R : Env → Prop} (hr : Rel g β env mem bnd L a w) (hS : ∀ w', S w' → SatW (memSP β lm) w')
    (hst : st env → HoC g S o N a w) (hC : ∀ env' a', C env' → Rel g β env' mem bnd L a' w → N a' w) (hD : ∀ env' a', D env' → Rel g β env' mem bnd L a' w → N a' w)
    (hR2 : ∀ env', R env' → Rel g β env' mem bnd L a w → HoC g S o N a w)
    (h : lookStep g env lm bnd o st C D R) : HoC g S o N a w := by
  unfold lookStep at h
  simp only [putC_eq, assumeC_eq] at h
  split at h
  · exact hst h
  rename_i hd
  have hp : ∀ w', S w' → OutOk g.P β (execOp a.eval o) w' (pureOp g.P env lm bnd o.op) := fun w' hw' => by
    have hr' : Rel { g with F := [], os := w'.os, tape := w'.tape, output := w'.output } β env lm bnd [] a w' :=
      ⟨hr.defers, hr.size, hr.env, hr.bnd, rfl, rfl, rfl, by simpa using hS w' hw'⟩
    exact pureOp_ok hr' o
  split at h
  · rename_i x hx
    exact ⟨_, fun w' hw' => by have := hp w' hw'; rw [hx] at this; exact this, hC _ _ h (hr.put o.dst x hd)⟩
  · rename_i cs hx
    exact ⟨_, fun w' hw' => by have := hp w' hw'; rw [hx] at this; exact this, hC _ _ h (hr.put o.dst (.agg cs) hd)⟩
  · rename_i kk n hx
    exact ⟨_, fun w' hw' => by have := hp w' hw'; rw [hx] at this; exact this, hD _ _ h.out (hr.put o.dst (.c (.v (.int kk (kk.wrap n)))) hd)⟩
  · clear hp
    split at h
    · rename_i c x y hop
      have key : ∀ (b : Bool), a.eval c = .bool b → ∀ (z : Operand) (s : SV), ev env z = some s → (if b then z = x else z = y) → ∀ w', (execOp a.eval o).run g.P w' = .ok (.value (s.den β)) w' := by
        intro b ecb z s hz hzb w'
        have ez := hr.ev hz
        cases b
        · simp only [Bool.false_eq_true, if_false] at hzb
          subst hzb
          simp [execOp, hop, ecb, asBool, ez]
        · simp only [if_true] at hzb
          subst hzb
          simp [execOp, hop, ecb, asBool, ez]
      split at h
      · rename_i hc
        split at h
        · rename_i u hu
          exact ⟨_, fun w' _ => key true (hr.ev hc) x u hu (by simp) w', hC _ _ h (hr.put o.dst u hd)⟩
        · exact hst h
      · rename_i hc
        split at h
        · rename_i v hv
          exact ⟨_, fun w' _ => key false (hr.ev hc) y v hv (by simp) w', hC _ _ h (hr.put o.dst v hd)⟩
        · exact hst h
      · rename_i b hc
        obtain ⟨h1, h2⟩ := h.out
        cases b
        · exact hR2 _ (h2 rfl) (assume_rel hr hc rfl)
        · exact hR2 _ (h1 rfl) (assume_rel hr hc rfl)
      · exact hst h
    · exact hst h

theorem held_sat (hB : ∀ l b, lookB H.bnd l = some b → lookB bnd l = some b) {Ps : List SP} (hP : pinS H.bnd H.mem = some Ps) (hr : Rel g β env mem bnd L a w) : ∀ w', heldW H w' → SatW (memSP β H.mem) w' := fun w' hw' => by
  rw [pinS_eq (fun l b h => hr.bnd l b (hB l b h)) hP]
  exact (hw' Ps hP).app_left

theorem planHead_intro {hold : Bool} (h : (hold = true → heldW H w) → planRun g.P ops (Qn g k) (heldW H) plan a w) : planHead g ops H hold plan k a w := by
  cases hold
  · exact h (fun h => by cases h)
  · exact fun hw => h (fun _ => hw)

theorem planHead_pure {hold : Bool} {i : Nat} (h : planHead g ops H hold (.pure i :: r) k a w) {o : Oper} (ho : ops[i]? = some o) (hw : Region.wanted o (yielded ops a.tmps) = true) : HoC g (fun _ => True) o (planHead g ops H hold r k) a w ∨ (hold = true ∧ ¬ heldW H w) := by
  have key : planRun g.P ops (Qn g k) (heldW H) (.pure i :: r) a w → HoC g (fun _ => True) o (planHead g ops H hold r k) a w := by
    rintro ⟨o', v, ho', hy, hrun⟩
    rw [ho] at ho'
    cases ho'
    rcases hy with ⟨_, hy⟩ | ⟨hn, _⟩
    · refine ⟨v, hy, ?_⟩
      cases hold
      · exact hrun
      · exact fun _ => hrun
    · rw [hw] at hn; cases hn
  cases hold
  · exact .inl (key h)
  · by_cases hh : heldW H w
    · exact .inl (key (h hh))
    · exact .inr ⟨rfl, hh⟩
theorem planHead_held {i : Nat} (h : planHead g ops H true (.held i :: r) k a w) {o : Oper} (ho : ops[i]? = some o) (hw : Region.wanted o (yielded ops a.tmps) = true) (hh : heldW H w) : HoC g (heldW H) o (planHead g ops H true r k) a w := by
  obtain ⟨o', v, ho', hy, _, hrun⟩ := h hh
  rw [ho] at ho'
  cases ho'
  rcases hy with ⟨_, hy⟩ | ⟨hn, _⟩
  · exact ⟨v, hy, fun _ => hrun⟩
  · rw [hw] at hn; cases hn

set_option maxHeartbeats 1000000 in
theorem sxP_sound {Ps : List SP} (hP : pinS H.bnd H.mem = some Ps) : ∀ (n : Nat) (hold : Bool) (env : Env) (mem : Mem) (bnd : Bnd) (L : Res) (plan : List PI), (∀ l b, lookB H.bnd l = some b → lookB bnd l = some b) →
    sxP n g ops H hold env mem bnd L plan k → Nx g env mem bnd L (planHead g ops H hold plan k)
  | 0, hold, env, mem, bnd, L, plan, hB, h => h
  | n + 1, hold, env, mem, bnd, L, plan, hB, h => by
    unfold sxP at h
    simp only [putC_eq] at h
    intro β a w hr
    split at h
    · exact planHead_intro fun _ => h β a w hr
    · rename_i i r
      split at h
      · rename_i o ho
        have ho' : ops[i]? = some o := by rw [getL_eq, Array.getElem?_toList] at ho; exact ho
        split at h
        · rename_i hg
          have hw := guardS_yes hr hg
          refine planHead_intro fun hh => ?_
          have := lookStep_sound (S := fun _ => True) (N := planHead g ops H hold r k) (lm := []) hr (fun w' _ => SatW.nil w')
            (fun hs => hs β a w hr) (fun env' a' hs hr2 => sxP_sound hP n hold env' mem bnd L r hB hs β a' w hr2) (fun env' a' hs hr2 => hs β a' w hr2)
            (fun env' hs hr2 => by
              rcases planHead_pure (hs β a w hr2) ho' hw with h | ⟨h1, h2⟩
              · exact h
              · exact absurd (hh h1) h2) h
          obtain ⟨v, h1, h2⟩ := this
          refine ⟨o, v, ho', .inl ⟨hw, fun w' hw' => h1 w' hw'⟩, ?_⟩
          cases hold
          · exact h2
          · exact h2 (hh rfl)
        · rename_i hg
          split at h
          · rename_i hd
            refine planHead_intro fun hh => ⟨o, undef, ho', .inr ⟨guardS_no hr hg, rfl⟩, ?_⟩
            have h2 := sxP_sound hP n hold _ mem bnd L r hB h β _ w (hr.put o.dst (.c (.v undef)) hd)
            cases hold
            · exact h2
            · exact h2 (hh rfl)
          · exact h.elim
        · rename_i d b hg
          obtain ⟨h1, h2⟩ := h.out
          have hl := guardS_br hg
          cases b
          · exact h2 rfl β a w (assume_slot hr hl)
          · exact h1 rfl β a w (assume_slot hr hl)
        · exact h β a w hr
      · exact h.elim
    · rename_i i r
      split at h
      · exact h.elim
      · split at h
        · rename_i o ho
          have ho' : ops[i]? = some o := by rw [getL_eq, Array.getElem?_toList] at ho; exact ho
          split at h
          · rename_i hg
            have hw := guardS_yes hr hg
            intro hh
            have := lookStep_sound (S := heldW H) (N := planHead g ops H true r k) hr (held_sat hB hP hr)
              (fun hs => hs β a w hr) (fun env' a' hs hr2 => sxP_sound hP n true env' mem bnd L r hB hs β a' w hr2) (fun env' a' hs hr2 => hs β a' w hr2)
              (fun env' hs hr2 => planHead_held (hs β a w hr2) ho' hw hh) h
            obtain ⟨v, h1, h2⟩ := this
            exact ⟨o, v, ho', .inl ⟨hw, h1⟩, hh, h2 hh⟩
          · rename_i hg
            split at h
            · rename_i hd
              have h2 := sxP_sound hP n true _ mem bnd L r hB h β _ w (hr.put o.dst (.c (.v undef)) hd)
              exact fun hh => ⟨o, undef, ho', .inr ⟨guardS_no hr hg, rfl⟩, hh, h2 hh⟩
            · exact h.elim
          · rename_i d b hg
            obtain ⟨h1, h2⟩ := h.out
            have hl := guardS_br hg
            cases b
            · exact h2 rfl β a w (assume_slot hr hl)
            · exact h1 rfl β a w (assume_slot hr hl)
          · exact h β a w hr
        · exact h.elim
    · rename_i i keep r
      split at h
      · rename_i o ho
        have ho' : ops[i]? = some o := by rw [getL_eq, Array.getElem?_toList] at ho; exact ho
        split at h
        · rename_i hg
          refine planHead_intro fun hh => ⟨o, ho', .inl ⟨guardS_yes hr hg, ?_⟩⟩
          have h3 := opStep_sound (g := g) (N := AftC g ops H keep r k) (Q := Qn g k) hr (fun h => h β a w hr) (fun _ _ h => h) (fun _ h => h) (fun env' bnd' h hr' => h β a w hr') h
          exact Oper.wp_mono (fun a' w' h4 => ⟨fun hk _ => h4.1 hk, h4.2⟩) h3
        · rename_i hg
          split at h
          · rename_i hd
            refine planHead_intro fun hh => ⟨o, ho', .inr ⟨guardS_no hr hg, ?_⟩⟩
            have h2 := sxP_sound hP n hold _ mem bnd L r hB h β _ w (hr.put o.dst (.c (.v undef)) hd)
            cases hold
            · exact h2
            · exact h2 (hh rfl)
          · exact h.elim
        · rename_i d b hg
          obtain ⟨h1, h2⟩ := h.out
          have hl := guardS_br hg
          cases b
          · exact h2 rfl β a w (assume_slot hr hl)
          · exact h1 rfl β a w (assume_slot hr hl)
        · exact h β a w hr
      · exact h.elim

/-! ### Rules -/
theorem Nx.runP {n : Nat} {hold : Bool} {Ps : List SP} (hP : pinS H.bnd H.mem = some Ps) (hB : subB H.bnd bnd) (h : sxP n g ops H hold env mem bnd L plan k) : Nx g env mem bnd L (planHead g ops H hold plan k) :=
  sxP_sound hP n hold env mem bnd L plan (fun _ _ hl => hB.look hl) h

/-- What is held, of a state. -/
theorem Rel.held {Rs : Res} {Ps : List SP} (hr : Rel g β env mem bnd L a w) (hP : pinS H.bnd H.mem = some Ps) (hB : subB H.bnd bnd) (hM : subM H.mem mem) (hL : subR Rs L) (hps : Rs.map (·.2) = H.ps) : heldW H w := by
  intro Ps' hP'
  rw [hP] at hP'
  cases hP'
  have h1 := hL.sat _ w (hM.sat _ w hr.sat).swapHead
  have h2 := h1.swapHead
  rw [pinS_eq (fun l b h => hr.bnd l b (hB.look h)) hP, hps] at h2
  rw [← List.append_assoc] at h2
  exact h2.app_left

/-- The beginning of a region whose order is drawn. -/
theorem Nx.drawn {i : Nat} (plan : List PI) (H : Held) (Rs : Res) {Ps : List SP} (hm : g.P.follows .mixedOrders = true) (hsel : Region.noSelect ops = true) (hlen : plan.length = ops.size) (hok : planOk ops (isLate plan) (Array.replicate ops.size false) plan = true)
    (hP : pinS H.bnd H.mem = some Ps) (hB : subB H.bnd bnd) (hM : subM H.mem mem) (hL : subR Rs L) (hps : Rs.map (·.2) = H.ps)
    (h : Nx g env mem bnd L (planHead g ops H true plan k)) : Nx g env mem bnd L (RunC g (.code (.region i ops true) :: k)) := by
  intro β a w hr
  have hr' : Rel g β env mem bnd L a { w with drawn := w.drawn + 1 } := hr.world rfl rfl rfl rfl
  refine Ret.code (wp_region_any hm (wpX_any _ _ _ _ (S := heldW H) (late := isLate plan) ?_))
  rw [← hlen]
  exact plan_sound hsel (fun c a w h => h) plan _ a _ (by rw [hlen]; exact hok) (h β a _ hr' (hr'.held hP hB hM hL hps))

/-- Behind one that acts: what is held is so still. -/
theorem Nx.keep {Rs : Res} {Ps : List SP} (hP : pinS H.bnd H.mem = some Ps) (hB : subB H.bnd bnd) (hM : subM H.mem mem) (hL : subR Rs L) (hps : Rs.map (·.2) = H.ps)
    (h : Nx g env mem bnd L (planHead g ops H true plan k)) : Nx g env mem bnd L (AftC g ops H true plan k) := by
  intro β a w hr
  have hw := hr.held hP hB hM hL hps
  exact And.intro (fun _ => hw) (h β a w hr hw)
theorem Nx.late (h : Nx g env mem bnd L (planHead g ops H false plan k)) : Nx g env mem bnd L (AftC g ops H false plan k) :=
  fun β a w hr => And.intro (fun h => by cases h) (h β a w hr)
theorem Nx.planEnd (h : Nx g env mem bnd L (RunC g k)) : Nx g env mem bnd L (planHead g ops H false [] k) := h

/-- A look that reckons an address of a slice's element. -/
theorem Nx.hoIdx (nm : Nat) {α : Type} {enc : α → List Value} {l : List α} {o : Oper} {t e : TypeId} {x i : Operand} {A : Option Addr} {n c : Nat} {kk : IntKind} {iv : Int} {S : SP} {L' : Res} {sz j by_ : Nat} {T : World → Prop}
    (ho : o.op = .indexAddr t x i) (hx : ev env x = some (.c (.v (.slice A n c)))) (hi : ev env i = some (.c (.v (.int kk iv)))) (ht : g.P.underlying t = some (.slice e)) (he : elemI g.P e = some (sz, by_)) (hd : dstOk g.n o.dst = true)
    (hp : takeR nm L = some (S, L')) (henc : ∀ x, (enc x).length = sz) (hs : Sees S A n sz (l.flatMap enc)) (hn : n = l.length) (hj : iv = j) (hlt : j < l.length)
    (hk : ∀ b p, SeesAt S b p (enc l[j]) → Nx g (putE o.dst (.c (.v (.pointer (some ⟨b, p, none⟩)))) env) mem bnd L N) : Nx g env mem bnd L (HoC g T o N) := by
  subst hj
  subst hn
  intro β a w hr
  obtain ⟨ei, zz, hei, hz, hzs, hpos, hez, hby⟩ := elemI_ok he
  obtain ⟨r, h, x1, x2, x3, r1, h1', h2', y1, y2, y3, y4, y5, y6⟩ := hr.picked (takeR_pick hp)
  obtain ⟨b, p, hA, cs, tt, fr, hb, hc⟩ := hs.at (PH.dj_mono x3 y1 y2) y5 hlt
  subst hA
  have hsee : SeesAt S b (p + j * sz) (enc l[j]) := by
    intro r2 h2 d2 s2
    obtain ⟨b', p', hA', cs', tt', fr', hb', hc'⟩ := hs.at d2 s2 hlt
    cases hA'
    exact ⟨cs', tt', fr', hb', fun j' hj' => by rw [henc] at hj'; rw [hc' j' hj']; exact flat_at henc l j hlt j' hj'⟩
  refine ⟨.pointer (some ⟨b, p + j * sz, none⟩), fun w' _ => ?_, hk b _ hsee β _ w (hr.put o.dst (.c (.v (.pointer (some ⟨b, p + j * sz, none⟩)))) hd)⟩
  have e1 : a.eval x = .slice (some ⟨b, p, none⟩) l.length c := hr.ev hx
  have e2 : a.eval i = .int kk j := hr.ev hi
  have e3 : (j : Int) < l.length := by omega
  simp [execOp, ho, e1, e2, Instr.indexAt, asIntOf, run_underlying ht, sizeOf, typeInfo, hei, hez, add_plain']
  intro hbad
  omega

theorem heldW.sees {b p : Nat} {S : SP} {ys : List Value} (hP : ∃ Ps, pinS H.bnd H.mem = some Ps) (hS : S ∈ H.ps) (hs : SeesAt S b p ys) (hw : heldW H w) : ∃ cs' t' fr', w.heap[b]? = some (.cells cs' t' fr') ∧ ∀ j, j < ys.length → cs'[p + j]? = ys[j]? := by
  obtain ⟨Ps, hP⟩ := hP
  have h1 := (hw Ps hP).app_right
  obtain ⟨l1, l2, hl⟩ := List.append_of_mem hS
  rw [hl] at h1
  obtain ⟨r, h, x1, x2, x3, r1, h1', h2', y1, y2, y3, y4, y5, y6⟩ := h1.perm List.perm_middle
  obtain ⟨cs', t', fr', q1, q2⟩ := hs r1 h1' (PH.dj_mono x3 y1 y2) y5
  exact ⟨cs', t', fr', (PH.un_le (PH.le_trans y1 x1) (PH.le_trans y2 x2)) _ _ q1, q2⟩

/-- A load of what is held. -/
theorem Nx.hoLoad {o : Oper} {t : TypeId} {x : Operand} {b p : Nat} {S : SP} {ys : List Value} {cs : List Ce} {Ps : List SP}
    (ho : o.op = .load t x) (hx : ev env x = some (.c (.v (.pointer (some ⟨b, p, none⟩))))) (hd : dstOk g.n o.dst = true) (hP : pinS H.bnd H.mem = some Ps) (hS : S ∈ H.ps) (hs : SeesAt S b p ys)
    (ht : aggOf g.P t = .many ys.length) (hy : valsO ys = some cs) (hk : Nx g (putE o.dst (.agg cs) env) mem bnd L N) : Nx g env mem bnd L (HoC g (heldW H) o N) := by
  intro β a w hr
  rw [valsO_eq] at hy
  cases hy
  refine ⟨(SV.agg (ys.map .v)).den β, fun w' hw' => ?_, hk β _ w (hr.put o.dst (.agg (ys.map .v)) hd)⟩
  obtain ⟨cs', t', fr', q1, q2⟩ := heldW.sees ⟨Ps, hP⟩ hS hs hw'
  obtain ⟨g1, g2⟩ := aggOf_many ht w'
  have hl : (loadCells ⟨b, p, none⟩ ys.length).run g.P w' = .ok ys.toArray w' := run_loadCells_list (P := g.P) w' ⟨b, p, none⟩ ys (fun j v hv => by
    rw [add_plain', cell_of_row w' _ _ _ _ _ q1]
    have hj : j < ys.length := (List.getElem?_eq_some_iff.1 hv).1
    rw [q2 j hj]; exact hv)
  have e1 : a.eval x = .pointer (some ⟨b, p, none⟩) := hr.ev hx
  have e2 : (Ce.den β ∘ Ce.v) = id := rfl
  simp [execOp, ho, e1, Instr.loadAt, Instr.sureAddr, loadVar, g1, g2, hl, SV.den, e2]
theorem Nx.hoLoad1 {o : Oper} {t : TypeId} {x : Operand} {b p : Nat} {S : SP} {y : Value} {Ps : List SP}
    (ho : o.op = .load t x) (hx : ev env x = some (.c (.v (.pointer (some ⟨b, p, none⟩))))) (hd : dstOk g.n o.dst = true) (hP : pinS H.bnd H.mem = some Ps) (hS : S ∈ H.ps) (hs : SeesAt S b p [y])
    (ht : aggOf g.P t = .one) (hk : Nx g (putE o.dst (.c (.v y)) env) mem bnd L N) : Nx g env mem bnd L (HoC g (heldW H) o N) := by
  intro β a w hr
  refine ⟨y, fun w' hw' => ?_, hk β _ w (hr.put o.dst (.c (.v y)) hd)⟩
  obtain ⟨cs', t', fr', q1, q2⟩ := heldW.sees ⟨Ps, hP⟩ hS hs hw'
  have hc : w'.cell? ⟨b, p, none⟩ = some y := by
    rw [cell_of_row w' _ _ _ _ _ q1]
    simpa using q2 0 (by simp)
  have e1 : a.eval x = .pointer (some ⟨b, p, none⟩) := hr.ev hx
  simp [execOp, ho, e1, Instr.loadAt, Instr.sureAddr, loadVar, aggOf_one ht, hc]
/-- A look at whose value a law tells. -/
theorem Nx.hoVal {o : Oper} {x : SV} {T : World → Prop} (hd : dstOk g.n o.dst = true) (h : ∀ β a w, Rel g β env mem bnd L a w → ∀ w', (execOp a.eval o).run g.P w' = .ok (.value (x.den β)) w')
    (hk : Nx g (putE o.dst x env) mem bnd L N) : Nx g env mem bnd L (HoC g T o N) :=
  fun β a w hr => ⟨_, fun w' _ => h β a w hr w', hk β _ w (hr.put o.dst x hd)⟩
theorem Nx.val {o : Oper} {x : SV} (hd : dstOk g.n o.dst = true) (h : ∀ β a w, Rel g β env mem bnd L a w → ∀ w', (execOp a.eval o).run g.P w' = .ok (.value (x.den β)) w')
    (hk : Nx g (putE o.dst x env) mem bnd L N) : Nx g env mem bnd L (OneC g o N Q) :=
  fun β a w hr => wp_value (h β a w hr w) (hk β _ w (hr.put o.dst x hd))

/-- Ways that meet again behind a region. -/
theorem Nx.joinR {E : Env} {M : Mem} {B : Bnd} {R : Res} {c : Code} (h1 : Nx g E M B R (RunC g k) → Nx g env mem bnd L (RunC g (.code c :: k))) (h2 : Nx g E M B R (RunC g k)) : Nx g env mem bnd L (RunC g (.code c :: k)) := h1 h2

theorem subM.refl : ∀ mem : Mem, subM mem mem
  | [] => .nil _
  | (l, t, cs) :: r => .cons (cs' := cs) (by rw [lookM_cons, if_pos rfl]) rfl (by simp [delM]) (subM.refl r)
theorem Rel.heldN {ns : List Nat} {Ps : List SP} {L' : Res} (hr : Rel g β env mem bnd L a w) (hP : pinS H.bnd H.mem = some Ps) (hB : subB H.bnd bnd) (hM : subM H.mem mem) (hp : pick ns L = some (H.ps, L')) : heldW H w := by
  intro Ps' hP'
  rw [hP] at hP'
  cases hP'
  have h1 := (hr.picked hp).swapHead
  have h2 := hM.sat _ w h1
  rw [pinS_eq (fun l b h => hr.bnd l b (hB.look h)) hP, ← List.append_assoc] at h2
  exact h2.app_left
theorem subB.refl : ∀ bnd : Bnd, (∀ l b, (l, b) ∈ bnd → lookB bnd l = some b) → subB bnd bnd := by
  intro bnd h
  have : ∀ r : Bnd, (∀ l b, (l, b) ∈ r → lookB bnd l = some b) → subB r bnd := by
    intro r
    induction r with
    | nil => exact fun _ => .nil _
    | cons x r ih => exact fun h => .cons (h x.1 x.2 (by simp)) (ih fun l b hm => h l b (by simp [hm]))
  exact this bnd h

/-- The beginning of a drawn region: all blocks of the state are held, and the named assertions. -/
theorem Nx.drawn0 {i : Nat} (ns : List Nat) (plan : List PI) {Ps Qs : List SP} {L' : Res} (hm : g.P.follows .mixedOrders = true) (hsel : Region.noSelect ops = true) (hlen : plan.length = ops.size) (hok : planOk ops (isLate plan) (Array.replicate ops.size false) plan = true)
    (hP : pinS bnd mem = some Ps) (hB : subB bnd bnd) (hp : pick ns L = some (Qs, L'))
    (h : Nx g env mem bnd L (planHead g ops ⟨mem, bnd, Qs⟩ true plan k)) : Nx g env mem bnd L (RunC g (.code (.region i ops true) :: k)) := by
  intro β a w hr
  have hr' : Rel g β env mem bnd L a { w with drawn := w.drawn + 1 } := hr.world rfl rfl rfl rfl
  refine Ret.code (wp_region_any hm (wpX_any _ _ _ _ (S := heldW ⟨mem, bnd, Qs⟩) (late := isLate plan) ?_))
  rw [← hlen]
  exact plan_sound hsel (fun c a w h => h) plan _ a _ (by rw [hlen]; exact hok) (h β a _ hr' (hr'.heldN (H := ⟨mem, bnd, Qs⟩) hP hB (subM.refl _) hp))
theorem Nx.keepN {Ps : List SP} {L' : Res} (ns : List Nat) (hP : pinS H.bnd H.mem = some Ps) (hB : subB H.bnd bnd) (hM : subM H.mem mem) (hp : pick ns L = some (H.ps, L'))
    (h : Nx g env mem bnd L (planHead g ops H true plan k)) : Nx g env mem bnd L (AftC g ops H true plan k) := by
  intro β a w hr
  have hw := hr.heldN hP hB hM hp
  exact And.intro (fun _ => hw) (h β a w hr hw)
end
end Go.Proofs.Ytngfadijcpnblaa
