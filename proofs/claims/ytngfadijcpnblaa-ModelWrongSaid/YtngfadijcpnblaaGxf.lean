/- The evaluator: operations that make or turn memory. -/
import Derived.Test.YtngfadijcpnblaaGxe
import Derived.Laws.MakeOwn
namespace Go.Proofs.Ytngfadijcpnblaa
open Go.RowKit

structure Grow (s s' : GS) : Prop where
  bd : Bd s → Bd s'
  nl : s.nl ≤ s'.nl
  low : s'.low ≤ s.low
  keeps : ∀ b, b ≤ s'.low → b ≤ s.nl → Keeps b s s'
theorem Grow.trans {s s' s'' : GS} (h : Grow s s') (k : Grow s' s'') : Grow s s'' :=
  ⟨fun b => k.bd (h.bd b), Nat.le_trans h.nl k.nl, Nat.le_trans k.low h.low, fun b h1 h2 => (h.keeps b (Nat.le_trans h1 k.low) h2).trans (k.keeps b h1 (Nat.le_trans h2 h.nl))⟩
theorem Grow.refl (s : GS) : Grow s s := ⟨id, Nat.le_refl _, Nat.le_refl _, fun b _ _ => Keeps.refl b s⟩

section
variable {g : Cx} {β : Nat → Nat} {s : GS} {L : Res} {a : Act} {w : World}

theorem RelG.agree {β' : Nat → Nat} (h : RelG g β s L a w) (hb : Bd s) (k : agree s.nl β β') : RelG g β' s L a w :=
  RelG.mk' h.defers h.size (fun t x hx => by rw [SV.den_agree k (hb.env t x hx)]; exact h.env t x hx) h.os h.tape h.output (by rw [memSP_agree k hb.mem, gmSP_agree k hb.gm]; exact h.sat')
theorem RelG.putE {env' : Env} (h : RelG g β s L a w) {d : Option Tmp} {x : SV} (hd : dstOk g.n d = true) (hp : putO d x s.env = some env') : RelG g β { s with env := env' } L (a.put d (x.den β)) w :=
  Rel.putO h hd hp
theorem Grow.env {env' : Env} {d : Option Nat} {x : SV} (hx : Bd s → x.lt s.nl) (hp : putO d x s.env = some env') : Grow s { s with env := env' } :=
  ⟨fun b => ⟨b.env.putO (hx b) hp, b.mem, b.gm⟩, Nat.le_refl _, Nat.le_refl _, fun b _ _ => Keeps.of_eq rfl rfl⟩

/-- A new block, of just these cells. -/
def newL (s : GS) (d : Option Nat) (x : SV) (t : Nat) (cs : List Ce) : Option GS :=
  match putO d x s.env with
  | some env => some ⟨env, (s.nl, t, cs) :: s.mem, s.gm, s.nl + 1, s.low⟩
  | none => none
theorem newL_grow {s' : GS} {d : Option Nat} {x : SV} {t : Nat} {cs : List Ce} (hc : Bd s → ∀ y ∈ cs, y.lt s.nl) (hx : x.lt (s.nl + 1)) (h : newL s d x t cs = some s') : Grow s s' := by
  unfold newL at h
  split at h <;> cases h
  rename_i env he
  refine ⟨fun b => ⟨(b.env.mono (Nat.le_succ _)).putO hx he, ?_, b.gm.mono (Nat.le_succ _)⟩, Nat.le_succ _, Nat.le_refl _, ?_⟩
  · intro e hm
    rcases List.mem_cons.1 hm with rfl | hm
    · exact ⟨Nat.lt_succ_self _, fun y hy => Ce.lt_mono (Nat.le_succ _) (hc b y hy)⟩
    · exact (b.mem.mono (Nat.le_succ _)) e hm
  · intro b _ hb m0 g0 ⟨n1, h1, h2⟩ h3 _ _
    refine ⟨⟨(s.nl, t, cs) :: n1, by rw [h1]; rfl, ?_⟩, h3⟩
    intro e hm
    rcases List.mem_cons.1 hm with rfl | hm
    · exact hb
    · exact h2 e hm
theorem newL_step {s' : GS} {o : Oper} {x : SV} {t : Nat} {cs : List Ce} {v : Value} (hr : RelG g β s L a w) (hb : Bd s) (hd : dstOk g.n o.dst = true) (hc : ∀ y ∈ cs, y.lt s.nl) (h : newL s o.dst x t cs = some s')
    (hrun : (execOp a.eval o).run g.P w = .ok (.value v) (w.alloc (.cells (cellsOf β cs) t))) (hv : x.den (upd β s.nl w.heap.size) = v) :
    ∃ β' a' w', agree s.nl β β' ∧ RelG g β' s' L a' w' ∧ ∀ N Q, N a' w' → o.wp g.P a w N Q := by
  unfold newL at h
  split at h <;> cases h
  rename_i env he
  have hag : agree s.nl β (upd β s.nl w.heap.size) := fun l hl => upd_ne (by omega)
  refine ⟨upd β s.nl w.heap.size, a.put o.dst v, w.alloc (.cells (cellsOf β cs) t), hag, ?_, fun N Q hn => wp_value hrun hn⟩
  have h1 : RelG g (upd β s.nl w.heap.size) { s with mem := (s.nl, t, cs) :: s.mem } L a (w.alloc (.cells (cellsOf β cs) t)) := by
    have h0 := hr.agree hb hag
    refine RelG.mk' h0.defers h0.size h0.env h0.os h0.tape h0.output ?_
    have := hr.sat'.alloc (.cells (cellsOf β cs) t)
    have e : memSP (upd β s.nl w.heap.size) ((s.nl, t, cs) :: s.mem) = blk w.heap.size (.cells (cellsOf β cs) t) :: memSP β s.mem := by
      have e1 := memSP_agree hag hb.mem
      simp only [memSP, List.map_cons, cellsOf, upd_self] at e1 ⊢
      rw [e1, dens_agree hag hc]
    rw [e, gmSP_agree hag hb.gm]
    exact this
  have := h1.putE hd he
  rw [hv] at this
  exact this

/-- A new block that may grow. -/
def newG (s : GS) (d : Option Nat) (gm : GMem) (low e n sz : Nat) (cs : List Ce) : Option GS :=
  match putO d (.c (.gro s.nl 0 n 0)) s.env with
  | some env => some ⟨env, s.mem, (s.nl, e, n, sz, cs) :: gm, s.nl + 2, low⟩
  | none => none
theorem newG_step {s' : GS} {o : Oper} {gm : GMem} {low e n sz : Nat} {cs : List Ce} {b c : Nat} {w' : World} (hr : RelG g β s L a w) (hb : Bd s) (hd : dstOk g.n o.dst = true) (hc : ∀ y ∈ cs, y.lt s.nl) (hgm : ltG s.nl gm) (h : newG s o.dst gm low e n sz cs = some s')
    (hrun : (execOp a.eval o).run g.P w = .ok (.value (.slice (some ⟨b, 0, none⟩) n c)) w') (ho : w'.os = w.os ∧ w'.tape = w.tape ∧ w'.output = w.output)
    (hs : SatW (ownS e (some ⟨b, 0, none⟩) n c sz (cs.map (Ce.den β)) :: (memSP β s.mem ++ (gmSP β gm ++ (L.map (·.2) ++ g.F)))) w') :
    ∃ β' a' w', agree s.nl β β' ∧ RelG g β' s' L a' w' ∧ ∀ N Q, N a' w' → o.wp g.P a w N Q := by
  unfold newG at h
  split at h <;> cases h
  rename_i env he
  have hag : agree s.nl β (upd (upd β s.nl b) (s.nl + 1) c) := fun l hl => by rw [upd_ne (by omega), upd_ne (by omega)]
  refine ⟨_, a.put o.dst (.slice (some ⟨b, 0, none⟩) n c), w', hag, ?_, fun N Q hn => wp_value hrun hn⟩
  have h1 : RelG g (upd (upd β s.nl b) (s.nl + 1) c) { s with gm := (s.nl, e, n, sz, cs) :: gm } L a w' := by
    have h0 := hr.agree hb hag
    refine RelG.mk' h0.defers h0.size h0.env (ho.1.trans h0.os) (ho.2.1.trans h0.tape) (ho.2.2.trans h0.output) ?_
    have e1 : gmSP (upd (upd β s.nl b) (s.nl + 1) c) ((s.nl, e, n, sz, cs) :: gm) = ownS e (some ⟨b, 0, none⟩) n c sz (cs.map (Ce.den β)) :: gmSP β gm := by
      have e2 := gmSP_agree hag hgm
      simp only [gmSP, List.map_cons] at e2 ⊢
      rw [e2]
      simp only [grSP, upd_self, upd_ne (show s.nl ≠ s.nl + 1 by omega), dens_agree hag hc]
    show SatW (memSP _ s.mem ++ (gmSP _ ((s.nl, e, n, sz, cs) :: gm) ++ (L.map (·.2) ++ g.F))) w'
    rw [memSP_agree hag hb.mem, e1]
    exact hs.perm List.perm_middle.symm
  have := h1.putE hd he
  simp only [SV.den, Ce.den, upd_self, upd_ne (show s.nl ≠ s.nl + 1 by omega), Nat.sub_zero] at this
  exact this
theorem newG_bd {s' : GS} {d : Option Nat} {gm : GMem} {low e n sz : Nat} {cs : List Ce} (hc : Bd s → ∀ y ∈ cs, y.lt s.nl) (hgm : Bd s → ltG s.nl gm) (h : newG s d gm low e n sz cs = some s') : (Bd s → Bd s') ∧ s.nl ≤ s'.nl ∧ s'.low = low ∧ s'.mem = s.mem ∧ s'.gm = (s.nl, e, n, sz, cs) :: gm := by
  unfold newG at h
  split at h <;> cases h
  rename_i env he
  refine ⟨fun b => ⟨(b.env.mono (by show s.nl ≤ s.nl + 2; omega)).putO (by show s.nl + 1 < s.nl + 2; omega) he, b.mem.mono (by show s.nl ≤ s.nl + 2; omega), ?_⟩, by show s.nl ≤ s.nl + 2; omega, rfl, rfl, rfl⟩
  intro x hm
  rcases List.mem_cons.1 hm with rfl | hm
  · exact ⟨by show s.nl + 1 < s.nl + 2; omega, fun y hy => Ce.lt_mono (by show s.nl ≤ s.nl + 2; omega) (hc b y hy)⟩
  · exact ((hgm b).mono (by show s.nl ≤ s.nl + 2; omega)) x hm
end

def minN (x y : Nat) : Nat :=
  match Nat.ble x y with
  | true => x
  | false => y
theorem minN_le (x y : Nat) : minN x y ≤ x ∧ minN x y ≤ y := by
  unfold minN
  split
  · rename_i h; exact ⟨Nat.le_refl _, by simpa using h⟩
  · rename_i h
    have : ¬ x ≤ y := by rw [← Nat.ble_eq, h]; simp
    exact ⟨by omega, Nat.le_refl _⟩
end Go.Proofs.Ytngfadijcpnblaa
