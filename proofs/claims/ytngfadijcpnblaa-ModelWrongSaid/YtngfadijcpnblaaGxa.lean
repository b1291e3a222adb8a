/- The evaluator: bounds of labels, blocks that may grow, the relation to frames and worlds. -/
import Derived.Test.YtngfadijcpnblaaSxo
namespace Go.Proofs.Ytngfadijcpnblaa
open Go.RowKit

/-! ### Bounds of labels -/
def Ce.lt (n : Nat) : Ce → Prop
  | .v _ => True
  | .loc l _ => l < n
  | .locs l _ _ _ => l < n
  | .ifl _ l _ => l < n
  | .gro l _ _ _ => l + 1 < n
  | .tl l _ _ _ _ => l + 1 < n
def SV.lt (n : Nat) : SV → Prop
  | .c x => x.lt n
  | .agg cs => ∀ x ∈ cs, x.lt n
  | .tup _ => True
  | .kb _ => True
  | .tps vs => ∀ p ∈ vs, ∀ x ∈ p.2, x.lt n
def agree (n : Nat) (β β' : Nat → Nat) : Prop := ∀ l, l < n → β' l = β l
theorem agree.refl (n : Nat) (β : Nat → Nat) : agree n β β := fun _ _ => rfl
theorem agree.trans {n m : Nat} {β β' β'' : Nat → Nat} (h : agree n β β') (k : agree m β' β'') (hn : n ≤ m) : agree n β β'' :=
  fun l hl => (k l (Nat.lt_of_lt_of_le hl hn)).trans (h l hl)
theorem Ce.lt_mono {n m : Nat} (h : n ≤ m) {x : Ce} (hx : x.lt n) : x.lt m := by
  cases x <;> simp only [Ce.lt] at hx ⊢ <;> omega
theorem SV.lt_mono {n m : Nat} (h : n ≤ m) {x : SV} (hx : x.lt n) : x.lt m := by
  cases x with
  | c x => exact Ce.lt_mono h hx
  | agg cs => exact fun x hm => Ce.lt_mono h (hx x hm)
  | tup vs => trivial
  | kb b => trivial
  | tps vs => exact fun p hp x hm => Ce.lt_mono h (hx p hp x hm)
theorem Ce.den_agree {n : Nat} {β β' : Nat → Nat} (h : agree n β β') {x : Ce} (hx : x.lt n) : x.den β' = x.den β := by
  cases x with
  | v x => rfl
  | loc l o => simp [Ce.den, h l hx]
  | locs l o n c => simp [Ce.den, h l hx]
  | ifl t l o => simp [Ce.den, h l hx]
  | gro l o n e => simp only [Ce.lt] at hx; simp [Ce.den, h l (by omega), h (l + 1) hx]
  | tl l o n z e => simp only [Ce.lt] at hx; simp [Ce.den, h l (by omega), h (l + 1) hx]
theorem dens_agree {n : Nat} {β β' : Nat → Nat} (h : agree n β β') {cs : List Ce} (hx : ∀ x ∈ cs, x.lt n) : cs.map (Ce.den β') = cs.map (Ce.den β) :=
  List.map_congr_left fun x hm => Ce.den_agree h (hx x hm)
theorem tpDen_agree {n : Nat} {β β' : Nat → Nat} (h : agree n β β') : ∀ {p : Bool × List Ce}, (∀ x ∈ p.2, x.lt n) → tpDen β' p = tpDen β p
  | (true, cs), hx => by simp only [tpDen]; rw [dens_agree h hx]
  | (false, []), _ => rfl
  | (false, [x]), hx => Ce.den_agree h (hx x (by simp))
  | (false, _ :: _ :: _), _ => rfl
theorem SV.den_agree {n : Nat} {β β' : Nat → Nat} (h : agree n β β') {x : SV} (hx : x.lt n) : x.den β' = x.den β := by
  cases x with
  | c x => exact Ce.den_agree h hx
  | agg cs => simp only [SV.den]; rw [dens_agree h hx]
  | tup vs => rfl
  | kb b => rfl
  | tps vs =>
    simp only [SV.den]
    rw [List.map_congr_left fun p hp => tpDen_agree h (hx p hp)]
theorem Ce.lt_no {n l : Nat} (h : n ≤ l) {x : Ce} (hx : x.lt n) : x.no l = true := by
  have hb : ∀ k, k < n → Nat.beq k l = false := fun k hk => by rw [← Bool.not_eq_true, Nat.beq_eq]; omega
  cases x with
  | v x => rfl
  | loc k o => simp [Ce.no, hb k hx]
  | locs k o n c => simp [Ce.no, hb k hx]
  | ifl t k o => simp [Ce.no, hb k hx]
  | gro k o n e =>
    simp only [Ce.lt] at hx
    simp only [Ce.no, hb k (by omega), hb (k + 1) hx]
    rfl
  | tl k o n z e =>
    simp only [Ce.lt] at hx
    simp only [Ce.no, hb k (by omega), hb (k + 1) hx]
    rfl
theorem lts_no {n l : Nat} (h : n ≤ l) : ∀ {cs : List Ce}, (∀ x ∈ cs, x.lt n) → allNo l cs = true
  | [], _ => rfl
  | x :: r, hx => by
    unfold allNo
    rw [Ce.lt_no h (hx x (by simp))]
    exact lts_no h fun y hy => hx y (by simp [hy])
theorem tps_no {n l : Nat} (h : n ≤ l) : ∀ {vs : List (Bool × List Ce)}, (∀ p ∈ vs, ∀ x ∈ p.2, x.lt n) → tpsNo l vs = true
  | [], _ => rfl
  | (b, cs) :: r, hx => by
    unfold tpsNo
    rw [lts_no h (hx (b, cs) (by simp))]
    exact tps_no h fun p hp => hx p (by simp [hp])
theorem SV.lt_no {n l : Nat} (h : n ≤ l) {x : SV} (hx : x.lt n) : x.no l = true := by
  cases x with
  | c x => exact Ce.lt_no h hx
  | agg cs => exact lts_no h hx
  | tup vs => rfl
  | kb b => rfl
  | tps vs => exact tps_no h hx

/-! ### Blocks that may grow -/
/-- A label, the elements' type, how many there are, how many cells each has, the cells. -/
abbrev GMem := List (Nat × Nat × Nat × Nat × List Ce)
def grSP (β : Nat → Nat) (x : Nat × Nat × Nat × Nat × List Ce) : SP :=
  ownS x.2.1 (some ⟨β x.1, 0, none⟩) x.2.2.1 (β (x.1 + 1)) x.2.2.2.1 (x.2.2.2.2.map (Ce.den β))
def gmRes (β : Nat → Nat) (gm : GMem) : Res := gm.map fun x => (x.1, grSP β x)
def gmSP (β : Nat → Nat) (gm : GMem) : List SP := gm.map (grSP β)
theorem gmRes_snd (β : Nat → Nat) (gm : GMem) : (gmRes β gm).map (·.2) = gmSP β gm := by simp [gmRes, gmSP]

def lookG : GMem → Nat → Option (Nat × Nat × Nat × List Ce)
  | [], _ => none
  | (s, x) :: r, k => match Nat.beq s k with
    | true => some x
    | false => lookG r k
def delG : GMem → Nat → Option GMem
  | [], _ => some []
  | (s, x) :: r, k => match Nat.beq s k with
    | true => some r
    | false => match delG r k with
      | some r' => some ((s, x) :: r')
      | none => none
/-- Other cells, at the same place. -/
def setG : GMem → Nat → List Ce → Option GMem
  | [], _, _ => some []
  | (s, e, n, sz, x) :: r, k, cs => match Nat.beq s k with
    | true => some ((s, e, n, sz, cs) :: r)
    | false => match setG r k cs with
      | some r' => some ((s, e, n, sz, x) :: r')
      | none => none

structure GS where
  env : Env
  mem : Mem
  gm : GMem
  nl : Nat
  low : Nat

def RelG (g : Cx) (β : Nat → Nat) (s : GS) (L : Res) (a : Act) (w : World) : Prop := Rel g β s.env s.mem [] (gmRes β s.gm ++ L) a w

def ltE (n : Nat) (env : Env) : Prop := ∀ t x, look env t = some x → x.lt n
def ltM (n : Nat) (mem : Mem) : Prop := ∀ e ∈ mem, e.1 < n ∧ ∀ x ∈ e.2.2, x.lt n
def ltG (n : Nat) (gm : GMem) : Prop := ∀ e ∈ gm, e.1 + 1 < n ∧ ∀ x ∈ e.2.2.2.2, x.lt n
structure Bd (s : GS) : Prop where
  env : ltE s.nl s.env
  mem : ltM s.nl s.mem
  gm : ltG s.nl s.gm

theorem ltE.mono {n m : Nat} (h : n ≤ m) {env : Env} (k : ltE n env) : ltE m env := fun t x hx => SV.lt_mono h (k t x hx)
theorem ltM.mono {n m : Nat} (h : n ≤ m) {mem : Mem} (k : ltM n mem) : ltM m mem := fun e he => ⟨Nat.lt_of_lt_of_le (k e he).1 h, fun x hx => Ce.lt_mono h ((k e he).2 x hx)⟩
theorem ltG.mono {n m : Nat} (h : n ≤ m) {gm : GMem} (k : ltG n gm) : ltG m gm := fun e he => ⟨Nat.lt_of_lt_of_le (k e he).1 h, fun x hx => Ce.lt_mono h ((k e he).2 x hx)⟩

theorem memSP_agree {n : Nat} {β β' : Nat → Nat} (h : agree n β β') {mem : Mem} (k : ltM n mem) : memSP β' mem = memSP β mem := by
  unfold memSP
  refine List.map_congr_left fun e he => ?_
  rw [h _ (k e he).1]
  unfold cellsOf
  rw [dens_agree h (k e he).2]
theorem grSP_agree {n : Nat} {β β' : Nat → Nat} (h : agree n β β') {e : Nat × Nat × Nat × Nat × List Ce} (k : e.1 + 1 < n ∧ ∀ x ∈ e.2.2.2.2, x.lt n) : grSP β' e = grSP β e := by
  unfold grSP
  rw [h _ (by omega), h _ k.1, dens_agree h k.2]
theorem gmSP_agree {n : Nat} {β β' : Nat → Nat} (h : agree n β β') {gm : GMem} (k : ltG n gm) : gmSP β' gm = gmSP β gm :=
  List.map_congr_left fun e he => grSP_agree h (k e he)
theorem gmRes_agree {n : Nat} {β β' : Nat → Nat} (h : agree n β β') {gm : GMem} (k : ltG n gm) : gmRes β' gm = gmRes β gm := by
  unfold gmRes
  exact List.map_congr_left fun e he => by rw [grSP_agree h (k e he)]

theorem lookM_mem : ∀ {mem : Mem} {l : Nat} {x : Nat × List Ce}, lookM mem l = some x → (l, x) ∈ mem
  | [], _, _, h => by cases h
  | (s, y) :: r, l, x, h => by
    rw [lookM_cons] at h
    split at h
    · rename_i e; subst e; cases h; simp
    · exact List.mem_cons_of_mem _ (lookM_mem h)
theorem lookG_cons (s k : Nat) (x : Nat × Nat × Nat × List Ce) (r : GMem) : lookG ((s, x) :: r) k = if s = k then some x else lookG r k := by
  simp only [lookG]
  by_cases e : s = k
  · subst e; simp
  · have : Nat.beq s k = false := by rw [← Bool.not_eq_true, Nat.beq_eq]; exact e
    simp [this, e]
theorem lookG_mem : ∀ {gm : GMem} {l : Nat} {x : Nat × Nat × Nat × List Ce}, lookG gm l = some x → (l, x) ∈ gm
  | [], _, _, h => by cases h
  | (s, y) :: r, l, x, h => by
    rw [lookG_cons] at h
    split at h
    · rename_i e; subst e; cases h; simp
    · exact List.mem_cons_of_mem _ (lookG_mem h)

theorem ltE_fresh {n l : Nat} (h : n ≤ l) : ∀ {env : Env}, (∀ e ∈ env, e.2.lt n) → freshE l env = true
  | [], _ => rfl
  | (s, x) :: r, k => by
    unfold freshE
    rw [SV.lt_no h (k (s, x) (by simp))]
    exact ltE_fresh h fun e he => k e (by simp [he])
theorem ltM_fresh {n l : Nat} (h : n ≤ l) : ∀ {mem : Mem}, ltM n mem → freshM l mem = true
  | [], _ => rfl
  | (s, t, cs) :: r, k => by
    have k1 := k (s, t, cs) (by simp)
    unfold freshM
    have : Nat.beq s l = false := by rw [← Bool.not_eq_true, Nat.beq_eq]; have := k1.1; simp at this; omega
    rw [this, lts_no h k1.2]
    exact ltM_fresh h fun e he => k e (by simp [he])

/-- Only what is looked at counts. -/
theorem Rel.envs {g : Cx} {β : Nat → Nat} {env env' : Env} {mem : Mem} {bnd : Bnd} {L : Res} {a : Act} {w : World} (h : Rel g β env mem bnd L a w) (k : ∀ s x, look env' s = some x → look env s = some x) : Rel g β env' mem bnd L a w :=
  ⟨h.defers, h.size, fun s x hx => h.env s x (k s x hx), h.bnd, h.os, h.tape, h.output, h.sat⟩

/-- A slot gets another value: the row of slots is made anew. -/
def putR : Env → Nat → SV → Option Env
  | [], d, x => some [(d, x)]
  | (s, y) :: r, d, x => match Nat.beq s d with
    | true => some ((d, x) :: r)
    | false => match putR r d x with
      | some r' => some ((s, y) :: r')
      | none => none
theorem putR_look : ∀ {env env' : Env} {d : Nat} {x : SV}, putR env d x = some env' → ∀ s, look env' s = if d = s then some x else look env s
  | [], env', d, x, h, s => by
    simp only [putR, Option.some.injEq] at h
    subst h
    rw [look_cons]
  | (k, y) :: r, env', d, x, h, s => by
    simp only [putR] at h
    split at h
    · rename_i hb
      obtain rfl : k = d := Nat.eq_of_beq_eq_true hb
      cases h
      rw [look_cons, look_cons]
      by_cases e : k = s <;> simp [e]
    · rename_i hb
      have hne : k ≠ d := by intro e; subst e; simp at hb
      split at h
      · rename_i r' hr
        cases h
        rw [look_cons, look_cons, putR_look hr]
        by_cases e : k = s
        · subst e; simp [Ne.symm hne]
        · simp [e]
      · cases h
def putO (d : Option Nat) (x : SV) (env : Env) : Option Env :=
  match d with
  | some d => putR env d x
  | none => some env
theorem putO_look {d : Option Nat} {x : SV} {env env' : Env} (h : putO d x env = some env') (s : Nat) : look env' s = look (putE d x env) s := by
  cases d with
  | none => cases h; rfl
  | some d => rw [putR_look h]; simp [putE, look_cons]
theorem Rel.putO {g : Cx} {β : Nat → Nat} {env env' : Env} {mem : Mem} {bnd : Bnd} {L : Res} {a : Act} {w : World} (h : Rel g β env mem bnd L a w) {d : Option Tmp} {x : SV} (hd : dstOk g.n d = true) (hp : Ytngfadijcpnblaa.putO d x env = some env') : Rel g β env' mem bnd L (a.put d (x.den β)) w :=
  (h.put d x hd).envs fun s y hy => by rw [putO_look hp] at hy; exact hy
theorem ltE.putO {n : Nat} {env env' : Env} {d : Option Nat} {x : SV} (h : ltE n env) (hx : x.lt n) (hp : Ytngfadijcpnblaa.putO d x env = some env') : ltE n env' := by
  intro t y hy
  rw [putO_look hp] at hy
  cases d with
  | none => exact h t y hy
  | some d =>
    simp only [putE, look_cons] at hy
    split at hy
    · cases hy; exact hx
    · exact h t y hy

/-- Memories that have all that a former one had, and new blocks. -/
def Keeps (b : Nat) (s s' : GS) : Prop := ∀ (m0 : Mem) (g0 : GMem), (∃ n1, s.mem = n1 ++ m0 ∧ ∀ e ∈ n1, b ≤ e.1) → (∃ n2, s.gm = n2 ++ g0 ∧ ∀ e ∈ n2, b ≤ e.1) → (∀ e ∈ m0, e.1 < b) → (∀ e ∈ g0, e.1 < b) →
  (∃ n1, s'.mem = n1 ++ m0 ∧ ∀ e ∈ n1, b ≤ e.1) ∧ (∃ n2, s'.gm = n2 ++ g0 ∧ ∀ e ∈ n2, b ≤ e.1)
theorem Keeps.refl (b : Nat) (s : GS) : Keeps b s s := fun _ _ h1 h2 _ _ => ⟨h1, h2⟩
theorem Keeps.trans {b : Nat} {s s' s'' : GS} (h : Keeps b s s') (k : Keeps b s' s'') : Keeps b s s'' := fun m0 g0 h1 h2 h3 h4 => (let ⟨a, c⟩ := h m0 g0 h1 h2 h3 h4; k m0 g0 a c h3 h4)
theorem Keeps.of_eq {b : Nat} {s s' : GS} (h : s'.mem = s.mem) (k : s'.gm = s.gm) : Keeps b s s' := fun _ _ h1 h2 _ _ => ⟨by rw [h]; exact h1, by rw [k]; exact h2⟩
end Go.Proofs.Ytngfadijcpnblaa
