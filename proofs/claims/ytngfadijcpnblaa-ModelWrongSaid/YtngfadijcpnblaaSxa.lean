/- Symbolic values, what a symbolic state says of a frame and a world, and what single operations do to it. -/
import Derived.Test.YtngfadijcpnblaaHeap
namespace Go.Proofs.Ytngfadijcpnblaa
open Go.RowKit

/-- One cell: a value, or an address, or a slice, of a block of the call's own that bears a label. -/
inductive Ce where
  | v (x : Value)
  | loc (l o : Nat)
  | locs (l o n c : Nat)
  /-- An interface that holds such an address. -/
  | ifl (t l o : Nat)
  /-- A slice that reaches to the end of a block that may grow: label l + 1 bears its capacity. -/
  | gro (l o n e : Nat)
  /-- What is left behind the last one of k elements of such a slice: its place hangs on the capacity. -/
  | tl (l o k sz e : Nat)
/-- A value in a slot. -/
inductive SV where
  | c (x : Ce)
  | agg (cs : List Ce)
  | tup (vs : List Value)
  | kb (b : Bool)
  /-- Several results: true: a struct or an array. -/
  | tps (vs : List (Bool × List Ce))

def Ce.den (β : Nat → Nat) : Ce → Value
  | .v x => x
  | .loc l o => .pointer (some ⟨β l, o, none⟩)
  | .locs l o n c => .slice (some ⟨β l, o, none⟩) n c
  | .ifl t l o => .iface t (.pointer (some ⟨β l, o, none⟩))
  | .gro l o n e => .slice (some ⟨β l, o, none⟩) n (β (l + 1) - e)
  | .tl l o k sz e => .slice (some ⟨β l, if β (l + 1) - e = k then o else o + k * sz, none⟩) 0 (β (l + 1) - e - k)
def tpDen (β : Nat → Nat) : Bool × List Ce → Value
  | (true, cs) => .agg (cs.map (Ce.den β)).toArray
  | (false, [x]) => x.den β
  | (false, _) => .tuple #[]
def SV.den (β : Nat → Nat) : SV → Value
  | .c x => x.den β
  | .agg cs => .agg (cs.map (Ce.den β)).toArray
  | .tup vs => .tuple vs.toArray
  | .kb b => .bool b
  | .tps vs => .tuple (vs.map (tpDen β)).toArray

/-- A value as a symbolic one. -/
def ofV : Value → SV
  | .agg a => .agg (a.toList.map .v)
  | .tuple a => .tup a.toList
  | x => .c (.v x)
theorem ofV_den (β : Nat → Nat) (x : Value) : (ofV x).den β = x := by
  have e : (Ce.den β ∘ Ce.v) = id := rfl
  cases x <;> simp [ofV, SV.den, Ce.den, e]

def plain : Value → Bool
  | .agg _ => false
  | .tuple _ => false
  | _ => true
def Ce.plain : Ce → Bool
  | .v x => Ytngfadijcpnblaa.plain x
  | _ => true

abbrev Env := List (Nat × SV)
abbrev Mem := List (Nat × Nat × List Ce)
abbrev Bnd := List (Nat × Nat)
abbrev Res := List (Nat × SP)

def look : Env → Nat → Option SV
  | [], _ => none
  | (s, x) :: r, k => match Nat.beq s k with
    | true => some x
    | false => look r k
def lookM : Mem → Nat → Option (Nat × List Ce)
  | [], _ => none
  | (s, x) :: r, k => match Nat.beq s k with
    | true => some x
    | false => lookM r k
def lookB : Bnd → Nat → Option Nat
  | [], _ => none
  | (s, x) :: r, k => match Nat.beq s k with
    | true => some x
    | false => lookB r k
/-- The block of a label gets other cells. -/
def setM : Mem → Nat → List Ce → Mem
  | [], _, _ => []
  | (s, t, x) :: r, k, cs => match Nat.beq s k with
    | true => (s, t, cs) :: r
    | false => (s, t, x) :: setM r k cs
def setMo : Mem → Nat → List Ce → Option Mem
  | [], _, _ => some []
  | (s, t, x) :: r, k, cs => match Nat.beq s k with
    | true => some ((s, t, cs) :: r)
    | false => match setMo r k cs with
      | some r' => some ((s, t, x) :: r')
      | none => none
theorem setMo_eq : ∀ (m : Mem) (k : Nat) (cs : List Ce), setMo m k cs = some (setM m k cs)
  | [], _, _ => rfl
  | (s, t, x) :: r, k, cs => by
    simp only [setMo, setM, setMo_eq r k cs]
    cases Nat.beq s k <;> rfl
def delM : Mem → Nat → Mem
  | [], _ => []
  | (s, x) :: r, k => match Nat.beq s k with
    | true => r
    | false => (s, x) :: delM r k

def delMo : Mem → Nat → Option Mem
  | [], _ => some []
  | (s, x) :: r, k => match Nat.beq s k with
    | true => some r
    | false => match delMo r k with
      | some r' => some ((s, x) :: r')
      | none => none
theorem delMo_eq : ∀ (m : Mem) (k : Nat), delMo m k = some (delM m k)
  | [], _ => rfl
  | (s, x) :: r, k => by
    simp only [delMo, delM, delMo_eq r k]
    cases Nat.beq s k <;> rfl

def getL {α : Type} : List α → Nat → Option α
  | [], _ => none
  | x :: _, 0 => some x
  | _ :: r, k + 1 => getL r k
theorem getL_eq {α : Type} (l : List α) : ∀ k, getL l k = l[k]? := by
  induction l with
  | nil => intro k; rfl
  | cons x r ih => intro k; cases k <;> simp [getL, ih]
def setL {α : Type} : List α → Nat → α → List α
  | [], _, _ => []
  | _ :: r, 0, y => y :: r
  | x :: r, k + 1, y => x :: setL r k y
theorem setL_eq {α : Type} (l : List α) : ∀ k y, setL l k y = l.set k y := by
  induction l with
  | nil => intro k y; rfl
  | cons x r ih => intro k y; cases k <;> simp [setL, ih]
/-- Some cells, from a place on. -/
def setsL {α : Type} : List α → Nat → List α → List α
  | l, _, [] => l
  | l, k, y :: ys => setsL (setL l k y) (k + 1) ys

/-- Where the function is, and what it should come to. -/
structure Cx where
  P : Program
  f : FuncId
  fn : Func
  n : Nat
  R : Value → List SP → Prop
  F : List SP
  os : Os
  tape : Nat → Question → Nat
  output : Array (Nat × ByteArray)

def cellsOf (β : Nat → Nat) (cs : List Ce) : Array Value := (cs.map (Ce.den β)).toArray
def memSP (β : Nat → Nat) (m : Mem) : List SP := m.map fun x => blk (β x.1) (.cells (cellsOf β x.2.2) x.2.1 (0, 0))

structure Rel (g : Cx) (β : Nat → Nat) (env : Env) (mem : Mem) (bnd : Bnd) (L : Res) (a : Act) (w : World) : Prop where
  defers : a.defers = []
  size : a.tmps.size = g.n
  env : ∀ s x, look env s = some x → a.tmps[s]? = some (x.den β)
  bnd : ∀ l b, lookB bnd l = some b → β l = b
  os : w.os = g.os
  tape : w.tape = g.tape
  output : w.output = g.output
  sat : SatW (memSP β mem ++ (L.map (·.2) ++ g.F)) w

/-- From each frame and world of which the state holds, N. -/
def Nx (g : Cx) (env : Env) (mem : Mem) (bnd : Bnd) (L : Res) (N : Act → World → Prop) : Prop :=
  ∀ β a w, Rel g β env mem bnd L a w → N a w

/-! ### Operands -/
/-- A known bool as any other one. -/
def nrm : Option SV → Option SV
  | some (.kb b) => some (.c (.v (.bool b)))
  | r => r
def ev (env : Env) : Operand → Option SV
  | .tmp t => look env t
  | .const v => match v with
    | .agg a => some (.agg (a.toList.map .v))
    | .tuple a => some (.tup a.toList)
    | .bool b => some (.kb b)
    | x => some (.c (.v x))
  | .global b => some (.c (.v (.pointer (some ⟨b, 0, none⟩))))
  | .func f => some (.c (.v (.func (.func f) #[] #[])))

section
variable {g : Cx} {β : Nat → Nat} {env : Env} {mem : Mem} {bnd : Bnd} {L : Res} {a : Act} {w : World}

theorem Rel.ev (h : Rel g β env mem bnd L a w) {x : Operand} {s : SV} (he : ev env x = some s) : a.eval x = s.den β := by
  cases x with
  | tmp t =>
    have := h.env t s he
    simp [Act.eval, Array.getD_eq_getD_getElem?, this]
  | const v =>
    by_cases hb : ∃ b, v = .bool b
    · obtain ⟨b, rfl⟩ := hb
      simp only [Ytngfadijcpnblaa.ev, Option.some.injEq] at he; subst he; rfl
    · have : Ytngfadijcpnblaa.ev env (.const v) = some (ofV v) := by
        cases v <;> first | rfl | exact absurd ⟨_, rfl⟩ hb
      rw [this] at he
      simp only [Option.some.injEq] at he; subst he; exact (ofV_den β v).symm
  | global b => simp only [Ytngfadijcpnblaa.ev, Option.some.injEq] at he; subst he; rfl
  | func f => simp only [Ytngfadijcpnblaa.ev, Option.some.injEq] at he; subst he; rfl

theorem Rel.evn (h : Rel g β env mem bnd L a w) {x : Operand} {s : SV} (he : nrm (Ytngfadijcpnblaa.ev env x) = some s) : a.eval x = s.den β := by
  cases hx : Ytngfadijcpnblaa.ev env x with
  | none => rw [hx] at he; cases he
  | some y =>
    rw [hx] at he
    have := h.ev hx
    cases y <;> (simp only [nrm, Option.some.injEq] at he; subst he; exact this)

theorem look_cons (s k : Nat) (x : SV) (r : Env) : look ((s, x) :: r) k = if s = k then some x else look r k := by
  simp only [look]
  by_cases e : s = k
  · subst e; simp
  · have : Nat.beq s k = false := by rw [← Bool.not_eq_true, Nat.beq_eq]; exact e
    simp [this, e]
theorem lookM_cons (s k : Nat) (x : Nat × List Ce) (r : Mem) : lookM ((s, x) :: r) k = if s = k then some x else lookM r k := by
  simp only [lookM]
  by_cases e : s = k
  · subst e; simp
  · have : Nat.beq s k = false := by rw [← Bool.not_eq_true, Nat.beq_eq]; exact e
    simp [this, e]
theorem lookB_cons (s k : Nat) (x : Nat) (r : Bnd) : lookB ((s, x) :: r) k = if s = k then some x else lookB r k := by
  simp only [lookB]
  by_cases e : s = k
  · subst e; simp
  · have : Nat.beq s k = false := by rw [← Bool.not_eq_true, Nat.beq_eq]; exact e
    simp [this, e]

def putE (d : Option Tmp) (x : SV) (env : Env) : Env :=
  match d with
  | some d => (d, x) :: env
  | none => env
/-- The slot that is written is one of the frame's. -/
def dstOk (n : Nat) : Option Tmp → Bool
  | some d => Nat.blt d n
  | none => true

theorem Rel.put (h : Rel g β env mem bnd L a w) (d : Option Tmp) (x : SV) (hd : dstOk g.n d = true) : Rel g β (putE d x env) mem bnd L (a.put d (x.den β)) w := by
  cases d with
  | none => exact h
  | some d =>
    have hd' : d < g.n := by simpa [dstOk, Nat.blt_eq] using hd
    refine ⟨h.defers, by simp [Act.put, h.size], ?_, h.bnd, h.os, h.tape, h.output, h.sat⟩
    intro s y hy
    simp only [putE, look_cons] at hy
    by_cases e : d = s
    · subst e
      simp at hy
      subst hy
      simp [Act.put, h.size, hd']
    · rw [if_neg e] at hy
      simp only [Act.put, Array.getElem?_setIfInBounds_ne e]
      exact h.env s y hy

theorem Rel.world {w' : World} (h : Rel g β env mem bnd L a w) (e : w'.heap = w.heap) (e1 : w'.os = w.os) (e2 : w'.tape = w.tape) (e3 : w'.output = w.output) : Rel g β env mem bnd L a w' :=
  ⟨h.defers, h.size, h.env, h.bnd, e1.trans h.os, e2.trans h.tape, e3.trans h.output, h.sat.heap e⟩
end

/-! ### Perms of a state's assertions -/
theorem lookM_perm {β : Nat → Nat} : ∀ {m : Mem} {l t : Nat} {cs : List Ce}, lookM m l = some (t, cs) →
    (memSP β m).Perm (blk (β l) (.cells (cellsOf β cs) t (0, 0)) :: memSP β (delM m l))
  | [], _, _, _, h => by cases h
  | (s, x) :: r, l, t, cs, h => by
    rw [lookM_cons] at h
    by_cases e : s = l
    · subst e
      simp only [if_true, Option.some.injEq] at h
      subst h
      simp [delM, memSP]
    · rw [if_neg e] at h
      have hb : Nat.beq s l = false := by rw [← Bool.not_eq_true, Nat.beq_eq]; exact e
      have ih := lookM_perm (β := β) h
      simp only [delM, hb]
      exact (List.Perm.cons _ ih).trans (List.Perm.swap _ _ _)
theorem setM_perm {β : Nat → Nat} : ∀ {m : Mem} {l t : Nat} {cs : List Ce} (cs' : List Ce), lookM m l = some (t, cs) →
    (memSP β (setM m l cs')).Perm (blk (β l) (.cells (cellsOf β cs') t (0, 0)) :: memSP β (delM m l))
  | [], _, _, _, _, h => by cases h
  | (s, t', x) :: r, l, t, cs, cs', h => by
    rw [lookM_cons] at h
    by_cases e : s = l
    · subst e
      simp only [if_true, Option.some.injEq] at h
      cases h
      simp [delM, setM, memSP]
    · rw [if_neg e] at h
      have hb : Nat.beq s l = false := by rw [← Bool.not_eq_true, Nat.beq_eq]; exact e
      have ih := setM_perm (β := β) cs' h
      simp only [delM, setM, hb]
      exact (List.Perm.cons _ ih).trans (List.Perm.swap _ _ _)

section
variable {g : Cx} {β : Nat → Nat} {env : Env} {mem : Mem} {bnd : Bnd} {L : Res} {a : Act} {w : World}
theorem Rel.block (h : Rel g β env mem bnd L a w) {l t : Nat} {cs : List Ce} (hl : lookM mem l = some (t, cs)) : w.heap[β l]? = some (.cells (cellsOf β cs) t (0, 0)) :=
  (h.sat.perm ((lookM_perm hl).append_right _)).get

theorem size_cellsOf (β : Nat → Nat) (cs : List Ce) : (cellsOf β cs).size = cs.length := by simp [cellsOf]
theorem getElem?_cellsOf (β : Nat → Nat) (cs : List Ce) (j : Nat) : (cellsOf β cs)[j]? = (cs[j]?).map (Ce.den β) := by simp [cellsOf]
theorem Rel.cell (h : Rel g β env mem bnd L a w) {l t : Nat} {cs : List Ce} (hl : lookM mem l = some (t, cs)) (o : Nat) : w.cell? ⟨β l, o, none⟩ = (cs[o]?).map (Ce.den β) := by
  rw [cell_of_row w _ _ _ _ _ (h.block hl), getElem?_cellsOf]

/-- A block gets other cells. -/
theorem Rel.setBlock (h : Rel g β env mem bnd L a w) {l t : Nat} {cs cs' : List Ce} (hl : lookM mem l = some (t, cs)) {w' : World} (e1 : w'.os = w.os) (e2 : w'.tape = w.tape) (e3 : w'.output = w.output)
    (hs : ∀ n, n ≠ β l → w'.heap[n]? = w.heap[n]?) (hb : w'.heap[β l]? = some (.cells (cellsOf β cs') t (0, 0))) : Rel g β env (setM mem l cs') bnd L a w' :=
  ⟨h.defers, h.size, h.env, h.bnd, e1.trans h.os, e2.trans h.tape, e3.trans h.output,
    (SatW.set (h.sat.perm ((lookM_perm hl).append_right _)) hs hb).perm ((setM_perm cs' hl).append_right _).symm⟩

/-! ### Labels that nobody bears -/
def Ce.no (l : Nat) : Ce → Bool
  | .v _ => true
  | .loc k _ => !Nat.beq k l
  | .locs k _ _ _ => !Nat.beq k l
  | .ifl _ k _ => !Nat.beq k l
  | .gro k _ _ _ => match Nat.beq k l with
    | true => false
    | false => !Nat.beq (k + 1) l
  | .tl k _ _ _ _ => match Nat.beq k l with
    | true => false
    | false => !Nat.beq (k + 1) l
def allNo (l : Nat) : List Ce → Bool
  | [] => true
  | x :: r => match x.no l with
    | true => allNo l r
    | false => false
def tpsNo (l : Nat) : List (Bool × List Ce) → Bool
  | [] => true
  | (_, cs) :: r => match allNo l cs with
    | true => tpsNo l r
    | false => false
def SV.no (l : Nat) : SV → Bool
  | .c x => x.no l
  | .agg cs => allNo l cs
  | .tup _ => true
  | .kb _ => true
  | .tps vs => tpsNo l vs
def freshE (l : Nat) : Env → Bool
  | [] => true
  | (_, x) :: r => match x.no l with
    | true => freshE l r
    | false => false
def freshM (l : Nat) : Mem → Bool
  | [] => true
  | (s, _, cs) :: r => match Nat.beq s l with
    | true => false
    | false => match allNo l cs with
      | true => freshM l r
      | false => false
def freshB (l : Nat) : Bnd → Bool
  | [] => true
  | (s, _) :: r => match Nat.beq s l with
    | true => false
    | false => freshB l r
def fresh (l : Nat) (env : Env) (mem : Mem) (bnd : Bnd) : Bool :=
  match freshE l env with
  | true => match freshM l mem with
    | true => freshB l bnd
    | false => false
  | false => false

def upd (β : Nat → Nat) (l b : Nat) : Nat → Nat := fun k => if k = l then b else β k
theorem upd_self (β : Nat → Nat) (l b : Nat) : upd β l b l = b := by simp [upd]
theorem upd_ne {β : Nat → Nat} {l b k : Nat} (h : k ≠ l) : upd β l b k = β k := by simp [upd, h]

theorem Ce.den_upd {x : Ce} {β : Nat → Nat} {l b : Nat} (h : x.no l = true) : x.den (upd β l b) = x.den β := by
  cases x with
  | v x => rfl
  | loc k o =>
    have : k ≠ l := by intro e; subst e; simp [Ce.no] at h
    simp [Ce.den, upd_ne this]
  | locs k o n c =>
    have : k ≠ l := by intro e; subst e; simp [Ce.no] at h
    simp [Ce.den, upd_ne this]
  | ifl t k o =>
    have : k ≠ l := by intro e; subst e; simp [Ce.no] at h
    simp [Ce.den, upd_ne this]
  | gro k o n c =>
    have h1 : k ≠ l := by intro e; subst e; simp [Ce.no] at h
    have h2 : k + 1 ≠ l := by
      intro e
      have hb : Nat.beq k l = false := by rw [← Bool.not_eq_true, Nat.beq_eq]; exact h1
      simp [Ce.no, hb] at h
      rw [← Bool.not_eq_true, Nat.beq_eq] at h
      exact h e
    simp [Ce.den, upd_ne h1, upd_ne h2]
  | tl k o n z c =>
    have h1 : k ≠ l := by intro e; subst e; simp [Ce.no] at h
    have h2 : k + 1 ≠ l := by
      intro e
      have hb : Nat.beq k l = false := by rw [← Bool.not_eq_true, Nat.beq_eq]; exact h1
      simp [Ce.no, hb] at h
      rw [← Bool.not_eq_true, Nat.beq_eq] at h
      exact h e
    simp [Ce.den, upd_ne h1, upd_ne h2]
theorem allNo_mem {l : Nat} : ∀ {cs : List Ce}, allNo l cs = true → ∀ x ∈ cs, x.no l = true
  | [], _, x, hx => by cases hx
  | y :: r, h, x, hx => by
    unfold allNo at h
    cases hy : y.no l with
    | false => rw [hy] at h; cases h
    | true =>
      rw [hy] at h
      cases hx with
      | head => exact hy
      | tail _ hm => exact allNo_mem h x hm
theorem map_den_upd {cs : List Ce} {β : Nat → Nat} {l b : Nat} (h : allNo l cs = true) : cs.map (Ce.den (upd β l b)) = cs.map (Ce.den β) :=
  List.map_congr_left fun x hx => Ce.den_upd (allNo_mem h x hx)
theorem tps_den_upd {β : Nat → Nat} {l b : Nat} : ∀ {vs : List (Bool × List Ce)}, tpsNo l vs = true → vs.map (tpDen (upd β l b)) = vs.map (tpDen β)
  | [], _ => rfl
  | (c, cs) :: r, h => by
    unfold tpsNo at h
    cases hc : allNo l cs with
    | false => rw [hc] at h; cases h
    | true =>
      rw [hc] at h
      rw [List.map_cons, List.map_cons, tps_den_upd h]
      congr 1
      cases c with
      | true => simp only [tpDen]; rw [map_den_upd hc]
      | false =>
        match cs, hc with
        | [], _ => rfl
        | [x], hc => exact Ce.den_upd (allNo_mem hc x (by simp))
        | _ :: _ :: _, _ => rfl
theorem SV.den_upd {x : SV} {β : Nat → Nat} {l b : Nat} (h : x.no l = true) : x.den (upd β l b) = x.den β := by
  cases x with
  | c x => exact Ce.den_upd h
  | agg cs => simp only [SV.den]; rw [map_den_upd h]
  | tup vs => rfl
  | kb b => rfl
  | tps vs => simp only [SV.den]; rw [tps_den_upd h]
theorem freshE_look {l : Nat} : ∀ {env : Env}, freshE l env = true → ∀ s x, look env s = some x → x.no l = true
  | [], _, s, x, hx => by cases hx
  | (k, y) :: r, h, s, x, hx => by
    unfold freshE at h
    cases hy : y.no l with
    | false => rw [hy] at h; cases h
    | true =>
      rw [hy] at h
      rw [look_cons] at hx
      split at hx
      · cases hx; exact hy
      · exact freshE_look h s x hx
theorem freshB_look {l : Nat} : ∀ {bnd : Bnd}, freshB l bnd = true → ∀ s x, lookB bnd s = some x → s ≠ l
  | [], _, s, x, hx => by cases hx
  | (k, y) :: r, h, s, x, hx => by
    unfold freshB at h
    cases hy : Nat.beq k l with
    | true => rw [hy] at h; cases h
    | false =>
      rw [hy] at h
      rw [lookB_cons] at hx
      split at hx
      · rename_i e
        subst e
        intro e2
        subst e2
        simp at hy
      · exact freshB_look h s x hx
theorem freshM_mem {β : Nat → Nat} {l b : Nat} : ∀ {mem : Mem}, freshM l mem = true → memSP (upd β l b) mem = memSP β mem
  | [], _ => rfl
  | (s, t, cs) :: r, h => by
    unfold freshM at h
    cases hy : Nat.beq s l with
    | true => rw [hy] at h; cases h
    | false =>
      rw [hy] at h
      cases hc : allNo l cs with
      | false => rw [hc] at h; cases h
      | true =>
        rw [hc] at h
        have hs : s ≠ l := by intro e; subst e; simp at hy
        have ih := freshM_mem (β := β) (b := b) h
        simp only [memSP, List.map_cons] at ih ⊢
        rw [ih, upd_ne hs]
        simp only [cellsOf]
        rw [map_den_upd hc]

theorem fresh_parts {l : Nat} (h : fresh l env mem bnd = true) : freshE l env = true ∧ freshM l mem = true ∧ freshB l bnd = true := by
  unfold fresh at h
  cases h1 : freshE l env with
  | false => rw [h1] at h; cases h
  | true =>
    rw [h1] at h
    cases h2 : freshM l mem with
    | false => rw [h2] at h; cases h
    | true => rw [h2] at h; exact ⟨rfl, rfl, h⟩

/-- A new block bears a label that nobody bears. -/
theorem Rel.alloc (h : Rel g β env mem bnd L a w) {l : Nat} (hf : fresh l env mem bnd = true) (t : Nat) (cs : List Ce) (hc : allNo l cs = true) :
    Rel g (upd β l w.heap.size) env ((l, t, cs) :: mem) bnd L a (w.alloc (.cells (cellsOf β cs) t)) := by
  obtain ⟨h1, h2, h3⟩ := fresh_parts hf
  refine ⟨h.defers, h.size, ?_, ?_, h.os, h.tape, h.output, ?_⟩
  · intro s x hx
    rw [SV.den_upd (freshE_look h1 s x hx)]
    exact h.env s x hx
  · intro k b hk
    rw [upd_ne (freshB_look h3 k b hk)]
    exact h.bnd k b hk
  · have := h.sat.alloc (.cells (cellsOf β cs) t)
    have e1 : memSP (upd β l w.heap.size) ((l, t, cs) :: mem) = blk w.heap.size (.cells (cellsOf β cs) t) :: memSP β mem := by
      have := freshM_mem (β := β) (b := w.heap.size) h2
      simp only [memSP, List.map_cons, cellsOf] at this ⊢
      rw [this, upd_self, map_den_upd hc]
    rw [e1]
    exact this
end
end Go.Proofs.Ytngfadijcpnblaa
