/- The executor 'sx' of code upon a symbolic state, and that it is sound. -/
import Derived.Test.YtngfadijcpnblaaSxd
namespace Go.Proofs.Ytngfadijcpnblaa
open Go.RowKit

/-! ### Heads: what is still to be done -/
def base (g : Cx) : Frame := { (default : Frame) with fn := g.f, kind := .normal }
def Done (g : Cx) (e : Ending) (w : World) : Prop := ∃ v Q, e = .returned v ∧ g.R v Q ∧ w.os = g.os ∧ w.tape = g.tape ∧ w.output = g.output ∧ SatW (Q ++ g.F) w
def Ret (g : Cx) (k : List Item) (a : Act) (w : World) : Prop :=
  ∀ cs, ∃ e w' fr, Done g e w' ∧ Comes g.P (lone ((base g).at a k) cs w) (lone fr cs w') e ∧ fr.fn = g.f ∧ fr.leaving g.P w' e
def Qn (g : Cx) (k : List Item) : Exit → Act → World → Prop
  | .normal, a, w => Ret g k a w
  | _, _, _ => False
def OneC (g : Cx) (o : Oper) (N : Act → World → Prop) (Q : Exit → Act → World → Prop) : Act → World → Prop := fun a w => o.wp g.P a w N Q

inductive Ctl where
  | run (k : List Item)
  | ops (all : Array Oper) (rest : List Oper) (k : List Item)
/-- What a control stands at. -/
def headC (g : Cx) : Ctl → Act → World → Prop
  | .run k => Ret g k
  | .ops all rest k => wpList g.P all (Qn g k) rest
abbrev RunC (g : Cx) (k : List Item) : Act → World → Prop := headC g (.run k)
abbrev OpsC (g : Cx) (all : Array Oper) (rest : List Oper) (k : List Item) : Act → World → Prop := headC g (.ops all rest k)

/-- One of two ways. -/
def BrM (b : Bool) (X Y : Prop) : Prop :=
  match b with
  | true => X
  | false => Y
theorem BrM.mk {b : Bool} {X Y : Prop} (h1 : b = true → X) (h2 : b = false → Y) : BrM b X Y := by
  cases b
  · exact h2 rfl
  · exact h1 rfl
theorem BrM.dec {p : Prop} {_ : Decidable p} {X Y : Prop} (h1 : p → X) (h2 : ¬ p → Y) : BrM (decide p) X Y :=
  BrM.mk (fun h => h1 (of_decide_eq_true h)) (fun h => h2 (of_decide_eq_false h))
theorem BrM.yes {p : Prop} {_ : Decidable p} {X Y : Prop} (h : p) (x : X) : BrM (decide p) X Y := BrM.dec (fun _ => x) (fun n => absurd h n)
theorem BrM.not {p : Prop} {_ : Decidable p} {X Y : Prop} (h : ¬ p) (y : Y) : BrM (decide p) X Y := BrM.dec (fun n => absurd n h) (fun _ => y)
theorem BrM.t {b : Bool} {X Y : Prop} (h : b = true) (x : X) : BrM b X Y := by subst h; exact x
theorem BrM.f {b : Bool} {X Y : Prop} (h : b = false) (y : Y) : BrM b X Y := by subst h; exact y
theorem BrM.out {b : Bool} {X Y : Prop} (h : BrM b X Y) : (b = true → X) ∧ (b = false → Y) := by
  cases b
  · exact ⟨fun h => by (cases h), fun _ => h⟩
  · exact ⟨fun _ => h, fun h => by (cases h)⟩

def inR : IntKind → Int → Prop
  | .i64, n => -9223372036854775808 ≤ n ∧ n ≤ 9223372036854775807
  | .i32, n => -2147483648 ≤ n ∧ n ≤ 2147483647
  | .i16, n => -32768 ≤ n ∧ n ≤ 32767
  | .i8, n => -128 ≤ n ∧ n ≤ 127
  | .u64, n => 0 ≤ n ∧ n ≤ 18446744073709551615
  | .u32, n => 0 ≤ n ∧ n ≤ 4294967295
  | .u16, n => 0 ≤ n ∧ n ≤ 65535
  | .u8, n => 0 ≤ n ∧ n ≤ 255
theorem inR_wrap {k : IntKind} {n : Int} (h : inR k n) : k.wrap n = n := by
  cases k
  · exact IntWalk.i8_in n h
  · exact IntWalk.i16_in n h
  · exact IntWalk.i32_in n h
  · exact IntWalk.i64_in n h
  · exact IntWalk.u8_in n h
  · exact IntWalk.u16_in n h
  · exact IntWalk.u32_in n h
  · exact IntWalk.u64_in n h
/-- A sum, a difference, a product: does it fit, or is it wrapped? -/
def Ar (k : IntKind) (n : Int) (C : Int → Prop) : Prop := C (k.wrap n)
theorem Ar.ok {k : IntKind} {n : Int} {C : Int → Prop} (h : inR k n) (c : C n) : Ar k n C := by
  unfold Ar; rw [inR_wrap h]; exact c
theorem Ar.i64 {n : Int} {C : Int → Prop} (h1 : -9223372036854775808 ≤ n) (h2 : n ≤ 9223372036854775807) (c : C n) : Ar .i64 n C := Ar.ok (k := .i64) ⟨h1, h2⟩ c
theorem Ar.wr {k : IntKind} {n : Int} {C : Int → Prop} (c : C (k.wrap n)) : Ar k n C := c
theorem Ar.out {k : IntKind} {n : Int} {C : Int → Prop} (h : Ar k n C) : C (k.wrap n) := h

def assume (env : Env) (c : Operand) (b : Bool) : Env :=
  match c with
  | .tmp t => (t, .kb b) :: env
  | _ => env

/-- The same two, what is behind them handed on. -/
def putC (d : Option Tmp) (x : SV) (env : Env) (K : Env → Prop) : Prop :=
  match d with
  | some d => K ((d, x) :: env)
  | none => K env
def assumeC (env : Env) (c : Operand) (b : Bool) (K : Env → Prop) : Prop :=
  match c with
  | .tmp t => K ((t, .kb b) :: env)
  | _ => K env
theorem putC_eq (d : Option Tmp) (x : SV) (env : Env) (K : Env → Prop) : putC d x env K = K (putE d x env) := by cases d <;> rfl
theorem assumeC_eq (env : Env) (c : Operand) (b : Bool) (K : Env → Prop) : assumeC env c b K = K (assume env c b) := by cases c <;> rfl

/-- Does nobody bear a label, and none of some cells? -/
def free (l : Nat) (cs : List Ce) (env : Env) (mem : Mem) (bnd : Bnd) : Bool :=
  match allNo l cs with
  | true => fresh l env mem bnd
  | false => false
/-- A label for a new block: the slot's, or one above it. -/
def label (s : Nat) (cs : List Ce) (env : Env) (mem : Mem) (bnd : Bnd) : Option Nat :=
  match free s cs env mem bnd with
  | true => some s
  | false => match free (s + 1000) cs env mem bnd with
    | true => some (s + 1000)
    | false => match free (s + 2000) cs env mem bnd with
      | true => some (s + 2000)
      | false => none

/-- A label whose block isn't known yet. -/
def unbC (bnd : Bnd) : Ce → Option Nat
  | .v _ => none
  | .loc l _ => match lookB bnd l with
    | some _ => none
    | none => some l
  | .locs l _ _ _ => match lookB bnd l with
    | some _ => none
    | none => some l
  | .ifl _ l _ => match lookB bnd l with
    | some _ => none
    | none => some l
  | .gro _ _ _ _ => none
  | .tl _ _ _ _ _ => none
def unbCs (bnd : Bnd) : List Ce → Option Nat
  | [] => none
  | x :: r => match unbC bnd x with
    | some l => some l
    | none => unbCs bnd r
def unbS (bnd : Bnd) : SV → Option Nat
  | .c x => unbC bnd x
  | .agg cs => unbCs bnd cs
  | .tup _ => none
  | .kb _ => none
  | .tps _ => none
def unbO (env : Env) (bnd : Bnd) : List Operand → Option Nat
  | [] => none
  | x :: r => match ev env x with
    | some s => match unbS bnd s with
      | some l => some l
      | none => unbO env bnd r
    | none => unbO env bnd r

/-- The operands whose blocks must be known by their numbers ahead of an operation. -/
def outs : Op → List Operand
  | .makeInterface _ x => [x]
  | .makeFunc _ first cap => first.toList ++ cap.toList
  | .call c => match c.callee with
    | .value _ => c.args.toList
    | .invoke r _ => r :: c.args.toList
    | .builtin _ => []
  | _ => []

def allPlain : List Ce → Bool
  | [] => true
  | x :: r => match x.plain with
    | true => allPlain r
    | false => false
def appS : List Ce → List Ce → Option (List Ce)
  | [], r => some r
  | x :: z, r => match appS z r with
    | some q => some (x :: q)
    | none => none
def repS (n : Nat) (z : List Ce) : Option (List Ce) :=
  match n with
  | 0 => some []
  | n + 1 => match repS n z with
    | some r => appS z r
    | none => none
def rowS (P : Program) (env : Env) (e n : Nat) (ps : List (Nat × Operand)) : Option (List Ce) :=
  match P.info? e with
  | none => none
  | some i => match zeroS P e with
    | none => none
    | some z => match Nat.beq z.length i.size with
      | false => none
      | true => match Nat.ble (n * i.size) 16777216 with
        | false => none
        | true => match Nat.blt 0 i.size with
          | false => none
          | true => match repS n z with
            | none => none
            | some r => fillS (fun k => some (k * i.size, i.size)) env r ps

/-- One operation. -/
def opStep (g : Cx) (env : Env) (mem : Mem) (bnd : Bnd) (L : Res) (o : Oper) (S C : Env → Mem → Bnd → Res → Prop) (D : Env → Prop) (R : Env → Bnd → Prop) : Prop :=
  match dstOk g.n o.dst with
  | false => S env mem bnd L
  | true => match pureOp g.P env mem bnd o.op with
    | .val x => putC o.dst x env fun env => C env mem bnd L
    | .cells cs => putC o.dst (.agg cs) env fun env => C env mem bnd L
    | .ar k n => Ar k n fun m => putC o.dst (.c (.v (.int k m))) env D
    | .no => match o.op with
      | .pick c x y => match ev env c with
        | some (.kb true) => match ev env x with
          | some u => putC o.dst u env fun env => C env mem bnd L
          | none => S env mem bnd L
        | some (.kb false) => match ev env y with
          | some v => putC o.dst v env fun env => C env mem bnd L
          | none => S env mem bnd L
        | some (.c (.v (.bool b))) => BrM b (assumeC env c true fun env => R env bnd) (assumeC env c false fun env => R env bnd)
        | _ => S env mem bnd L
      | .alloc t => match zeroS g.P t with
        | some cs => match o.dst with
          | some d => match label d cs env mem bnd with
            | some l => C ((d, .c (.loc l 0)) :: env) ((l, t, cs) :: mem) bnd L
            | none => S env mem bnd L
          | none => S env mem bnd L
        | none => S env mem bnd L
      | .box t x => match ev env x with
        | some s => match cellsS s with
          | some cs => match o.dst with
            | some d => match label d cs env mem bnd with
              | some l => C ((d, .c (.loc l 0)) :: env) ((l, t, cs) :: mem) bnd L
              | none => S env mem bnd L
            | none => S env mem bnd L
          | none => S env mem bnd L
        | none => S env mem bnd L
      | .buildSlice t n ps => match g.P.underlying t with
        | some (.slice e) => match rowS g.P env e n ps.toList with
          | some cs => match o.dst with
            | some d => match label d cs env mem bnd with
              | some l => C ((d, .c (.locs l 0 n n)) :: env) ((l, e, cs) :: mem) bnd L
              | none => S env mem bnd L
            | none => S env mem bnd L
          | none => S env mem bnd L
        | _ => S env mem bnd L
      | .store t x y => match ev env x with
        | some (.c (.loc l off)) => match lookM mem l with
          | some (_, cs) => match ev env y with
            | some s => match cellsS s with
              | some ys => match g.P.info? t with
                | some i => match Nat.beq ys.length i.size with
                  | true => match Nat.ble (off + ys.length) cs.length with
                    | true => match allPlain ys with
                      | true => match fillS.setsO cs off ys with
                        | some zs => match setMo mem l zs with
                          | some mem' => putC o.dst (.c (.v undef)) env fun env => C env mem' bnd L
                          | none => S env mem bnd L
                        | none => S env mem bnd L
                      | false => S env mem bnd L
                    | false => S env mem bnd L
                  | false => S env mem bnd L
                | none => S env mem bnd L
              | none => S env mem bnd L
            | none => S env mem bnd L
          | none => S env mem bnd L
        | _ => S env mem bnd L
      | op => match unbO env bnd (outs op) with
        | some l => ∀ b : Nat, R env ((l, b) :: bnd)
        | none => S env mem bnd L

/-- What an operation's guard says. -/
inductive Gd where
  | yes
  | no
  | br (d : Nat) (b : Bool)
  | st
def guardS (ops : List Oper) (env : Env) (o : Oper) : Gd :=
  match o.guard with
  | none => .yes
  | some (j, want) => match getL ops j with
    | some oj => match oj.dst with
      | some d => match look env d with
        | some (.kb true) => match want with
          | true => .yes
          | false => .no
        | some (.kb false) => match want with
          | true => .no
          | false => .yes
        | some (.c (.v (.bool b))) => .br d b
        | some (.c (.v (.tuple _))) => .no
        | _ => .st
      | none => .st
    | none => .st

/-- So many steps of code. -/
def sx (stop : Bool) : Nat → (g : Cx) → Env → Mem → Bnd → Res → Ctl → Prop
  | 0, g, env, mem, bnd, L, .run k => Nx g env mem bnd L (RunC g k)
  | 0, g, env, mem, bnd, L, .ops all rest k => Nx g env mem bnd L (OpsC g all rest k)
  | n + 1, g, env, mem, bnd, L, .run k => match k with
    | .code .skip :: k => sx stop n g env mem bnd L (.run k)
    | .code (.label _) :: k => sx stop n g env mem bnd L (.run k)
    | .inBlock _ :: k => sx stop n g env mem bnd L (.run k)
    | .inScope _ :: k => sx stop n g env mem bnd L (.run k)
    | .code (.seq x y) :: k => sx stop n g env mem bnd L (.run (.code x :: .code y :: k))
    | .code (.block i x) :: k => sx stop n g env mem bnd L (.run (.code x :: .inBlock i :: k))
    | .code (.scope x) :: k => sx stop n g env mem bnd L (.run (.code x :: .inScope x :: k))
    | .code (.exit i) :: k => match exitTo i k with
      | some k' => sx stop n g env mem bnd L (.run k')
      | none => Nx g env mem bnd L (RunC g (.code (.exit i) :: k))
    | .code (.cond c x y) :: k => match ev env c with
      | some (.kb true) => sx stop n g env mem bnd L (.run (.code x :: k))
      | some (.kb false) => sx stop n g env mem bnd L (.run (.code y :: k))
      | some (.c (.v (.bool b))) => BrM b (assumeC env c true fun env => Nx g env mem bnd L (RunC g (.code (.cond c x y) :: k))) (assumeC env c false fun env => Nx g env mem bnd L (RunC g (.code (.cond c x y) :: k)))
      | _ => Nx g env mem bnd L (RunC g (.code (.cond c x y) :: k))
    | .code (.region i ops false) :: k => sx stop n g env mem bnd L (.ops ops ops.toList k)
    | k => Nx g env mem bnd L (RunC g k)
  | n + 1, g, env, mem, bnd, L, .ops all rest k => match rest with
    | [] => match stop with
      | true => Nx g env mem bnd L (RunC g k)
      | false => sx stop n g env mem bnd L (.run k)
    | o :: rest => match guardS all.toList env o with
      | .yes => opStep g env mem bnd L o (fun env mem bnd L => Nx g env mem bnd L (OneC g o (OpsC g all rest k) (Qn g k))) (fun env mem bnd L => sx stop n g env mem bnd L (.ops all rest k)) (fun env => Nx g env mem bnd L (OpsC g all rest k)) (fun env bnd => Nx g env mem bnd L (OpsC g all (o :: rest) k))
      | .no => match dstOk g.n o.dst with
        | true => putC o.dst (.c (.v undef)) env fun env => sx stop n g env mem bnd L (.ops all rest k)
        | false => Nx g env mem bnd L (OpsC g all (o :: rest) k)
      | .br d b => BrM b (Nx g ((d, .kb true) :: env) mem bnd L (OpsC g all (o :: rest) k)) (Nx g ((d, .kb false) :: env) mem bnd L (OpsC g all (o :: rest) k))
      | .st => Nx g env mem bnd L (OpsC g all (o :: rest) k)
end Go.Proofs.Ytngfadijcpnblaa
