/- Single operations upon a symbolic state: those that leave memory as it is. -/
import Derived.Test.YtngfadijcpnblaaSxa
namespace Go.Proofs.Ytngfadijcpnblaa
open Go.RowKit

/-- What an operation leaves: a value; a struct or array of cells; an integer that may have to be wrapped; it isn't known. -/
inductive Out where
  | val (x : SV)
  | cells (cs : List Ce)
  | ar (k : IntKind) (n : Int)
  | no

/-- So many of a list, from a place on. -/
def cutL {α : Type} : List α → Nat → Nat → Option (List α)
  | _, 0, 0 => some []
  | [], 0, _ + 1 => none
  | x :: r, 0, n + 1 => match cutL r 0 n with
    | some ys => some (x :: ys)
    | none => none
  | [], _ + 1, _ => none
  | _ :: r, k + 1, n => cutL r k n

theorem cutL_zero {α : Type} : ∀ (l : List α) (n : Nat) (ys : List α), cutL l 0 n = some ys → ys.length = n ∧ ∀ j, j < n → l[j]? = ys[j]?
  | l, 0, ys, h => by
    cases l <;> (simp only [cutL, Option.some.injEq] at h; subst h; exact ⟨rfl, fun j hj => absurd hj (by omega)⟩)
  | [], n + 1, ys, h => by simp [cutL] at h
  | x :: r, n + 1, ys, h => by
    simp only [cutL] at h
    cases hr : cutL r 0 n with
    | none => rw [hr] at h; cases h
    | some zs =>
      rw [hr] at h
      cases h
      obtain ⟨h1, h2⟩ := cutL_zero r n zs hr
      refine ⟨by simp [h1], fun j hj => ?_⟩
      cases j with
      | zero => rfl
      | succ j => simpa using h2 j (by omega)
theorem cutL_spec {α : Type} : ∀ (l : List α) (o n : Nat) (ys : List α), cutL l o n = some ys → ys.length = n ∧ ∀ j, j < n → l[o + j]? = ys[j]?
  | l, 0, n, ys, h => by simpa using cutL_zero l n ys h
  | [], o + 1, n, ys, h => by simp [cutL] at h
  | x :: r, o + 1, n, ys, h => by
    simp only [cutL] at h
    obtain ⟨h1, h2⟩ := cutL_spec r o n ys h
    refine ⟨h1, fun j hj => ?_⟩
    rw [show o + 1 + j = (o + j) + 1 from by omega]
    simpa using h2 j hj

/-- Cells as values, if all are plain values. -/
def valsO : List Value → Option (List Ce)
  | [] => some []
  | x :: r => match valsO r with
    | some ys => some (.v x :: ys)
    | none => none
theorem valsO_eq : ∀ l : List Value, valsO l = some (l.map .v)
  | [] => rfl
  | x :: r => by simp [valsO, valsO_eq r]

/-- Is a type's value many cells: how many? -/
inductive Agg where
  | one
  | many (n : Nat)
  | no
def aggOf (P : Program) (t : TypeId) : Agg :=
  match P.underlying t with
  | some (.struct _) | some (.array _ _) => match P.info? t with
    | some i => .many i.size
    | none => .no
  | some _ => .one
  | none => .no

theorem run_isAgg_of {P : Program} {t : TypeId} {d : TypeDesc} (hd : P.underlying t = some d) (w : World) : (isAgg t).run P w = .ok (match d with | .struct _ => true | .array _ _ => true | _ => false) w := by
  unfold isAgg
  rw [Sem.run_bind, run_underlying hd]
  cases d <;> rfl
theorem aggOf_one {P : Program} {t : TypeId} (h : aggOf P t = .one) (w : World) : (isAgg t).run P w = .ok false w := by
  unfold aggOf at h
  cases hd : P.underlying t with
  | none => simp [hd] at h
  | some d =>
    rw [run_isAgg_of hd]
    cases d <;> simp [hd] at h ⊢
    all_goals (cases hi : P.info? t <;> simp [hi] at h)
theorem aggOf_many {P : Program} {t : TypeId} {n : Nat} (h : aggOf P t = .many n) (w : World) : (isAgg t).run P w = .ok true w ∧ (sizeOf t).run P w = .ok n w := by
  unfold aggOf at h
  cases hd : P.underlying t with
  | none => simp [hd] at h
  | some d =>
    rw [run_isAgg_of hd]
    cases d <;> simp [hd] at h ⊢
    all_goals
      cases hi : P.info? t with
      | none => simp [hi] at h
      | some i => simp [hi] at h; simp [sizeOf, typeInfo, hi, h]

/-- The cells of a value that is laid in memory. -/
def cellsS : SV → Option (List Ce)
  | .c x => match x.plain with
    | true => some [x]
    | false => none
  | .agg cs => some cs
  | .tup _ => none
  | .kb b => some [.v (.bool b)]
  | .tps _ => none
theorem cellsS_den {s : SV} {cs : List Ce} (h : cellsS s = some cs) (β : Nat → Nat) : (s.den β).cells = cellsOf β cs := by
  cases s with
  | agg x => simp only [cellsS, Option.some.injEq] at h; subst h; rfl
  | tup x => simp [cellsS] at h
  | kb b => simp only [cellsS, Option.some.injEq] at h; subst h; rfl
  | tps x => simp [cellsS] at h
  | c x =>
    simp only [cellsS] at h
    cases hp : x.plain with
    | false => rw [hp] at h; cases h
    | true =>
      rw [hp] at h
      simp only [Option.some.injEq] at h
      subst h
      cases x with
      | v y => cases y <;> first | rfl | (simp [Ce.plain, plain] at hp)
      | loc l o => rfl
      | locs l o n c => rfl
      | ifl t l o => rfl
      | gro l o n e => rfl
      | tl l o n z e => rfl

def kEq : IntKind → IntKind → Bool
  | .i8, .i8 | .i16, .i16 | .i32, .i32 | .i64, .i64 | .u8, .u8 | .u16, .u16 | .u32, .u32 | .u64, .u64 => true
  | _, _ => false
theorem kEq_eq {a b : IntKind} (h : kEq a b = true) : a = b := by cases a <;> cases b <;> first | rfl | (simp [kEq] at h)

def isConstO : Operand → Bool
  | .const _ => true
  | _ => false

/-- An operation on two values that are one cell each; c: one of them is written out. -/
def binV (P : Program) (op : BinOp) (t : TypeId) (c : Bool) : Value → Value → Out
  | .int k a, .int k' b => match kEq k k' with
    | false => .no
    | true => match op with
      | .add => .ar k (a + b)
      | .sub => .ar k (a - b)
      | .mul => .ar k (a * b)
      | .eql => .val (.c (.v (.bool (decide (a = b)))))
      | .neq => .val (.c (.v (.bool (decide (a ≠ b)))))
      | .lss => .val (.c (.v (.bool (decide (a < b)))))
      | .leq => .val (.c (.v (.bool (decide (a ≤ b)))))
      | .gtr => .val (.c (.v (.bool (decide (b < a)))))
      | .geq => .val (.c (.v (.bool (decide (b ≤ a)))))
      | _ => .no
  | .string a, .string b => match op with
    | .eql => .val (.c (.v (.bool (decide (a.toList = b.toList)))))
    | .neq => .val (.c (.v (.bool (decide (a.toList ≠ b.toList)))))
    | _ => .no
  | .bool a, .bool b => match P.underlying t with
    | some .bool => match op with
      | .eql => .val (.c (.v (.bool (a == b))))
      | .neq => .val (.c (.v (.bool (!(a == b)))))
      | _ => .no
    | _ => .no
  | .pointer p, .pointer none => match P.underlying t with
    | some (.pointer _) => match op, p with
      | .eql, none => .val (.c (.v (.bool true)))
      | .eql, some _ => .val (.c (.v (.bool false)))
      | .neq, none => .val (.c (.v (.bool false)))
      | .neq, some _ => .val (.c (.v (.bool true)))
      | _, _ => .no
    | _ => .no
  | .slice p _ _, .slice none _ _ => match P.underlying t with
    | some (.slice _) => match op, p with
      | .eql, none => .val (.c (.v (.bool true)))
      | .eql, some _ => .val (.c (.v (.bool false)))
      | .neq, none => .val (.c (.v (.bool false)))
      | .neq, some _ => .val (.c (.v (.bool true)))
      | _, _ => .no
    | _ => .no
  | .nilIface, .nilIface => match c with
    | false => .no
    | true => match P.underlying t with
      | some (.interface _) => match op with
        | .eql => .val (.c (.v (.bool true)))
        | .neq => .val (.c (.v (.bool false)))
        | _ => .no
      | _ => .no
  | .iface _ _, .nilIface => match P.underlying t with
    | some (.interface _) => match op with
      | .eql => .val (.c (.v (.bool false)))
      | .neq => .val (.c (.v (.bool true)))
      | _ => .no
    | _ => .no
  | _, _ => .no

/-- What 'Out' says of a run. -/
def OutOk (P : Program) (β : Nat → Nat) (s : Sem Next) (w : World) : Out → Prop
  | .val x => s.run P w = .ok (.value (x.den β)) w
  | .cells cs => s.run P w = .ok (.value ((SV.agg cs).den β)) w
  | .ar k n => s.run P w = .ok (.value (.int k (k.wrap n))) w
  | .no => True

theorem bin_run {P : Program} {op : BinOp} {t : TypeId} {xo yo : Operand} {x y v : Value} {w : World} (hg : eqGuard op t xo yo x y = pure ()) (hb : (binOp op t x y).run P w = .ok v w) :
    (do pure (Next.value (← (do eqGuard op t xo yo x y; binOp op t x y))) : Sem Next).run P w = .ok (.value v) w := by
  simp [hg, hb]
theorem eqGuard_other (op : BinOp) (t : TypeId) (xo yo : Operand) (x y : Value) (h : (match x, y with | .nilIface, .nilIface => isConstO xo || isConstO yo | .agg _, .agg _ => false | _, _ => true) = true) : eqGuard op t xo yo x y = pure () := by
  unfold eqGuard
  cases x <;> cases y <;> first
    | (simp at h; done)
    | (cases op <;> rfl)
    | skip
  cases op <;> cases xo <;> cases yo <;> first | rfl | (simp [isConstO] at h)

theorem equal_ptr {P : Program} {t e : TypeId} (hu : P.underlying t = some (.pointer e)) (p : Option Addr) (w : World) : (Op.equal t (.pointer p) (.pointer none)).run P w = .ok p.isNone w := by
  have h : ∀ d, (Op.equalIn (d + 1) t (.pointer p) (.pointer none)).run P w = .ok p.isNone w := fun d => by
    cases p <;> simp [Op.equalIn, run_underlying hu]
  exact h 9999
theorem equal_slice {P : Program} {t e : TypeId} (hu : P.underlying t = some (.slice e)) (p : Option Addr) (n c n' c' : Nat) (w : World) : (Op.equal t (.slice p n c) (.slice none n' c')).run P w = .ok p.isNone w := by
  have h : ∀ d, (Op.equalIn (d + 1) t (.slice p n c) (.slice none n' c')).run P w = .ok p.isNone w := fun d => by
    cases p <;> simp [Op.equalIn, run_underlying hu]
  exact h 9999
theorem equal_iface {P : Program} {t : TypeId} {ms : Array (String × TypeId)} (hu : P.underlying t = some (.interface ms)) (tx : TypeId) (x : Value) (w : World) : (Op.equal t (.iface tx x) .nilIface).run P w = .ok false w := by
  have h : ∀ d, (Op.equalIn (d + 1) t (.iface tx x) .nilIface).run P w = .ok false w := fun d => by
    simp [Op.equalIn, run_underlying hu]
  exact h 9999
theorem equal_nils {P : Program} {t : TypeId} {ms : Array (String × TypeId)} (hu : P.underlying t = some (.interface ms)) (w : World) : (Op.equal t .nilIface .nilIface).run P w = .ok true w := by
  have h : ∀ d, (Op.equalIn (d + 1) t .nilIface .nilIface).run P w = .ok true w := fun d => by
    simp [Op.equalIn, run_underlying hu]
  exact h 9999

theorem binV_ok {P : Program} {op : BinOp} {t : TypeId} {xo yo : Operand} {x y : Value} (β : Nat → Nat) (w : World) :
    OutOk P β (do pure (.value (← (do eqGuard op t xo yo x y; binOp op t x y)))) w (binV P op t (isConstO xo || isConstO yo) x y) := by
  cases x <;> cases y <;> try exact trivial
  case bool.bool a b =>
    simp only [binV]
    cases hu : P.underlying t with
    | none => exact trivial
    | some d =>
      cases d <;> try exact trivial
      cases op <;> try exact trivial
      · exact bin_run (eqGuard_other _ _ _ _ _ _ rfl) (run_eql_bool w t a b hu)
      · exact bin_run (eqGuard_other _ _ _ _ _ _ rfl) (run_neq_bool w t a b hu)
  case int.int k a k' b =>
    simp only [binV]
    cases hk : kEq k k' with
    | false => exact trivial
    | true =>
      obtain rfl := kEq_eq hk
      cases op <;> try exact trivial
      all_goals
        refine bin_run (eqGuard_other _ _ _ _ _ _ rfl) ?_
        simp [binOp, Op.intArith, Op.intCmp, SV.den, Ce.den]
      · by_cases e : a = b <;> simp [e]
      · by_cases e : a = b <;> simp [e]
  case string.string a b =>
    cases op <;> try exact trivial
    all_goals
      refine bin_run (eqGuard_other _ _ _ _ _ _ rfl) ?_
      simp [binOp, Op.stringOp, SV.den, Ce.den]
    · by_cases e : a.toList = b.toList <;> simp [e]
    · by_cases e : a.toList = b.toList <;> simp [e]
  case pointer.pointer p q =>
    cases q with
    | some q => exact trivial
    | none =>
      simp only [binV]
      cases hu : P.underlying t with
      | none => exact trivial
      | some d =>
        cases d <;> try exact trivial
        cases op <;> cases p <;> try exact trivial
        all_goals
          refine bin_run (eqGuard_other _ _ _ _ _ _ rfl) ?_
          simp [binOp, equal_ptr hu, SV.den, Ce.den]
  case slice.slice p n c q n' c' =>
    cases q with
    | some q => exact trivial
    | none =>
      simp only [binV]
      cases hu : P.underlying t with
      | none => exact trivial
      | some d =>
        cases d <;> try exact trivial
        cases op <;> cases p <;> try exact trivial
        all_goals
          refine bin_run (eqGuard_other _ _ _ _ _ _ rfl) ?_
          simp [binOp, equal_slice hu, SV.den, Ce.den]
  case iface.nilIface tx vx =>
    simp only [binV]
    cases hu : P.underlying t with
    | none => exact trivial
    | some d =>
      cases d <;> try exact trivial
      cases op <;> try exact trivial
      all_goals
        refine bin_run (eqGuard_other _ _ _ _ _ _ rfl) ?_
        simp [binOp, equal_iface hu, SV.den, Ce.den]
  case nilIface.nilIface =>
    simp only [binV]
    cases hc : (isConstO xo || isConstO yo) with
    | false => exact trivial
    | true =>
      cases hu : P.underlying t with
      | none => exact trivial
      | some d =>
        cases d <;> try exact trivial
        cases op <;> try exact trivial
        all_goals
          refine bin_run (eqGuard_other _ _ _ _ _ _ hc) ?_
          simp [binOp, equal_nils hu, SV.den, Ce.den]
end Go.Proofs.Ytngfadijcpnblaa
