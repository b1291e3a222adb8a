/- The evaluator: more operations that leave memory as it is. -/
import Derived.Test.YtngfadijcpnblaaGxa
import Derived.Stop.Asserts
namespace Go.Proofs.Ytngfadijcpnblaa
open Go.RowKit

/-- What an interface value holds. -/
def ifaceOf : SV → Option (TypeId × Ce)
  | .c (.ifl t l o) => some (t, .loc l o)
  | .c (.v (.iface t v)) => match plain v with
    | true => some (t, .v v)
    | false => none
  | _ => none
theorem ifaceOf_den {x : SV} {t : TypeId} {c : Ce} (h : ifaceOf x = some (t, c)) (β : Nat → Nat) : x.den β = .iface t (c.den β) := by
  unfold ifaceOf at h
  split at h
  · cases h; rfl
  · split at h <;> cases h
    rfl
  · cases h
def isNilI : SV → Bool
  | .c (.v .nilIface) => true
  | _ => false
theorem isNilI_den {x : SV} (h : isNilI x = true) (β : Nat → Nat) : x.den β = .nilIface := by
  unfold isNilI at h
  split at h
  · rfl
  · cases h
def isNilS : SV → Bool
  | .c (.v (.slice none _ _)) => true
  | _ => false
theorem isNilS_den {x : SV} (h : isNilS x = true) (β : Nat → Nat) : ∃ n c, x.den β = .slice none n c := by
  unfold isNilS at h
  split at h
  · exact ⟨_, _, rfl⟩
  · cases h
/-- A slice of a block with a label: the label, the place of its first cell, its length. -/
def rowOf : SV → Option (Nat × Nat × Nat)
  | .c (.locs l o n _) => some (l, o, n)
  | .c (.gro l o n _) => some (l, o, n)
  | _ => none
theorem rowOf_den {x : SV} {l o n : Nat} (h : rowOf x = some (l, o, n)) (β : Nat → Nat) : ∃ c, x.den β = .slice (some ⟨β l, o, none⟩) n c := by
  unfold rowOf at h
  split at h
  · cases h; exact ⟨_, rfl⟩
  · cases h; exact ⟨_, rfl⟩
  · cases h
/-- Of two that are held against each other: the answer, as the operation says it. -/
def eqOut (op : BinOp) (b : Bool) : Out :=
  match op with
  | .eql => .val (.c (.v (.bool b)))
  | .neq => .val (.c (.v (.bool (!b))))
  | _ => .no
def intB (op : BinOp) (k : IntKind) (a b : Int) : Out :=
  match op with
  | .quo => match b with
    | .ofNat 0 => .no
    | _ => .ar k (a.tdiv b)
  | .rem => match b with
    | .ofNat 0 => .no
    | _ => .val (.c (.v (.int k (a.tmod b))))
  | .and => .ar k (BitVec.ofInt k.bits a &&& BitVec.ofInt k.bits b).toNat
  | .or => .ar k (BitVec.ofInt k.bits a ||| BitVec.ofInt k.bits b).toNat
  | .xor => .ar k (BitVec.ofInt k.bits a ^^^ BitVec.ofInt k.bits b).toNat
  | .andNot => .ar k (BitVec.ofInt k.bits a &&& ~~~ BitVec.ofInt k.bits b).toNat
  | _ => .no
def shiftB (op : BinOp) (k : IntKind) (a : Int) (b : Int) : Out :=
  match b with
  | .negSucc _ => .no
  | .ofNat n => match op with
    | .shl => .ar k (a * 2 ^ (min n k.bits))
    | .shr => .val (.c (.v (.int k (a.fdiv (2 ^ (min n k.bits))))))
    | _ => .no
def strB (op : BinOp) (a b : ByteArray) : Out :=
  match op with
  | .add => match Nat.ble (a.size + b.size) 9223372036854775807 with
    | true => .val (.c (.v (.string (a ++ b))))
    | false => .no
  | .lss => .val (.c (.v (.bool (Op.bytesLess a.toList b.toList))))
  | .leq => .val (.c (.v (.bool (Op.bytesLess a.toList b.toList || (a.toList == b.toList)))))
  | .gtr => .val (.c (.v (.bool (!(Op.bytesLess a.toList b.toList || (a.toList == b.toList))))))
  | .geq => .val (.c (.v (.bool (!Op.bytesLess a.toList b.toList))))
  | _ => .no
/-- Two interface values that hold something. -/
def eqI (P : Program) (op : BinOp) (tx ty : TypeId) (cx cy : Ce) : Out :=
  match Nat.beq tx ty with
  | false => eqOut op false
  | true => match P.underlying tx with
    | some (.int _) => match P.info? tx with
      | some i => match i.comparable with
        | true => match cx, cy with
          | .v (.int k a), .v (.int k' b) => match kEq k k' with
            | true => eqOut op (a == b)
            | false => .no
          | _, _ => .no
        | false => .no
      | none => .no
    | _ => .no
def binY (P : Program) (op : BinOp) (t : TypeId) (x y : SV) : Out :=
  match x, y with
  | .c (.v (.int k a)), .c (.v (.int k' b)) => match op with
    | .shl => shiftB .shl k a b
    | .shr => shiftB .shr k a b
    | op => match kEq k k' with
      | true => intB op k a b
      | false => .no
  | .c (.v (.string a)), .c (.v (.string b)) => strB op a b
  | x, y => match P.underlying t with
    | some (.interface _) => match ifaceOf x with
      | some (tx, cx) => match isNilI y with
        | true => eqOut op false
        | false => match ifaceOf y with
          | some (ty, cy) => eqI P op tx ty cx cy
          | none => .no
      | none => match isNilI x with
        | true => match ifaceOf y with
          | some _ => eqOut op false
          | none => .no
        | false => .no
    | some (.slice _) => match rowOf x with
      | some _ => match isNilS y with
        | true => eqOut op false
        | false => .no
      | none => .no
    | _ => .no

section
variable {P : Program} {op : BinOp} {t : TypeId} {xo yo : Operand} {β : Nat → Nat} {w : World}

abbrev BinRun (P : Program) (op : BinOp) (t : TypeId) (xo yo : Operand) (x y : Value) : Sem Next := do pure (.value (← (do eqGuard op t xo yo x y; binOp op t x y)))

theorem eqOut_ok {x y : Value} {b : Bool} (hg : eqGuard op t xo yo x y = pure ()) (he : (Op.equal t x y).run P w = .ok b w)
    (h1 : ∀ op', op' = .eql ∨ op' = .neq → binOp op' t x y = (match op' with | .eql => (do pure (.bool (← Op.equal t x y))) | _ => (do pure (.bool (!(← Op.equal t x y)))))) : OutOk P β (BinRun P op t xo yo x y) w (eqOut op b) := by
  cases op <;> try exact trivial
  · have := h1 .eql (.inl rfl)
    exact bin_run hg (by rw [this]; simp [he]; rfl)
  · have := h1 .neq (.inr rfl)
    exact bin_run hg (by rw [this]; simp [he]; rfl)

theorem intB_ok {k : IntKind} {a b : Int} : OutOk P β (BinRun P op t xo yo (.int k a) (.int k b)) w (intB op k a b) := by
  have hg : eqGuard op t xo yo (.int k a) (.int k b) = pure () := eqGuard_other _ _ _ _ _ _ rfl
  cases op <;> try exact trivial
  case quo =>
    simp only [intB]
    split
    · exact trivial
    · rename_i hb
      have h0 : ¬ b = 0 := fun e => hb (by rw [e]; rfl)
      exact bin_run hg (by simp [binOp, Op.intDiv, h0])
  case rem =>
    simp only [intB]
    split
    · exact trivial
    · rename_i hb
      have h0 : ¬ b = 0 := fun e => hb (by rw [e]; rfl)
      exact bin_run hg (by simp [binOp, Op.intDiv, h0]; rfl)
  all_goals exact bin_run hg (by simp [binOp, Op.intBits])

theorem shiftB_ok {k yk : IntKind} {a b : Int} (hop : op = .shl ∨ op = .shr) : OutOk P β (BinRun P op t xo yo (.int k a) (.int yk b)) w (shiftB op k a b) := by
  have hg : eqGuard op t xo yo (.int k a) (.int yk b) = pure () := eqGuard_other _ _ _ _ _ _ rfl
  unfold shiftB
  split
  · exact trivial
  · rename_i n
    rcases hop with rfl | rfl
    · exact bin_run hg (by simp [binOp, Op.shift]; intro hbad; omega)
    · exact bin_run hg (by simp [binOp, Op.shift, SV.den, Ce.den]; intro hbad; omega)

theorem strB_ok {a b : ByteArray} : OutOk P β (BinRun P op t xo yo (.string a) (.string b)) w (strB op a b) := by
  have hg : eqGuard op t xo yo (.string a) (.string b) = pure () := eqGuard_other _ _ _ _ _ _ rfl
  cases op <;> try exact trivial
  case add =>
    simp only [strB]
    split
    · rename_i hb
      have hle : a.size + b.size ≤ 9223372036854775807 := by simpa using hb
      refine bin_run hg ?_
      have : ¬ ((a.size + b.size : Nat) : Int) > IntKind.i64.max := by
        have : IntKind.i64.max = 9223372036854775807 := by decide
        omega
      simp only [binOp, Op.stringOp]
      rw [if_neg this]
      rfl
    · exact trivial
  all_goals exact bin_run hg (by simp [binOp, Op.stringOp, SV.den, Ce.den])

theorem iface_guard {tx : TypeId} {vx v : Value} : eqGuard op t xo yo (.iface tx vx) v = pure () := by
  cases v <;> exact eqGuard_other _ _ _ _ _ _ rfl
theorem iface_guard' {tx : TypeId} {vx : Value} : eqGuard op t xo yo .nilIface (.iface tx vx) = pure () := eqGuard_other _ _ _ _ _ _ rfl
theorem iface_op {tx : TypeId} {vx v : Value} (hv : v = .nilIface ∨ ∃ ty vy, v = .iface ty vy) : ∀ op', op' = .eql ∨ op' = .neq → binOp op' t (.iface tx vx) v = (match op' with | .eql => (do pure (.bool (← Op.equal t (.iface tx vx) v))) | _ => (do pure (.bool (!(← Op.equal t (.iface tx vx) v))))) := by
  rintro op' (rfl | rfl) <;> rcases hv with rfl | ⟨ty, vy, rfl⟩ <;> rfl

theorem eqI_ok {ms : Array (String × TypeId)} (hu : P.underlying t = some (.interface ms)) {tx ty : TypeId} {cx cy : Ce} : OutOk P β (BinRun P op t xo yo (.iface tx (cx.den β)) (.iface ty (cy.den β))) w (eqI P op tx ty cx cy) := by
  unfold eqI
  split
  · rename_i hb
    have hne : tx ≠ ty := by intro e; subst e; simp at hb
    refine eqOut_ok iface_guard ?_ (iface_op (.inr ⟨_, _, rfl⟩))
    have h : ∀ d, (Op.equalIn (d + 1) t (.iface tx (cx.den β)) (.iface ty (cy.den β))).run P w = .ok false w := fun d => by simp [Op.equalIn, run_underlying hu, hne]
    exact h 9999
  · rename_i hb
    obtain rfl : tx = ty := Nat.eq_of_beq_eq_true hb
    split <;> try exact trivial
    rename_i ki hk
    split <;> try exact trivial
    rename_i i hi
    split <;> try exact trivial
    rename_i hc
    split <;> try exact trivial
    rename_i k a k' b
    split <;> try exact trivial
    rename_i hkk
    obtain rfl := kEq_eq hkk
    refine eqOut_ok iface_guard ?_ (iface_op (.inr ⟨_, _, rfl⟩))
    have h : ∀ d, (Op.equalIn (d + 1 + 1) t (.iface tx (.int k a)) (.iface tx (.int k b))).run P w = .ok (a == b) w := fun d => by simp [Op.equalIn, run_underlying hu, run_underlying hk, typeInfo, hi, hc]
    exact h 9998

theorem binY_ok {x y : SV} : OutOk P β (BinRun P op t xo yo (x.den β) (y.den β)) w (binY P op t x y) := by
  unfold binY
  split
  · split
    · exact shiftB_ok (.inl rfl)
    · exact shiftB_ok (.inr rfl)
    · split
      · rename_i hk
        obtain rfl := kEq_eq hk
        exact intB_ok
      · exact trivial
  · exact strB_ok
  · split <;> try exact trivial
    · rename_i ms hu
      split
      · rename_i tx cx hx
        rw [ifaceOf_den hx]
        split
        · rename_i hy
          rw [isNilI_den hy]
          exact eqOut_ok iface_guard (equal_iface hu _ _ _) (iface_op (.inl rfl))
        · split <;> try exact trivial
          rename_i ty cy hy
          rw [ifaceOf_den hy]
          exact eqI_ok hu
      · split <;> try exact trivial
        rename_i hx
        split <;> try exact trivial
        rename_i q hy
        obtain ⟨ty, cy⟩ := q
        rw [isNilI_den hx, ifaceOf_den hy]
        refine eqOut_ok iface_guard' ?_ ?_
        · have h : ∀ d, (Op.equalIn (d + 1) t .nilIface (.iface ty (cy.den β))).run P w = .ok false w := fun d => by simp [Op.equalIn, run_underlying hu]
          exact h 9999
        · rintro op' (rfl | rfl) <;> rfl
    · rename_i e hu
      split <;> try exact trivial
      rename_i q hx
      split <;> try exact trivial
      rename_i hy
      obtain ⟨l, o, n⟩ := q
      obtain ⟨c, hx⟩ := rowOf_den hx β
      obtain ⟨n', c', hy⟩ := isNilS_den hy β
      rw [hx, hy]
      refine eqOut_ok (eqGuard_other _ _ _ _ _ _ rfl) (equal_slice hu _ _ _ _ _ _) ?_
      rintro op' (rfl | rfl) <;> rfl
end

/-! ### Structs held against each other -/
def partV (P : Program) (t : TypeId) (cs : Array Value) (o : Nat) : Option Value :=
  match aggOf P t with
  | .one => getL cs.toList o
  | .many n => some (.agg (cs.extract o (o + n)))
  | .no => none
theorem partV_ok {P : Program} {t : TypeId} {cs : Array Value} {o : Nat} {v : Value} (h : partV P t cs o = some v) (w : World) : (part t cs o).run P w = .ok v w := by
  unfold partV at h
  split at h
  · rename_i ha
    rw [getL_eq, Array.getElem?_toList] at h
    simp [part, aggOf_one ha, h]
  · rename_i n ha
    cases h
    obtain ⟨h1, h2⟩ := aggOf_many ha w
    simp [part, h1, h2]
  · cases h
def eqF (P : Program) (E : TypeId → Value → Value → Option Bool) (xs ys : Array Value) : List Field → Option Bool
  | [] => some true
  | f :: r => match f.name == "_" with
    | true => eqF P E xs ys r
    | false => match partV P f.type xs f.offset with
      | some a => match partV P f.type ys f.offset with
        | some b => match E f.type a b with
          | some true => eqF P E xs ys r
          | some false => some false
          | none => none
        | none => none
      | none => none
def eqV (P : Program) : Nat → TypeId → Value → Value → Option Bool
  | 0, _, _, _ => none
  | d + 1, t, x, y => match P.underlying t with
    | some .bool => match x, y with
      | .bool a, .bool b => some (a == b)
      | _, _ => none
    | some (.int _) => match x, y with
      | .int k a, .int k' b => match kEq k k' with
        | true => some (a == b)
        | false => none
      | _, _ => none
    | some .string => match x, y with
      | .string a, .string b => some (a.toList == b.toList)
      | _, _ => none
    | some (.struct _) => match x, y with
      | .agg xs, .agg ys => match P.stoodInHeld t with
        | false => eqF P (fun t a b => eqV P d t a b) xs ys (P.fieldsOf t).toList
        | true => none
      | _, _ => none
    | _ => none
theorem eqF_ok {P : Program} {E : TypeId → Value → Value → Option Bool} {d : Nat} {w : World} (hE : ∀ t a b r, E t a b = some r → (Op.equalIn d t a b).run P w = .ok r w) (xs ys : Array Value) :
    ∀ (fs : List Field) (r : Bool), eqF P E xs ys fs = some r → (Op.eqFields d xs ys fs).run P w = .ok r w
  | [], r, h => by cases h; simp [Op.eqFields]
  | f :: fs, r, h => by
    simp only [eqF] at h
    simp only [Op.eqFields]
    split at h
    · rename_i hn
      have hn' : f.name = "_" := by simpa using hn
      rw [if_neg (by simp [hn'])]
      exact eqF_ok hE xs ys fs r h
    · rename_i hn
      have hn' : f.name ≠ "_" := by simpa using hn
      rw [if_pos hn']
      split at h <;> try (cases h; done)
      rename_i a ha
      split at h <;> try (cases h; done)
      rename_i b hb
      split at h <;> try (cases h; done)
      · rename_i he
        simp only [Sem.run_bind, partV_ok ha, partV_ok hb, hE _ _ _ _ he, Result.andThen_ok]
        exact eqF_ok hE xs ys fs r h
      · rename_i he
        cases h
        simp [Sem.run_bind, partV_ok ha, partV_ok hb, hE _ _ _ _ he, Result.andThen_ok]
theorem eqV_ok {P : Program} {w : World} : ∀ (d : Nat) (t : TypeId) (x y : Value) (r : Bool), eqV P d t x y = some r → (Op.equalIn d t x y).run P w = .ok r w
  | 0, _, _, _, _, h => by cases h
  | d + 1, t, x, y, r, h => by
    unfold eqV at h
    split at h <;> try (cases h; done)
    · rename_i hu
      split at h <;> try (cases h; done)
      cases h
      exact run_equalIn_bool' w d t _ _ hu
    · rename_i hu
      split at h <;> try (cases h; done)
      split at h <;> try (cases h; done)
      rename_i hk
      obtain rfl := kEq_eq hk
      cases h
      exact run_equalIn_int w d t _ _ _ _ hu
    · rename_i hu
      split at h <;> try (cases h; done)
      cases h
      exact run_equalIn_string w d t _ _ hu
    · rename_i fs hu
      split at h <;> try (cases h; done)
      split at h <;> try (cases h; done)
      rename_i hs
      have hf : P.fieldsOf t = fs := by simp [Program.fieldsOf, hu]
      rw [run_equalIn_agg w d t _ _ (by rw [hf]; exact hu) hs]
      exact eqF_ok (fun t a b r hr => eqV_ok d t a b r hr) _ _ _ _ h
/-- Cells that are plain values. -/
def valsC : List Ce → Option (List Value)
  | [] => some []
  | .v x :: r => match valsC r with
    | some ys => some (x :: ys)
    | none => none
  | _ :: _ => none
theorem valsC_den {β : Nat → Nat} : ∀ {cs : List Ce} {vs : List Value}, valsC cs = some vs → cs.map (Ce.den β) = vs
  | [], vs, h => by cases h; rfl
  | x :: r, vs, h => by
    cases x <;> simp only [valsC] at h <;> try (cases h; done)
    split at h <;> cases h
    rename_i ys hr
    rw [List.map_cons, valsC_den hr]
    rfl
def binA (P : Program) (op : BinOp) (t : TypeId) (xs ys : List Ce) : Out :=
  match valsC xs with
  | some vx => match valsC ys with
    | some vy => match P.eqGuardType P.depth t with
      | false => match eqV P 10000 t (.agg vx.toArray) (.agg vy.toArray) with
        | some b => eqOut op b
        | none => .no
      | true => .no
    | none => .no
  | none => .no
theorem binA_ok {P : Program} {op : BinOp} {t : TypeId} {xo yo : Operand} {β : Nat → Nat} {w : World} {xs ys : List Ce} : OutOk P β (BinRun P op t xo yo ((SV.agg xs).den β) ((SV.agg ys).den β)) w (binA P op t xs ys) := by
  unfold binA
  split <;> try exact trivial
  rename_i vx hx
  split <;> try exact trivial
  rename_i vy hy
  split <;> try exact trivial
  rename_i hg
  split <;> try exact trivial
  rename_i b hb
  simp only [SV.den, valsC_den hx, valsC_den hy]
  have he : ∀ w, (Op.equalIn 10000 t (.agg vx.toArray) (.agg vy.toArray)).run P w = .ok b w := fun w => eqV_ok _ _ _ _ _ hb
  cases op <;> try exact trivial
  · have := run_eqS (xo := xo) (yo := yo) (op := .eql) hg he (.inl rfl) w
    exact this
  · have := run_eqS (xo := xo) (yo := yo) (op := .neq) hg he (.inr rfl) w
    exact this

/-! ### Type assertions -/
def tOf : SV → Option (Bool × List Ce)
  | .c x => some (false, [x])
  | .agg cs => some (true, cs)
  | .kb b => some (false, [.v (.bool b)])
  | _ => none
theorem tOf_den {s : SV} {p : Bool × List Ce} (h : tOf s = some p) (β : Nat → Nat) : tpDen β p = s.den β := by
  cases s <;> simp only [tOf, Option.some.injEq] at h <;> first | (subst h; rfl) | cases h
def zeroC (P : Program) (t : TypeId) : Option (Bool × List Ce) :=
  match P.info? t with
  | some i => match i.zero with
    | some z => match z with
      | .agg a => match valsO a.toList with
        | some cs => some (true, cs)
        | none => none
      | .tuple _ => none
      | x => some (false, [.v x])
    | none => none
  | none => none
theorem zeroC_run {P : Program} {t : TypeId} {p : Bool × List Ce} (h : zeroC P t = some p) (w : World) (β : Nat → Nat) : (zeroValue t).run P w = .ok (tpDen β p) w := by
  unfold zeroC at h
  cases hi : P.info? t with
  | none => rw [hi] at h; cases h
  | some i =>
    simp only [hi] at h
    cases hz : i.zero with
    | none => simp only [hz] at h; cases h
    | some z =>
      simp only [hz] at h
      have e : (Ce.den β ∘ Ce.v) = id := rfl
      have hr : (zeroValue t).run P w = .ok z w := by simp [zeroValue, typeInfo, hi, hz]
      rw [hr]
      cases z <;> simp [valsO_eq] at h <;> subst h <;> simp [tpDen, Ce.den, e]
def holdsT (ok : Bool) (s : SV) : Out :=
  match ok with
  | false => .val s
  | true => match tOf s with
    | some p => .val (.tps [p, (false, [.v (.bool true)])])
    | none => .no
def failsT (P : Program) (t : TypeId) (ok : Bool) : Out :=
  match ok with
  | false => .no
  | true => match zeroC P t with
    | some p => .val (.tps [p, (false, [.v (.bool false)])])
    | none => .no
def assertY (P : Program) (x : SV) (t : TypeId) (ok : Bool) : Out :=
  match P.underlying t with
  | some (.interface want) => match isNilI x with
    | true => failsT P t ok
    | false => match ifaceOf x with
      | some (tx, _) => match P.info? tx with
        | some i => match lacking want i.methods with
          | [] => holdsT ok x
          | _ :: _ => failsT P t ok
        | none => .no
      | none => .no
  | some _ => match isNilI x with
    | true => failsT P t ok
    | false => match ifaceOf x with
      | some (tx, c) => match Nat.beq tx t with
        | true => holdsT ok (.c c)
        | false => failsT P t ok
      | none => .no
  | none => .no
theorem vOut {P : Program} {β : Nat → Nat} {s : Sem Value} {w : World} {x : SV} (h : s.run P w = .ok (x.den β) w) : OutOk P β (do pure (.value (← s))) w (.val x) := by
  show (do pure (Next.value (← s)) : Sem Next).run P w = _
  simp [h]
theorem assertY_ok {P : Program} {β : Nat → Nat} {w : World} {x : SV} {xt t : TypeId} {ok : Bool} : OutOk P β (do pure (.value (← Instr.typeAssert (x.den β) xt t ok))) w (assertY P x t ok) := by
  have hold : ∀ (s : SV) (v : Value), s.den β = v → ∀ (A : Sem Value), A.run P w = .ok (if ok then .tuple #[v, .bool true] else v) w → OutOk P β (do pure (.value (← A))) w (holdsT ok s) := by
    intro s v hv A hA
    unfold holdsT
    split
    · exact vOut (by rw [hA, hv]; rfl)
    · split
      · rename_i p hp
        exact vOut (by
          rw [hA]
          have e : (SV.tps [p, (false, [.v (.bool true)])]).den β = .tuple #[tpDen β p, .bool true] := rfl
          rw [e, tOf_den hp, hv]
          rfl)
      · exact trivial
  have fail : ∀ (A : Sem Value), (ok = true → ∀ z, (zeroValue t).run P w = .ok z w → A.run P w = .ok (.tuple #[z, .bool false]) w) → OutOk P β (do pure (.value (← A))) w (failsT P t ok) := by
    intro A hA
    unfold failsT
    split
    · exact trivial
    · split
      · rename_i p hp
        exact vOut (by rw [hA rfl _ (zeroC_run hp w β)]; rfl)
      · exact trivial
  unfold assertY
  split
  · rename_i want hu
    split
    · rename_i hx
      rw [isNilI_den hx]
      exact fail _ fun hok z hz => by simp [Instr.typeAssert, run_underlying hu, hok, hz]
    · split <;> try exact trivial
      rename_i tx c hx
      rw [ifaceOf_den hx]
      split <;> try exact trivial
      rename_i i hi
      split
      · rename_i hm0
        have hm := missingMethod_none hm0
        exact hold x _ (ifaceOf_den hx β) _ (by simp [Instr.typeAssert, run_underlying hu, typeInfo, hi, hm])
      · rename_i m ms hm0
        obtain ⟨m', hm⟩ := missingMethod_some (want := want) (got := i.methods) (by rw [hm0]; simp)
        exact fail _ fun hok z hz => by simp [Instr.typeAssert, run_underlying hu, typeInfo, hi, hm, hok, hz]
  · rename_i d hd hu
    split
    · rename_i hx
      rw [isNilI_den hx]
      refine fail _ fun hok z hz => ?_
      cases d <;> first | (exact absurd rfl (hd _)) | (simp [Instr.typeAssert, run_underlying hu, hok, hz])
    · split <;> try exact trivial
      rename_i tx c hx
      rw [ifaceOf_den hx]
      split
      · rename_i hb
        obtain rfl : tx = t := Nat.eq_of_beq_eq_true hb
        refine hold (.c c) _ rfl _ ?_
        cases d <;> first | (exact absurd rfl (hd _)) | (simp [Instr.typeAssert, run_underlying hu, SV.den])
      · rename_i hb
        have hne : ¬ tx = t := by intro e; subst e; simp at hb
        refine fail _ fun hok z hz => ?_
        cases d <;> first | (exact absurd rfl (hd _)) | (simp [Instr.typeAssert, run_underlying hu, hne, hok, hz])
  · exact trivial

/-! ### Elements, parts of slices -/
def idxY (P : Program) (t : TypeId) (x : SV) (iv : Int) : Out :=
  match iv with
  | .negSucc _ => .no
  | .ofNat j => match P.underlying t with
    | some (.slice e) => match P.info? e with
      | some ei => match rowOf x with
        | some (l, o, n) => match Nat.blt j n with
          | true => .val (.c (.loc l (addN o (j * ei.size))))
          | false => .no
        | none => .no
      | none => .no
    | some (.array n e) => match P.info? e with
      | some ei => match x with
        | .c (.loc l o) => match Nat.blt j n with
          | true => .val (.c (.loc l (addN o (j * ei.size))))
          | false => .no
        | _ => .no
      | none => .no
    | _ => .no
theorem idxY_ok {P : Program} {β : Nat → Nat} {w : World} {x : SV} {t : TypeId} {k : IntKind} {iv : Int} : OutOk P β (do pure (.value (← Instr.indexAt t (x.den β) (.int k iv)))) w (idxY P t x iv) := by
  unfold idxY
  split
  · exact trivial
  · rename_i j
    split <;> try exact trivial
    · rename_i e hu
      split <;> try exact trivial
      rename_i ei hi
      split <;> try exact trivial
      rename_i l o n hx
      split <;> try exact trivial
      rename_i hb
      have hlt : j < n := by simpa [Nat.blt_eq] using hb
      obtain ⟨c, hx⟩ := rowOf_den hx β
      rw [hx]
      refine vOut ?_
      have h1 : (0 : Int) ≤ Int.ofNat j ∧ Int.ofNat j < n := ⟨Int.natCast_nonneg j, Int.ofNat_lt.2 hlt⟩
      simp only [Instr.indexAt, asIntOf, Sem.run_bind, Sem.run_pure, Result.andThen_ok, run_underlying hu]
      simp [h1, sizeOf, typeInfo, hi, add_plain', SV.den, Ce.den, addN_eq, hlt]
    · rename_i n e hu
      split <;> try exact trivial
      rename_i ei hi
      split <;> try exact trivial
      rename_i l o
      split <;> try exact trivial
      rename_i hb
      have hlt : j < n := by simpa [Nat.blt_eq] using hb
      refine vOut ?_
      have h1 : (0 : Int) ≤ Int.ofNat j ∧ Int.ofNat j < n := ⟨Int.natCast_nonneg j, Int.ofNat_lt.2 hlt⟩
      simp only [Instr.indexAt, asIntOf, Sem.run_bind, Sem.run_pure, Result.andThen_ok, run_underlying hu]
      simp [h1, sizeOf, typeInfo, hi, add_plain', SV.den, Ce.den, addN_eq, hlt, Instr.sureAddr]
def elmY (P : Program) (t : TypeId) (x : SV) (iv : Int) : Out :=
  match iv with
  | .negSucc _ => .no
  | .ofNat j => match P.underlying t with
    | some (.array n e) => match P.info? e with
      | some ei => match x with
        | .agg cs => match Nat.blt j n with
          | true => match aggOf P e with
            | .one => match getL cs (j * ei.size) with
              | some y => .val (.c y)
              | none => .no
            | .many m => match cutL cs (j * ei.size) m with
              | some ys => .cells ys
              | none => .no
            | .no => .no
          | false => .no
        | _ => .no
      | none => .no
    | some .string => match x with
      | .c (.v (.string s)) => match getL s.data.toList j with
        | some b => .val (.c (.v (.int .u8 b.toNat)))
        | none => .no
      | _ => .no
    | _ => .no
theorem elmY_ok {P : Program} {β : Nat → Nat} {w : World} {x : SV} {t : TypeId} {k : IntKind} {iv : Int} : OutOk P β (do pure (.value (← Instr.index t (x.den β) (.int k iv)))) w (elmY P t x iv) := by
  unfold elmY
  split
  · exact trivial
  · rename_i j
    split <;> try exact trivial
    · rename_i n e hu
      split <;> try exact trivial
      rename_i ei hi
      split <;> try exact trivial
      rename_i cs
      split <;> try exact trivial
      rename_i hb
      have hlt : j < n := by simpa [Nat.blt_eq] using hb
      have h1 : (0 : Int) ≤ Int.ofNat j ∧ Int.ofNat j < n := ⟨Int.natCast_nonneg j, Int.ofNat_lt.2 hlt⟩
      split <;> try exact trivial
      · rename_i ha
        split <;> try exact trivial
        rename_i y hy
        refine vOut ?_
        have hp := run_part_one (g := ⟨P, 0, default, 0, fun _ _ => True, [], default, fun _ _ => 0, #[]⟩) (β := β) (w := w) (cs := cs) (o := j * ei.size) (y := y) ha hy
        simp only [Instr.index, asIntOf, Sem.run_bind, Sem.run_pure, Result.andThen_ok, run_underlying hu, SV.den]
        simp only [if_pos h1, Sem.run_bind, sizeOf, typeInfo, run_program, hi, Sem.run_pure, Result.andThen_ok, Sem.run_ite]
        exact hp
      · rename_i m ha
        split <;> try exact trivial
        rename_i ys hy
        have hp := run_part_many (g := ⟨P, 0, default, 0, fun _ _ => True, [], default, fun _ _ => 0, #[]⟩) (β := β) (w := w) (cs := cs) (ys := ys) (o := j * ei.size) (n := m) ha hy
        show (do pure (Next.value (← Instr.index t ((SV.agg cs).den β) (.int k (Int.ofNat j)))) : Sem Next).run P w = _
        have hr : (Instr.index t ((SV.agg cs).den β) (.int k (Int.ofNat j))).run P w = .ok ((SV.agg ys).den β) w := by
          simp only [Instr.index, asIntOf, Sem.run_bind, Sem.run_pure, Result.andThen_ok, run_underlying hu, SV.den]
          simp only [if_pos h1, Sem.run_bind, sizeOf, typeInfo, run_program, hi, Sem.run_pure, Result.andThen_ok, Sem.run_ite]
          exact hp
        simp only [Sem.run_bind, hr, Result.andThen_ok, Sem.run_pure]
    · rename_i hu
      split <;> try exact trivial
      rename_i s
      split <;> try exact trivial
      rename_i b hb
      rw [getL_eq] at hb
      have hlt : j < s.data.toList.length := (List.getElem?_eq_some_iff.1 hb).1
      have hs : s[j]? = some b := by
        have h2 : j < s.size := by
          show j < s.data.size
          rw [← Array.length_toList]
          exact hlt
        rw [getElem?_pos s j h2]
        congr 1
        rw [ByteArray.getElem_eq_getElem_data]
        rw [List.getElem?_eq_getElem hlt] at hb
        simpa using hb
      refine vOut ?_
      simp only [Instr.index, asIntOf, Sem.run_bind, Sem.run_pure, Result.andThen_ok, run_underlying hu, SV.den, Ce.den]
      have h0 : (0 : Int) ≤ Int.ofNat j := Int.natCast_nonneg j
      rw [if_pos h0, show (Int.ofNat j).toNat = j from rfl, hs]
      rfl
end Go.Proofs.Ytngfadijcpnblaa
