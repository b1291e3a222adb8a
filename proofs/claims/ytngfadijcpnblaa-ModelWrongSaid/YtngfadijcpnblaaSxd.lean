/- 'pureOp': what an operation that leaves memory as it is comes to, in a symbolic state. -/
import Derived.Test.YtngfadijcpnblaaSxc
namespace Go.Proofs.Ytngfadijcpnblaa
open Go.RowKit

/-- The cells of the zero value of a type. -/
def zeroS (P : Program) (t : TypeId) : Option (List Ce) :=
  match P.info? t with
  | none => none
  | some i => match i.zero with
    | none => none
    | some z => match z with
      | .agg a => valsO a.toList
      | .tuple _ => none
      | x => some [.v x]
theorem zeroS_den {P : Program} {t : TypeId} {cs : List Ce} (h : zeroS P t = some cs) (w : World) : ∃ z, (zeroValue t).run P w = .ok z w ∧ ∀ β, z.cells = cellsOf β cs := by
  unfold zeroS at h
  cases hi : P.info? t with
  | none => simp [hi] at h
  | some i =>
    simp only [hi] at h
    cases hz : i.zero with
    | none => simp [hz] at h
    | some z =>
      simp only [hz] at h
      refine ⟨z, by simp [zeroValue, typeInfo, hi, hz], fun β => ?_⟩
      have e : (Ce.den β ∘ Ce.v) = id := rfl
      cases z <;> simp [valsO_eq] at h <;> subst h <;> simp [Value.cells, cellsOf, Ce.den, e]

/-- The places of a struct's fields. -/
def placesS (P : Program) : List Field → Option (List (Nat × Nat))
  | [] => some []
  | f :: r => match P.info? f.type with
    | some i => match placesS P r with
      | some ps => some ((f.offset, i.size) :: ps)
      | none => none
    | none => none
theorem placesS_eq (P : Program) : ∀ fs : List Field, fs.mapM (fun f => (P.info? f.type).map fun i => (f.offset, i.size)) = placesS P fs
  | [] => rfl
  | f :: r => by
    simp only [List.mapM_cons, placesS, placesS_eq P r]
    cases P.info? f.type <;> cases placesS P r <;> rfl

def buildS (P : Program) (env : Env) (t : TypeId) (ps : List (Nat × Operand)) : Option (List Ce) :=
  match zeroS P t with
  | none => none
  | some z => match P.underlying t with
    | some (.struct fs) => match placesS P fs.toList with
      | some pl => fillS (getL pl) env z ps
      | none => none
    | some (.array _ e) => match P.info? e with
      | some i => fillS (fun k => some (k * i.size, i.size)) env z ps
      | none => none
    | _ => none

theorem buildS_ok {g : Cx} {β : Nat → Nat} {env : Env} {mem : Mem} {bnd : Bnd} {L : Res} {a : Act} {w : World} (h : Rel g β env mem bnd L a w) {t : TypeId} {ps : Array (Nat × Operand)} {zs : List Ce}
    (hb : buildS g.P env t ps.toList = some zs) : (Instr.build t (ps.map fun x => (x.1, a.eval x.2))).run g.P w = .ok (.agg (cellsOf β zs)) w := by
  apply run_build
  unfold buildS at hb
  cases hz : zeroS g.P t with
  | none => simp [hz] at hb
  | some z =>
    simp only [hz] at hb
    have hz2 := hz
    unfold zeroS at hz2
    cases hi : g.P.info? t with
    | none => simp [hi] at hz2
    | some i =>
      simp only [hi] at hz2
      cases hv : i.zero with
      | none => simp [hv] at hz2
      | some zv =>
        obtain ⟨zv', hrun, hcells⟩ := zeroS_den hz w
        have e : zv' = zv := by
          have : (zeroValue t).run g.P w = .ok zv w := by simp [zeroValue, typeInfo, hi, hv]
          rw [this] at hrun
          cases hrun
          rfl
        subst e
        have hc := hcells β
        unfold Program.built
        cases hu : g.P.underlying t with
        | none => simp [hu] at hb
        | some d =>
          cases d <;> simp only [hu] at hb <;> try (cases hb; done)
          case array n e =>
            cases hie : g.P.info? e with
            | none => simp [hie] at hb
            | some ie =>
              simp only [hie] at hb
              simp only [hi, hv, hie, hc]
              simpa using fillS_ok h _ ps.toList z zs hb
          case struct fs =>
            cases hp : placesS g.P fs.toList with
            | none => simp [hp] at hb
            | some pl =>
              simp only [hp] at hb
              simp only [hi, hv, placesS_eq, hp, hc]
              have eg : (fun x => pl.toArray[x]?) = getL pl := by
                funext x
                simp [getL_eq]
              rw [eg]
              simpa using fillS_ok h _ ps.toList z zs hb

def addN (o k : Nat) : Nat :=
  match o with
  | 0 => k
  | o + 1 => o + 1 + k
theorem addN_eq (o k : Nat) : addN o k = o + k := by cases o <;> simp [addN]

def pureOp (P : Program) (env : Env) (mem : Mem) (bnd : Bnd) : Op → Out
  | .move x => match ev env x with
    | some s => .val s
    | none => .no
  | .assign x => match ev env x with
    | some s => .val s
    | none => .no
  | .load t x => match ev env x with
    | some (.c (.loc l o)) => match lookM mem l with
      | some (_, cs) => match aggOf P t with
        | .one => match getL cs o with
          | some y => .val (.c y)
          | none => .no
        | .many n => match cutL cs o n with
          | some ys => .cells ys
          | none => .no
        | .no => .no
      | none => .no
    | _ => .no
  | .nilCheck x => match ev env x with
    | some (.c (.loc l o)) => .val (.c (.loc l o))
    | some (.c (.v (.pointer (some p)))) => .val (.c (.v (.pointer (some p))))
    | some (.c (.v (.iface t y))) => .val (.c (.v (.iface t y)))
    | _ => .no
  | .binOp op t x y _ => match nrm (ev env x) with
    | some (.c (.v u)) => match nrm (ev env y) with
      | some (.c (.v v)) => binV P op t (isConstO x || isConstO y) u v
      | _ => .no
    | some (.c (.loc _ _)) => match nrm (ev env y) with
      | some (.c (.v (.pointer none))) => match P.underlying t with
        | some (.pointer _) => match op with
          | .eql => .val (.c (.v (.bool false)))
          | .neq => .val (.c (.v (.bool true)))
          | _ => .no
        | _ => .no
      | _ => .no
    | _ => .no
  | .unOp op _ x => match nrm (ev env x) with
    | some (.c (.v (.bool b))) => match op with
      | .not => .val (.c (.v (.bool (!b))))
      | _ => .no
    | some (.c (.v (.int k n))) => match op with
      | .neg => .ar k (0 - n)
      | _ => .no
    | _ => .no
  | .convert s d x => match ev env x with
    | some (.c (.v (.int _ n))) => match P.underlying s with
      | some _ => match P.underlying d with
        | some (.int k) => .ar k n
        | _ => .no
      | none => .no
    | some (.c (.v (.string b))) => match P.underlying s with
      | some .string => match P.underlying d with
        | some .string => .val (.c (.v (.string b)))
        | _ => .no
      | _ => .no
    | _ => .no
  | .fieldAddr s x f => match P.underlying s with
    | some (.struct fs) => match getL fs.toList f with
      | some fd => match P.info? fd.type with
        | some i => match i.size with
          | 0 => .no
          | _ + 1 => match ev env x with
            | some (.c (.loc l o)) => .val (.c (.loc l (addN o fd.offset)))
            | some (.c (.v (.pointer (some ⟨b, o, none⟩)))) => .val (.c (.v (.pointer (some ⟨b, addN o fd.offset, none⟩))))
            | _ => .no
        | none => .no
      | none => .no
    | _ => .no
  | .field s x f => match P.underlying s with
    | some (.struct fs) => match getL fs.toList f with
      | some fd => match ev env x with
        | some (.agg cs) => match aggOf P fd.type with
          | .one => match getL cs fd.offset with
            | some y => .val (.c y)
            | none => .no
          | .many n => match cutL cs fd.offset n with
            | some ys => .cells ys
            | none => .no
          | .no => .no
        | _ => .no
      | none => .no
    | _ => .no
  | .extract x i => match ev env x with
    | some (.tup vs) => match getL vs i with
      | some (.agg a) => match valsO a.toList with
        | some ys => .cells ys
        | none => .no
      | some (.tuple _) => .no
      | some v => .val (.c (.v v))
      | none => .no
    | _ => .no
  | .makeInterface t x => match P.concrete t with
    | true => match ev env x with
      | some s => match svV bnd s with
        | some v => .val (.c (.v (.iface t v)))
        | none => .no
      | none => .no
    | false => .no
  | .makeFunc fn first cap => match opsV env bnd first.toList with
    | some xs => match opsV env bnd cap.toList with
      | some ys => .val (.c (.v (.func fn xs.toArray ys.toArray)))
      | none => .no
    | none => .no
  | .build t ps => match buildS P env t ps.toList with
    | some zs => .cells zs
    | none => .no
  | .call ⟨.builtin b, args, ts⟩ => match b with
    | .len => match args.toList with
      | [x] => match ts.toList with
        | t :: _ => match P.underlying t with
          | some (.slice _) => match ev env x with
            | some (.c (.v (.slice _ n _))) => .val (.c (.v (.int .i64 n)))
            | some (.c (.locs _ _ n _)) => .val (.c (.v (.int .i64 n)))
            | _ => .no
          | some .string => match ev env x with
            | some (.c (.v (.string s))) => .val (.c (.v (.int .i64 s.size)))
            | _ => .no
          | some (.array n _) => .val (.c (.v (.int .i64 n)))
          | _ => .no
        | _ => .no
      | _ => .no
    | .min => match args.toList with
      | [x, y] => match ev env x with
        | some (.c (.v (.int k u))) => match ev env y with
          | some (.c (.v (.int k' v))) => match kEq k k' with
            | true => .val (.c (.v (.int k (min u v))))
            | false => .no
          | _ => .no
        | _ => .no
      | _ => .no
    | .max => match args.toList with
      | [x, y] => match ev env x with
        | some (.c (.v (.int k u))) => match ev env y with
          | some (.c (.v (.int k' v))) => match kEq k k' with
            | true => .val (.c (.v (.int k (max u v))))
            | false => .no
          | _ => .no
        | _ => .no
      | _ => .no
    | _ => .no
  | _ => .no

section
variable {g : Cx} {β : Nat → Nat} {env : Env} {mem : Mem} {bnd : Bnd} {L : Res} {a : Act} {w : World}

theorem add_plain' (b o n : Nat) : (⟨b, o, none⟩ : Addr).add n = ⟨b, o + n, none⟩ := by
  unfold Addr.add
  by_cases h : n = 0 <;> simp [h]

theorem run_load_one (h : Rel g β env mem bnd L a w) {t l o : Nat} {cs : List Ce} {tt : Nat} {y : Ce} (hl : lookM mem l = some (tt, cs)) (ha : aggOf g.P t = .one) (hy : getL cs o = some y) :
    (loadVar t ⟨β l, o, none⟩).run g.P w = .ok (y.den β) w := by
  rw [getL_eq] at hy
  have hc := h.cell hl o
  rw [hy] at hc
  simp [loadVar, aggOf_one ha, hc]
theorem run_load_many (h : Rel g β env mem bnd L a w) {t l o n : Nat} {cs ys : List Ce} {tt : Nat} (hl : lookM mem l = some (tt, cs)) (ha : aggOf g.P t = .many n) (hy : cutL cs o n = some ys) :
    (loadVar t ⟨β l, o, none⟩).run g.P w = .ok (.agg (cellsOf β ys)) w := by
  obtain ⟨h1, h2⟩ := aggOf_many ha w
  obtain ⟨c1, c2⟩ := cutL_spec cs o n ys hy
  have hl2 : (loadCells ⟨β l, o, none⟩ n).run g.P w = .ok (cellsOf β ys) w := by
    have := run_loadCells_list (P := g.P) w ⟨β l, o, none⟩ (ys.map (Ce.den β)) (fun j v hv => by
      rw [add_plain', h.cell hl]
      rw [List.getElem?_map] at hv
      have hj : j < n := by
        rcases Nat.lt_or_ge j n with hlt | hge
        · exact hlt
        · rw [List.getElem?_eq_none (by omega)] at hv; cases hv
      rw [c2 j hj]
      exact hv)
    simpa [c1, cellsOf] using this
  simp [loadVar, h1, h2, hl2]

theorem run_part_one {t : TypeId} {cs : List Ce} {o : Nat} {y : Ce} (ha : aggOf g.P t = .one) (hy : getL cs o = some y) : (part t (cellsOf β cs) o).run g.P w = .ok (y.den β) w := by
  rw [getL_eq] at hy
  simp [part, aggOf_one ha, getElem?_cellsOf, hy]
theorem run_part_many {t : TypeId} {cs ys : List Ce} {o n : Nat} (ha : aggOf g.P t = .many n) (hy : cutL cs o n = some ys) : (part t (cellsOf β cs) o).run g.P w = .ok (.agg (cellsOf β ys)) w := by
  obtain ⟨h1, h2⟩ := aggOf_many ha w
  obtain ⟨c1, c2⟩ := cutL_spec cs o n ys hy
  have e : (cellsOf β cs).extract o (o + n) = cellsOf β ys := by
    apply Array.ext_getElem?
    intro j
    rw [Array.getElem?_extract, getElem?_cellsOf, getElem?_cellsOf, size_cellsOf]
    by_cases hj : j < n
    · rw [c2 j hj]
      by_cases hm : j < min (o + n) cs.length - o
      · rw [if_pos hm]
      · rw [if_neg hm]
        have := c2 j hj
        rw [List.getElem?_eq_none (by omega)] at this
        rw [← this]
        rfl
    · rw [if_neg (by omega), List.getElem?_eq_none (by omega)]
      rfl
  simp [part, h1, h2, e]

theorem OutOk.cases {P : Program} {s : Sem Next} {o : Out} (h : ∀ w, OutOk P β s w o) : ∀ w, OutOk P β s w o := h

set_option maxHeartbeats 2000000 in
theorem pureOp_ok (h : Rel g β env mem bnd L a w) (o : Oper) : OutOk g.P β (execOp a.eval o) w (pureOp g.P env mem bnd o.op) := by
  obtain ⟨dst, op, ty, pos, after, guard⟩ := o
  cases op <;> try exact trivial
  case move x =>
    simp only [pureOp]
    cases hx : ev env x with
    | none => exact trivial
    | some s => simp [OutOk, execOp, h.ev hx]
  case assign x =>
    simp only [pureOp]
    cases hx : ev env x with
    | none => exact trivial
    | some s => simp [OutOk, execOp, h.ev hx]
  case load t x =>
    simp only [pureOp]
    split <;> try exact trivial
    rename_i l o hx
    have he := h.ev hx
    split <;> try exact trivial
    rename_i tt cs hl
    split <;> try exact trivial
    · rename_i ha
      split <;> try exact trivial
      rename_i y hy
      simp [OutOk, execOp, he, SV.den, Ce.den, Instr.loadAt, Instr.sureAddr, run_load_one h hl ha hy]
    · rename_i n ha
      split <;> try exact trivial
      rename_i ys hy
      have := run_load_many h hl ha hy
      simp [OutOk, execOp, he, SV.den, Ce.den, Instr.loadAt, Instr.sureAddr, this, cellsOf]
  case nilCheck x =>
    simp only [pureOp]
    split <;> try exact trivial
    all_goals
      rename_i hx
      have he := h.ev hx
      simp [OutOk, execOp, he, SV.den, Ce.den]
  case binOp op t x y yt =>
    simp only [pureOp]
    split <;> try exact trivial
    · rename_i u hx
      split <;> try exact trivial
      rename_i v hy
      have := binV_ok (P := g.P) (op := op) (t := t) (xo := x) (yo := y) (x := u) (y := v) β w
      have ex := h.evn hx
      have ey := h.evn hy
      simp only [SV.den, Ce.den] at ex ey
      simpa only [execOp, ex, ey] using this
    · rename_i l o hx
      split <;> try exact trivial
      rename_i hy
      split <;> try exact trivial
      rename_i e hu
      have ex := h.evn hx
      have ey := h.evn hy
      simp only [SV.den, Ce.den] at ex ey
      have hg : ∀ op, eqGuard op t x y (.pointer (some ⟨β l, o, none⟩)) (.pointer none) = pure () := fun op => eqGuard_other _ _ _ _ _ _ rfl
      split <;> try exact trivial
      · have hb : (binOp .eql t (.pointer (some ⟨β l, o, none⟩)) (.pointer none)).run g.P w = .ok (.bool false) w := by simp [binOp, equal_ptr hu]
        simp only [OutOk, execOp, ex, ey]
        exact bin_run (hg .eql) hb
      · have hb : (binOp .neq t (.pointer (some ⟨β l, o, none⟩)) (.pointer none)).run g.P w = .ok (.bool true) w := by simp [binOp, equal_ptr hu]
        simp only [OutOk, execOp, ex, ey]
        exact bin_run (hg .neq) hb
  case unOp op t x =>
    simp only [pureOp]
    split <;> try exact trivial
    · rename_i b hx
      split <;> try exact trivial
      have he := h.evn hx
      simp [OutOk, execOp, he, SV.den, Ce.den, Op.unary]
    · rename_i k n hx
      split <;> try exact trivial
      have he := h.evn hx
      simp [OutOk, execOp, he, SV.den, Ce.den, Op.unary, Op.intArith]
  case convert s d x =>
    simp only [pureOp]
    split <;> try exact trivial
    · rename_i k n hx
      split <;> try exact trivial
      rename_i ds hs
      split <;> try exact trivial
      rename_i k' hd
      have he := h.ev hx
      cases ds <;> simp [OutOk, execOp, he, SV.den, Ce.den, convert, run_underlying hs, run_underlying hd, Conv.intToInt]
    · rename_i b hx
      split <;> try exact trivial
      rename_i hs
      split <;> try exact trivial
      rename_i hd
      have he := h.ev hx
      simp [OutOk, execOp, he, SV.den, Ce.den, convert, run_underlying hs, run_underlying hd]
  case fieldAddr s x f =>
    simp only [pureOp]
    split <;> try exact trivial
    rename_i fs hs
    split <;> try exact trivial
    rename_i fd hf
    split <;> try exact trivial
    rename_i i hi
    split <;> try exact trivial
    rename_i n hn
    rw [getL_eq, Array.getElem?_toList] at hf
    have hsz : (sizeOf fd.type).run g.P w = .ok (n + 1) w := by simp [sizeOf, typeInfo, hi, hn]
    split <;> try exact trivial
    · rename_i l o hx
      have he := h.ev hx
      simp [OutOk, execOp, he, SV.den, Ce.den, Instr.fieldAt, Instr.sureAddr, run_underlying hs, hf, fieldPlace, hsz, add_plain', addN_eq]
    · rename_i b o hx
      have he := h.ev hx
      simp [OutOk, execOp, he, SV.den, Ce.den, Instr.fieldAt, Instr.sureAddr, run_underlying hs, hf, fieldPlace, hsz, add_plain', addN_eq]
  case field s x f =>
    simp only [pureOp]
    split <;> try exact trivial
    rename_i fs hs
    split <;> try exact trivial
    rename_i fd hf
    rw [getL_eq, Array.getElem?_toList] at hf
    split <;> try exact trivial
    rename_i cs hx
    have he := h.ev hx
    have he' : a.eval x = .agg (cellsOf β cs) := he
    split <;> try exact trivial
    · rename_i ha
      split <;> try exact trivial
      rename_i y hy
      simp [OutOk, execOp, he', SV.den, Instr.field, run_underlying hs, hf, asAgg, run_part_one ha hy]
    · rename_i n ha
      split <;> try exact trivial
      rename_i ys hy
      have hp := run_part_many (w := w) (β := β) ha hy
      simp only [cellsOf] at hp he'
      simp [OutOk, execOp, he', SV.den, Instr.field, run_underlying hs, hf, asAgg, hp]
  case extract x i =>
    simp only [pureOp]
    split <;> try exact trivial
    rename_i vs hx
    have he := h.ev hx
    have e : (Ce.den β ∘ Ce.v) = id := rfl
    split <;> try exact trivial
    · rename_i b hg
      rw [valsO_eq]
      rw [getL_eq] at hg
      simp [OutOk, execOp, he, SV.den, Instr.extract, hg, e]
    · rename_i v _ _ hg
      rw [getL_eq] at hg
      simp [OutOk, execOp, he, SV.den, Ce.den, Instr.extract, hg]
  case makeInterface t x =>
    simp only [pureOp]
    split <;> try exact trivial
    rename_i hc
    split <;> try exact trivial
    rename_i s hx
    split <;> try exact trivial
    rename_i v hv
    have he := h.ev hx
    rw [svV_den h.bnd hv] at he
    simp [OutOk, execOp, he, SV.den, Ce.den, run_makeInterface w t v hc]
  case makeFunc fn first cap =>
    simp only [pureOp]
    split <;> try exact trivial
    rename_i xs hx
    split <;> try exact trivial
    rename_i ys hy
    have h1 := opsV_eval h hx
    have h2 := opsV_eval h hy
    have e1 : first.map a.eval = xs.toArray := by apply Array.ext'; simpa using h1
    have e2 : cap.map a.eval = ys.toArray := by apply Array.ext'; simpa using h2
    simp [OutOk, execOp, SV.den, Ce.den, Instr.makeFunc, e1, e2]
  case build t ps =>
    simp only [pureOp]
    split <;> try exact trivial
    rename_i zs hz
    have := buildS_ok h hz
    simp [OutOk, execOp, SV.den, this, cellsOf]
  case call c =>
    obtain ⟨callee, args, ts⟩ := c
    cases callee <;> try exact trivial
    rename_i b
    cases b <;> try exact trivial
    case len =>
      simp only [pureOp]
      split <;> try exact trivial
      rename_i x hargs
      split <;> try exact trivial
      rename_i t tr hts
      have ea : args = #[x] := by rw [← Array.toArray_toList (xs := args), hargs]
      have et : ts[0]? = some t := by rw [← Array.getElem?_toList, hts]; rfl
      subst ea
      split <;> try exact trivial
      · rename_i e hu
        split <;> try exact trivial
        · rename_i hx
          have he := h.ev hx
          simp [OutOk, execOp, resolve, invoke, builtin, Builtin.len_, he, et, run_underlying hu, SV.den, Ce.den, goInt]
        · rename_i hx
          have he := h.ev hx
          simp [OutOk, execOp, resolve, invoke, builtin, Builtin.len_, he, et, run_underlying hu, SV.den, Ce.den, goInt]
      · rename_i hu
        split <;> try exact trivial
        rename_i hx
        have he := h.ev hx
        simp [OutOk, execOp, resolve, invoke, builtin, Builtin.len_, he, et, run_underlying hu, SV.den, Ce.den, goInt]
      · rename_i n e hu
        simp [OutOk, execOp, resolve, invoke, builtin, Builtin.len_, et, run_underlying hu, SV.den, Ce.den, goInt]
    case min =>
      simp only [pureOp]
      split <;> try exact trivial
      rename_i x y hargs
      have ea : args = #[x, y] := by rw [← Array.toArray_toList (xs := args), hargs]
      subst ea
      split <;> try exact trivial
      rename_i k u hx
      split <;> try exact trivial
      rename_i k' v hy
      split <;> try exact trivial
      rename_i hk
      obtain rfl := kEq_eq hk
      have e : (if v < u then v else u) = min u v := by simp only [Int.min_def]; split <;> split <;> omega
      simp [OutOk, execOp, resolve, invoke, builtin, h.ev hx, h.ev hy, SV.den, Ce.den, run_min_int2, e]
    case max =>
      simp only [pureOp]
      split <;> try exact trivial
      rename_i x y hargs
      have ea : args = #[x, y] := by rw [← Array.toArray_toList (xs := args), hargs]
      subst ea
      split <;> try exact trivial
      rename_i k u hx
      split <;> try exact trivial
      rename_i k' v hy
      split <;> try exact trivial
      rename_i hk
      obtain rfl := kEq_eq hk
      have e : (if u < v then v else u) = max u v := by simp only [Int.max_def]; split <;> split <;> omega
      simp [OutOk, execOp, resolve, invoke, builtin, h.ev hx, h.ev hy, SV.den, Ce.den, run_max_int2, e]
end
end Go.Proofs.Ytngfadijcpnblaa
