/- The evaluator 'gx' of code, calls and all. -/
import Derived.Test.YtngfadijcpnblaaGxq
namespace Go.Proofs.Ytngfadijcpnblaa
open Go.RowKit

theorem effX_step {g : Cx} {β : Nat → Nat} {s s' : GS} {L : Res} {a : Act} {w : World} {o : Oper} (hr : RelG g β s L a w) (hb : Bd s) (h : effX g.P g.n s o = some s') : StepEx g β s s' L a w o := by
  unfold effX at h
  split at h <;> try (cases h; done)
  rename_i hd
  split at h <;> try (cases h; done)
  · -- pick
    rename_i c x y hop
    split at h <;> try (cases h; done)
    rename_i b hc
    have ecb : a.eval c = .bool b := nrm_evn hr hc
    split at h <;> try (cases h; done)
    rename_i u hu
    split at h <;> cases h
    rename_i env hp
    have eu := hr.ev hu
    refine ⟨β, a.put o.dst (u.den β), w, agree.refl _ _, hr.putE hd hp, fun N Q hn => wp_value ?_ hn⟩
    cases b <;> simp only at eu <;> simp [execOp, hop, ecb, asBool, eu]
  · -- alloc
    rename_i t hop
    split at h <;> try (cases h; done)
    rename_i cs hz
    obtain ⟨z, hzr, hzc⟩ := zeroS_den hz w
    exact newL_step (v := .pointer (some ⟨w.heap.size, 0, none⟩)) hr hb hd (zeroS_lt hz) h (by simp [execOp, hop, Instr.alloc, hzr, newVar, newRow, hzc β]) (by simp [SV.den, Ce.den, upd_self])
  · -- box
    rename_i t x hop
    split at h <;> try (cases h; done)
    rename_i u hu
    split at h <;> try (cases h; done)
    rename_i cs hcs
    refine newL_step (v := .pointer (some ⟨w.heap.size, 0, none⟩)) hr hb hd (cellsS_lt (ev_lt hb.env hu) hcs) h ?_ (by simp [SV.den, Ce.den, upd_self])
    simp only [execOp, hop, hr.ev hu, Instr.box, newVar, newRow, cellsS_den hcs β, Sem.run_bind, run_newObj, Sem.run_pure, Result.andThen_ok, World.alloc_eq]
  · -- buildSlice
    rename_i t m ps hop
    split at h <;> try (cases h; done)
    rename_i e hu
    split at h <;> try (cases h; done)
    rename_i cs hcs
    have := rowS_ok hr hu hcs
    exact newL_step (v := .slice (some ⟨w.heap.size, 0, none⟩) m m) hr hb hd (rowS_lt hb.env hcs) h (by simp [execOp, hop, this]) (by simp [SV.den, Ce.den, upd_self])
  · -- makeSlice
    rename_i t l c hop
    split at h <;> try (cases h; done)
    rename_i e hu
    split at h <;> try (cases h; done)
    rename_i kl ln hl
    split at h <;> try (cases h; done)
    rename_i kc cn hc
    split at h <;> try (cases h; done)
    rename_i i hi
    split at h <;> try (cases h; done)
    rename_i zv hzv
    split at h <;> try (cases h; done)
    rename_i z hz
    split at h <;> try (cases h; done)
    rename_i h1
    split at h <;> try (cases h; done)
    rename_i h2
    split at h <;> try (cases h; done)
    rename_i h3
    split at h <;> try (cases h; done)
    rename_i h4
    split at h <;> try (cases h; done)
    rename_i h5
    split at h <;> try (cases h; done)
    rename_i cs hr'
    rw [repS_eq] at hr'
    cases hr'
    have e1 : z.length = i.size := by simpa using h1
    have e2 : 0 < i.size := by simpa [Nat.blt_eq] using h2
    have e3 : ln ≤ cn := by simpa using h3
    have e4 : i.bytes * cn ≤ 281474976710656 := by simpa using h4
    have e5 : cn ≤ 9223372036854775807 := by simpa using h5
    have el : a.eval l = .int kl (Int.ofNat ln) := nrm_evn hr hl
    have ec : a.eval c = .int kc (Int.ofNat cn) := nrm_evn hr hc
    obtain ⟨z2, hzr, hzc⟩ := zeroS_den hz w
    have hz2 : z2 = zv := by
      have : (zeroValue e).run g.P w = .ok zv w := by simp [zeroValue, typeInfo, hi, hzv]
      rw [this] at hzr
      cases hzr
      rfl
    subst hz2
    have hrun := run_makeSlice' (P := g.P) (w := w) hu hi hzv kl kc ln cn e3 e4 e5
    have hm : madeCells z2.cells (cn * i.size) = cellsOf β (List.replicate cn z).flatten := made_eq (P := g.P) (e := e) (hzc β) e1 e2
    rw [hm] at hrun
    refine newL_step (v := .slice (some ⟨w.heap.size, 0, none⟩) ln cn) hr hb hd (fun x hx => ?_) h ?_ (by simp [SV.den, Ce.den, upd_self])
    · obtain ⟨l', hl', hx2⟩ := List.mem_flatten.1 hx
      obtain rfl := List.eq_of_mem_replicate hl'
      exact zeroS_lt hz x hx2
    · simp only [execOp, hop, el, ec, Sem.run_bind, hrun, Result.andThen_ok, Sem.run_pure]
  · -- store
    rename_i t x y hop
    split at h <;> try (cases h; done)
    rename_i l off hx
    split at h <;> try (cases h; done)
    rename_i u hu
    split at h <;> try (cases h; done)
    rename_i ys hys
    split at h <;> try (cases h; done)
    rename_i i hi
    split at h <;> try (cases h; done)
    rename_i hsz
    split at h <;> try (cases h; done)
    rename_i hpl
    have ex : a.eval x = .pointer (some ⟨β l, off, none⟩) := hr.ev hx
    have ey := hr.ev hu
    split at h
    · rename_i tt cs hl
      split at h <;> try (cases h; done)
      rename_i hfit
      split at h <;> try (cases h; done)
      rename_i zs hz
      split at h <;> try (cases h; done)
      rename_i mem' hm
      split at h <;> cases h
      rename_i env hp
      rw [setMo_eq] at hm
      cases hm
      obtain ⟨w', hrun, hR⟩ := store_ok hr hl (cellsS_den hys β) hi (by simpa using hsz) (by simpa using hfit) hpl hz
      refine ⟨β, a.put o.dst undef, w', agree.refl _ _, ?_, fun N Q hn => wp_skip' (w' := w') ?_ hn⟩
      · exact Rel.putO (x := .c (.v undef)) hR hd hp
      · simp only [execOp, hop, ex, ey, Sem.run_bind, hrun, Result.andThen_ok, Sem.run_pure]
    · split at h <;> try (cases h; done)
      rename_i e nn sz cs hl
      split at h <;> try (cases h; done)
      rename_i hfit
      split at h <;> try (cases h; done)
      rename_i zs hz
      split at h <;> try (cases h; done)
      rename_i gm' hm
      split at h <;> cases h
      rename_i env hp
      obtain ⟨w', hrun, hR⟩ := gr_store hr hl (cellsS_den hys β) hi (by simpa using hsz) (by simpa using hfit) hpl hz hm
      refine ⟨β, a.put o.dst undef, w', agree.refl _ _, ?_, fun N Q hn => wp_skip' (w' := w') ?_ hn⟩
      · exact Rel.putO (x := .c (.v undef)) hR hd hp
      · simp only [execOp, hop, ex, ey, Sem.run_bind, hrun, Result.andThen_ok, Sem.run_pure]
  · -- append
    rename_i args ts hop
    split at h <;> try (cases h; done)
    rename_i x y hargs
    split at h <;> try (cases h; done)
    rename_i t t' hts
    split at h <;> try (cases h; done)
    rename_i ht
    obtain rfl : t = t' := Nat.eq_of_beq_eq_true ht
    split at h <;> try (cases h; done)
    rename_i u hu
    split at h <;> try (cases h; done)
    rename_i v hv
    have ea : args = #[x, y] := by apply Array.ext'; simpa using hargs
    have et : ts = #[t, t] := by apply Array.ext'; simpa using hts
    subst ea
    subst et
    exact appE_step hr hb hd hop hu hv h

/-! ### Code -/
inductive GC where
  | run (k : List Item)
  | ops (all : Array Oper) (rest : List Oper) (k : List Item)
  /-- A region whose order is drawn: what is listed; what was there as it began; is that so still? -/
  | dr (all : Array Oper) (listed : Array Bool) (m0 : Mem) (g0 : GMem) (n0 : Nat) (hold : Bool)
  /-- .. these may come next. -/
  | al (cands : List Nat) (all : Array Oper) (listed : Array Bool) (m0 : Mem) (g0 : GMem) (n0 : Nat) (hold : Bool)
  /-- One operation of it that acts. -/
  | ef (all : Array Oper) (i : Nat)
structure GR where
  s : GS
  v : SV
  plan : PT
  marks : Marks
def mkP : Bool → Nat → PT → PT
  | false, i, r => .pure i r
  | true, i, r => .held i r

/-- Arguments as slots. -/
def argG : Nat → List SV → Env
  | _, [] => []
  | k, v :: r => (k, v) :: argG (k + 1) r
def evs (env : Env) : List Operand → Option (List SV)
  | [] => some []
  | x :: r => match nrm (ev env x) with
    | some s => match evs env r with
      | some t => some (s :: t)
      | none => none
    | none => none
def ofVs : List Value → List SV
  | [] => []
  | v :: r => ofV v :: ofVs r
def appV {α : Type} : List α → List α → Option (List α)
  | [], r => some r
  | x :: z, r => match appV z r with
    | some q => some (x :: q)
    | none => none
/-- Which function is called, with which arguments. -/
def calleeG (P : Program) (env : Env) (o : Oper) : Option (Nat × List SV) :=
  match o.op with
  | .call ⟨.value x, as, _⟩ => match ev env x with
    | some (.c (.v (.func (.func f) first cap))) => match evs env as.toList with
      | some vs => match appV vs (ofVs cap.toList) with
        | some ws => match appV (ofVs first.toList) ws with
          | some us => some (f, us)
          | none => none
        | none => none
      | none => none
    | _ => none
  | .call ⟨.invoke r name, as, _⟩ => match ev env r with
    | some u => match (match u with
        | .c (.ifl t l o) => some (t, SV.c (.loc l o))
        | .c (.v (.iface t v)) => some (t, ofV v)
        | _ => none) with
      | some (t, rv) => match P.info? t with
        | some i => match i.methods.find? (·.name == name) with
          | some m => match m.path.toList with
            | [] => match m.func with
              | some (f, ptr) => match P.underlying t, ptr with
                | some (.pointer _), true => match evs env as.toList with
                  | some vs => some (f, rv :: vs)
                  | none => none
                | some (.pointer _), false => none
                | some _, false => match evs env as.toList with
                  | some vs => some (f, rv :: vs)
                  | none => none
                | _, _ => none
              | none => none
            | _ :: _ => none
          | none => none
        | none => none
      | none => none
    | none => none
  | _ => none
/-- Results as one value. -/
def retG (P : Program) (env : Env) (mem : Mem) : List ResultVar → Option (List SV)
  | [] => some []
  | .tmp t :: r => match look env t with
    | some s => match retG P env mem r with
      | some ss => some (s :: ss)
      | none => none
    | none => none
  | .cell x t :: r => match look env x with
    | some (.c (.loc l o)) => match lookM mem l with
      | some (_, cs) => match aggOf P t with
        | .one => match getL cs o with
          | some y => match retG P env mem r with
            | some ss => some (.c y :: ss)
            | none => none
          | none => none
        | .many n => match cutL cs o n with
          | some ys => match retG P env mem r with
            | some ss => some (.agg ys :: ss)
            | none => none
          | none => none
        | .no => none
      | none => none
    | _ => none
def tupG : List SV → Option (List (Bool × List Ce))
  | [] => some []
  | s :: r => match tOf s with
    | some p => match tupG r with
      | some ps => some (p :: ps)
      | none => none
    | none => none
def oneG : List SV → Option SV
  | [s] => some s
  | ss => match tupG ss with
    | some ps => some (.tps ps)
    | none => none

/-- Is it wanted? What is decided counts, in either form. -/
def guardG (ops : List Oper) (env : Env) (o : Oper) : Gd :=
  match o.guard with
  | none => .yes
  | some (j, want) => match getL ops j with
    | some oj => match oj.dst with
      | some d => match look env d with
        | some (.kb true) => match want with
          | true => .yes
          | false => .no
        | some (.kb false) => match want with
          | true => .no
          | false => .yes
        | some (.c (.v (.bool true))) => match want with
          | true => .yes
          | false => .no
        | some (.c (.v (.bool false))) => match want with
          | true => .no
          | false => .yes
        | some (.c (.v (.tuple _))) => .no
        | _ => .st
      | none => .st
    | none => .st
theorem guardG_yes {g : Cx} {env : Env} {mem : Mem} {β : Nat → Nat} {bnd : Bnd} {L : Res} {a : Act} {w : World} (hr : Rel g β env mem bnd L a w) {ops : Array Oper} {o : Oper} (h : guardG ops.toList env o = .yes) : Region.wanted o (yielded ops a.tmps) = true := by
  unfold guardG at h
  split at h
  · rename_i hg; simp [Region.wanted, hg]
  · rename_i j want hg
    split at h <;> try (cases h; done)
    rename_i oj hj
    split at h <;> try (cases h; done)
    rename_i d hd
    split at h <;> try (cases h; done)
    all_goals
      rename_i hl
      have hy := yielded_of hr hj hd hl
      split at h <;> first | (cases h; done) | simp [Region.wanted, hg, hy, SV.den, Ce.den]
theorem guardG_no {g : Cx} {env : Env} {mem : Mem} {β : Nat → Nat} {bnd : Bnd} {L : Res} {a : Act} {w : World} (hr : Rel g β env mem bnd L a w) {ops : Array Oper} {o : Oper} (h : guardG ops.toList env o = .no) : Region.wanted o (yielded ops a.tmps) = false := by
  unfold guardG at h
  split at h
  · cases h
  · rename_i j want hg
    split at h <;> try (cases h; done)
    rename_i oj hj
    split at h <;> try (cases h; done)
    rename_i d hd
    split at h <;> try (cases h; done)
    · rename_i hl
      have hy := yielded_of hr hj hd hl
      split at h <;> first | (cases h; done) | simp [Region.wanted, hg, hy, SV.den, Ce.den]
    · rename_i hl
      have hy := yielded_of hr hj hd hl
      split at h <;> first | (cases h; done) | simp [Region.wanted, hg, hy, SV.den, Ce.den]
    · rename_i hl
      have hy := yielded_of hr hj hd hl
      split at h <;> first | (cases h; done) | simp [Region.wanted, hg, hy, SV.den, Ce.den]
    · rename_i hl
      have hy := yielded_of hr hj hd hl
      split at h <;> first | (cases h; done) | simp [Region.wanted, hg, hy, SV.den, Ce.den]
    · rename_i hl
      have hy := yielded_of hr hj hd hl
      simp [Region.wanted, hg, hy, SV.den, Ce.den]

/-- The value that it comes to. -/
def outV (o : Out) : Option SV :=
  match o with
  | .val x => some x
  | .cells cs => some (.agg cs)
  | .ar k m => some (.c (.v (.int k (k.wrap m))))
  | .no => none
/-- The first of those ready that only looks: with the state behind it, and how it is met. -/
def lookR (P : Program) (n : Nat) (all : Array Oper) (env : Env) (m0 : Mem) (g0 : GMem) (hold : Bool) : List Nat → Option (Bool × Env × Nat)
  | [] => none
  | i :: r => match getL all.toList i with
    | some o => match dstOk n o.dst with
      | true => match guardG all.toList env o with
        | .no => match putO o.dst (.c (.v undef)) env with
          | some env' => some (false, env', i)
          | none => none
        | .br _ _ => none
        | .st => none
        | .yes => match outV (pureX P env [] [] o.op) with
          | some x => match putO o.dst x env with
            | some env' => some (false, env', i)
            | none => none
          | none => match hold with
            | false => lookR P n all env m0 g0 hold r
            | true => match outV (pureX P env m0 g0 o.op) with
              | some x => match putO o.dst x env with
                | some env' => some (true, env', i)
                | none => none
              | none => lookR P n all env m0 g0 hold r
      | false => none
    | none => none

/-- So many steps. exA: what functions without a body come to. -/
def gx (P : Program) (exA : Nat → List SV → Option SV) : Nat → Func → GS → GC → Option GR
  | 0, _, _, _ => none
  | m + 1, fn, s, .run k => match k with
    | .code .skip :: k => gx P exA m fn s (.run k)
    | .code (.label _) :: k => gx P exA m fn s (.run k)
    | .inBlock _ :: k => gx P exA m fn s (.run k)
    | .inScope _ :: k => gx P exA m fn s (.run k)
    | .code (.seq x y) :: k => gx P exA m fn s (.run (.code x :: .code y :: k))
    | .code (.block i x) :: k => gx P exA m fn s (.run (.code x :: .inBlock i :: k))
    | .code (.scope x) :: k => gx P exA m fn s (.run (.code x :: .inScope x :: k))
    | .code (.loop x) :: k => gx P exA m fn s (.run (.code x :: .inLoop x :: k))
    | .inLoop x :: k => gx P exA m fn s (.run (.code x :: .inLoop x :: k))
    | .code (.exit i) :: k => match exitTo i k with
      | some k' => gx P exA m fn s (.run k')
      | none => none
    | .code (.cond c x y) :: k => match nrm (ev s.env c) with
      | some (.c (.v (.bool true))) => gx P exA m fn s (.run (.code x :: k))
      | some (.c (.v (.bool false))) => gx P exA m fn s (.run (.code y :: k))
      | _ => none
    | .code (.region _ ops false) :: k => gx P exA m fn s (.ops ops ops.toList k)
    | .code (.region _ ops true) :: k => match gx P exA m fn s (.dr ops (Array.replicate ops.size false) s.mem s.gm s.nl true) with
      | some r => match planOkT ops (isLateT r.plan) r.plan false ops.size (Array.replicate ops.size false) with
        | true => match Region.noSelect ops with
          | true => gx P exA m fn r.s (.run k)
          | false => none
        | false => none
      | none => none
    | .code .ret :: _ => match retG P s.env s.mem fn.results.toList with
      | some vs => match oneG vs with
        | some v => some ⟨s, v, .nil, []⟩
        | none => none
      | none => none
    | [] => match retG P s.env s.mem fn.results.toList with
      | some vs => match oneG vs with
        | some v => some ⟨s, v, .nil, []⟩
        | none => none
      | none => none
    | _ => none
  | m + 1, fn, s, .ops all rest k => match rest with
    | [] => gx P exA m fn s (.run k)
    | o :: rest => match guardG all.toList s.env o with
      | .no => match dstOk fn.ntmps o.dst with
        | true => match putO o.dst (.c (.v undef)) s.env with
          | some env => gx P exA m fn { s with env := env } (.ops all rest k)
          | none => none
        | false => none
      | .yes => match outV (pureX P s.env s.mem s.gm o.op) with
        | some x => match dstOk fn.ntmps o.dst with
          | true => match putO o.dst x s.env with
            | some env => gx P exA m fn { s with env := env } (.ops all rest k)
            | none => none
          | false => none
        | none => match effX P fn.ntmps s o with
          | some s' => gx P exA m fn s' (.ops all rest k)
          | none => match calleeG P s.env o with
            | some (f, vs) => match dstOk fn.ntmps o.dst with
              | true => match exA f vs with
                | some x => match putO o.dst x s.env with
                  | some env => gx P exA m fn { s with env := env } (.ops all rest k)
                  | none => none
                | none => match P.funcs[f]? with
                  | some fn' => match fn'.body with
                    | some c => match Nat.ble vs.length fn'.ntmps with
                      | true => match gx P exA m fn' ⟨argG 0 vs, s.mem, s.gm, s.nl, s.nl⟩ (.run [.code c]) with
                        | some r => match putO o.dst r.v s.env with
                          | some env => gx P exA m fn ⟨env, r.s.mem, r.s.gm, r.s.nl, minN s.low r.s.low⟩ (.ops all rest k)
                          | none => none
                        | none => none
                      | false => none
                    | none => none
                  | none => none
              | false => none
            | none => none
      | _ => none
  | m + 1, fn, s, .dr all listed m0 g0 n0 hold => match Region.ready .any all listed with
    | [] => some ⟨s, .kb true, .nil, []⟩
    | rd => match lookR P fn.ntmps all s.env m0 g0 hold rd with
      | some (b, env, i) => match gx P exA m fn { s with env := env } (.dr all (listed.setIfInBounds i true) m0 g0 n0 hold) with
        | some r => some { r with plan := mkP b i r.plan }
        | none => none
      | none => gx P exA m fn s (.al rd all listed m0 g0 n0 hold)
  | m + 1, fn, s, .al cands all listed m0 g0 n0 hold => match cands with
    | [] => none
    | i :: cs => match gx P exA m fn { s with low := s.nl } (.ef all i) with
      | some e => match gx P exA m fn { e.s with low := minN s.low e.s.low } (.dr all (listed.setIfInBounds i true) m0 g0 n0 (match Nat.ble n0 e.s.low with | true => hold | false => false)) with
        | some r => match cs with
          | [] => some { r with plan := .alt i (match Nat.ble n0 e.s.low with | true => hold | false => false) r.plan .nil, marks := (i, s.nl, e.s.nl) :: r.marks }
          | _ :: _ => match gx P exA m fn s (.al cs all listed m0 g0 n0 hold) with
            | some q => match sameS (ren s.nl ((i, s.nl, e.s.nl) :: r.marks) q.marks) r.s q.s with
              | true => some { r with plan := .alt i (match Nat.ble n0 e.s.low with | true => hold | false => false) r.plan q.plan, marks := (i, s.nl, e.s.nl) :: r.marks }
              | false => none
            | none => none
        | none => none
      | none => none
  | m + 1, fn, s, .ef all i => match getL all.toList i with
    | some o => match guardG all.toList s.env o with
      | .yes => match effX P fn.ntmps s o with
        | some s' => some ⟨s', .kb true, .nil, []⟩
        | none => match calleeG P s.env o with
          | some (f, vs) => match dstOk fn.ntmps o.dst with
            | true => match P.funcs[f]? with
              | some fn' => match fn'.body with
                | some c => match Nat.ble vs.length fn'.ntmps with
                  | true => match gx P exA m fn' ⟨argG 0 vs, s.mem, s.gm, s.nl, s.nl⟩ (.run [.code c]) with
                    | some r => match putO o.dst r.v s.env with
                      | some env => some ⟨⟨env, r.s.mem, r.s.gm, r.s.nl, minN s.low r.s.low⟩, .kb true, .nil, []⟩
                      | none => none
                    | none => none
                  | false => none
                | none => none
              | none => none
            | false => none
          | none => none
      | _ => none
    | none => none
end Go.Proofs.Ytngfadijcpnblaa
