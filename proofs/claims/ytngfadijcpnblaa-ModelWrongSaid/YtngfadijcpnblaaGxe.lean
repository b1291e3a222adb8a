/- The evaluator: labels stay bounded. -/
import Derived.Test.YtngfadijcpnblaaGxd
namespace Go.Proofs.Ytngfadijcpnblaa
open Go.RowKit

def OutLt (n : Nat) : Out → Prop
  | .val x => x.lt n
  | .cells cs => ∀ x ∈ cs, x.lt n
  | _ => True
theorem vs_lt (n : Nat) (l : List Value) : ∀ x ∈ l.map Ce.v, x.lt n := by
  intro x hx
  obtain ⟨y, _, rfl⟩ := List.mem_map.1 hx
  trivial
theorem ev_lt {n : Nat} {env : Env} (h : ltE n env) {x : Operand} {s : SV} (hx : ev env x = some s) : s.lt n := by
  cases x with
  | tmp t => exact h t s hx
  | const v =>
    cases v <;> simp only [ev, Option.some.injEq] at hx <;> subst hx <;> first | trivial | exact vs_lt _ _
  | global b => simp only [ev, Option.some.injEq] at hx; subst hx; trivial
  | func f => simp only [ev, Option.some.injEq] at hx; subst hx; trivial
theorem nrm_lt {n : Nat} {env : Env} (h : ltE n env) {x : Operand} {s : SV} (hx : nrm (ev env x) = some s) : s.lt n := by
  cases hy : ev env x with
  | none => rw [hy] at hx; cases hx
  | some y =>
    rw [hy] at hx
    have := ev_lt h hy
    cases y <;> simp only [nrm, Option.some.injEq] at hx <;> subst hx <;> first | trivial | exact this
theorem getL_mem {α : Type} {l : List α} {k : Nat} {x : α} (h : getL l k = some x) : x ∈ l := by
  rw [getL_eq] at h
  exact List.mem_of_getElem? h
theorem cutL_mem {α : Type} {l : List α} {o n : Nat} {ys : List α} (h : cutL l o n = some ys) : ∀ x ∈ ys, x ∈ l := by
  intro x hx
  obtain ⟨c1, c2⟩ := cutL_spec l o n ys h
  obtain ⟨j, hj⟩ := List.getElem?_of_mem hx
  have hlt : j < n := by
    have := (List.getElem?_eq_some_iff.1 hj).1
    omega
  exact List.mem_of_getElem? ((c2 j hlt).trans hj)
theorem setsO_mem {cs ys zs : List Ce} {k : Nat} (h : fillS.setsO cs k ys = some zs) : ∀ z ∈ zs, z ∈ cs ∨ z ∈ ys := by
  intro z hz
  obtain ⟨h1, h2⟩ := setsO_spec cs k ys zs h
  obtain ⟨j, hj⟩ := List.getElem?_of_mem hz
  rw [h2] at hj
  split at hj
  · exact .inr (List.mem_of_getElem? hj)
  · exact .inl (List.mem_of_getElem? hj)
theorem cellsS_lt {n : Nat} {s : SV} {ys : List Ce} (h : s.lt n) (hy : cellsS s = some ys) : ∀ y ∈ ys, y.lt n := by
  cases s with
  | agg cs => simp only [cellsS, Option.some.injEq] at hy; subst hy; exact h
  | tup x => simp [cellsS] at hy
  | tps x => simp [cellsS] at hy
  | kb b =>
    simp only [cellsS, Option.some.injEq] at hy
    subst hy
    intro y hm
    simp only [List.mem_singleton] at hm
    subst hm
    trivial
  | c x =>
    simp only [cellsS] at hy
    split at hy <;> cases hy
    intro y hm
    simp only [List.mem_singleton] at hm
    subst hm
    exact h
theorem fillS_lt {n : Nat} {env : Env} (h : ltE n env) (place : Nat → Option (Nat × Nat)) : ∀ (ps : List (Nat × Operand)) (cs zs : List Ce), (∀ x ∈ cs, x.lt n) → fillS place env cs ps = some zs → ∀ z ∈ zs, z.lt n
  | [], cs, zs, hc, hf => by simp only [fillS, Option.some.injEq] at hf; subst hf; exact hc
  | (i, x) :: r, cs, zs, hc, hf => by
    simp only [fillS] at hf
    split at hf <;> try (cases hf; done)
    split at hf <;> try (cases hf; done)
    rename_i s hs
    split at hf <;> try (cases hf; done)
    rename_i ys hys
    split at hf <;> try (cases hf; done)
    split at hf <;> try (cases hf; done)
    split at hf <;> try (cases hf; done)
    rename_i cs' hcs
    refine fillS_lt h place r cs' zs (fun z hz => ?_) hf
    rcases setsO_mem hcs z hz with hz | hz
    · exact hc z hz
    · exact cellsS_lt (ev_lt h hs) hys z hz
theorem valsO_lt {n : Nat} {l : List Value} {cs : List Ce} (h : valsO l = some cs) : ∀ x ∈ cs, x.lt n := by
  rw [valsO_eq] at h
  cases h
  exact vs_lt _ _
theorem zeroS_lt {P : Program} {t n : Nat} {cs : List Ce} (h : zeroS P t = some cs) : ∀ x ∈ cs, x.lt n := by
  unfold zeroS at h
  split at h <;> try (cases h; done)
  split at h <;> try (cases h; done)
  split at h <;> try (cases h; done)
  · exact valsO_lt h
  · cases h
    intro x hx
    simp only [List.mem_singleton] at hx
    subst hx
    trivial
theorem buildS_lt {P : Program} {n t : Nat} {env : Env} (h : ltE n env) {ps : List (Nat × Operand)} {zs : List Ce} (hb : buildS P env t ps = some zs) : ∀ z ∈ zs, z.lt n := by
  unfold buildS at hb
  split at hb <;> try (cases hb; done)
  rename_i z hz
  split at hb <;> try (cases hb; done)
  · split at hb <;> try (cases hb; done)
    exact fillS_lt h _ _ _ _ (zeroS_lt hz) hb
  · split at hb <;> try (cases hb; done)
    exact fillS_lt h _ _ _ _ (zeroS_lt hz) hb
theorem rowS_lt {P : Program} {n e m : Nat} {env : Env} (h : ltE n env) {ps : List (Nat × Operand)} {cs : List Ce} (hr : rowS P env e m ps = some cs) : ∀ z ∈ cs, z.lt n := by
  unfold rowS at hr
  split at hr <;> try (cases hr; done)
  split at hr <;> try (cases hr; done)
  rename_i z hz
  split at hr <;> try (cases hr; done)
  split at hr <;> try (cases hr; done)
  split at hr <;> try (cases hr; done)
  rw [repS_eq] at hr
  refine fillS_lt h _ _ _ _ (fun x hx => ?_) hr
  obtain ⟨l, hl, hx2⟩ := List.mem_flatten.1 hx
  obtain rfl := List.eq_of_mem_replicate hl
  exact zeroS_lt hz x hx2
theorem binV_lt {P : Program} {op : BinOp} {t n : Nat} {c : Bool} {u v : Value} : OutLt n (binV P op t c u v) := by
  unfold binV
  repeat' (first | exact trivial | split)

theorem pureOp_lt {P : Program} {n : Nat} {env : Env} {mem : Mem} (h : ltE n env) (hm : ltM n mem) (op : Op) : OutLt n (pureOp P env mem [] op) := by
  cases op <;> simp only [pureOp] <;> try exact trivial
  case move x => split <;> first | exact trivial | (rename_i hx; exact ev_lt h hx)
  case assign x => split <;> first | exact trivial | (rename_i hx; exact ev_lt h hx)
  case load t x =>
    split <;> try exact trivial
    split <;> try exact trivial
    rename_i hl
    split <;> try exact trivial
    · split <;> try exact trivial
      rename_i hy
      exact (hm _ (lookM_mem hl)).2 _ (getL_mem hy)
    · split <;> try exact trivial
      rename_i hy
      exact fun x hx => (hm _ (lookM_mem hl)).2 _ (cutL_mem hy x hx)
  case nilCheck x =>
    split <;> try exact trivial
    rename_i hx
    exact ev_lt h hx
  case binOp op t x y tt => repeat' (first | exact trivial | exact binV_lt | split)
  case unOp op t x => repeat' (first | exact trivial | split)
  case convert a b x => repeat' (first | exact trivial | split)
  case fieldAddr t x f =>
    split <;> try exact trivial
    split <;> try exact trivial
    split <;> try exact trivial
    split <;> try exact trivial
    split <;> try exact trivial
    rename_i hx
    exact ev_lt h hx
  case field t x f =>
    split <;> try exact trivial
    split <;> try exact trivial
    split <;> try exact trivial
    rename_i cs hx
    have hc : ∀ x ∈ cs, x.lt n := ev_lt h hx
    split <;> try exact trivial
    · split <;> try exact trivial
      rename_i hy
      exact hc _ (getL_mem hy)
    · split <;> try exact trivial
      rename_i hy
      exact fun x hx => hc _ (cutL_mem hy x hx)
  case extract x i =>
    split <;> try exact trivial
    split <;> try exact trivial
    split <;> try exact trivial
    rename_i hv
    exact valsO_lt hv
  case makeInterface t x => repeat' (first | exact trivial | split)
  case makeFunc f a b => repeat' (first | exact trivial | split)
  case build t ps =>
    split <;> try exact trivial
    rename_i hb
    exact buildS_lt h hb
  case call c =>
    obtain ⟨callee, args, ts⟩ := c
    cases callee <;> try exact trivial
    rename_i b
    cases b <;> try exact trivial
    all_goals (simp only [pureOp]; repeat' (first | exact trivial | split))

theorem eqOut_lt {n : Nat} {op : BinOp} {b : Bool} : OutLt n (eqOut op b) := by unfold eqOut; split <;> trivial
theorem intB_lt {n : Nat} {op : BinOp} {k : IntKind} {a b : Int} : OutLt n (intB op k a b) := by unfold intB; repeat' (first | exact trivial | split)
theorem binY_lt {P : Program} {op : BinOp} {t n : Nat} {x y : SV} : OutLt n (binY P op t x y) := by
  unfold binY shiftB strB eqI
  repeat' (first | exact trivial | exact eqOut_lt | exact intB_lt | split)
theorem binA_lt {P : Program} {op : BinOp} {t n : Nat} {x y : List Ce} : OutLt n (binA P op t x y) := by
  unfold binA
  repeat' (first | exact trivial | exact eqOut_lt | split)
theorem ifaceOf_lt {n : Nat} {x : SV} {t : TypeId} {c : Ce} (h : x.lt n) (hx : ifaceOf x = some (t, c)) : c.lt n := by
  unfold ifaceOf at hx
  split at hx
  · cases hx; exact h
  · split at hx <;> cases hx
    trivial
  · cases hx
theorem tOf_lt {n : Nat} {x : SV} {p : Bool × List Ce} (h : x.lt n) (hx : tOf x = some p) : ∀ y ∈ p.2, y.lt n := by
  cases x <;> simp only [tOf, Option.some.injEq] at hx <;> try (cases hx; done)
  · subst hx; intro y hy; simp only [List.mem_singleton] at hy; subst hy; exact h
  · subst hx; exact h
  · subst hx; intro y hy; simp only [List.mem_singleton] at hy; subst hy; trivial
theorem zeroC_lt {P : Program} {t n : Nat} {p : Bool × List Ce} (h : zeroC P t = some p) : ∀ y ∈ p.2, y.lt n := by
  unfold zeroC at h
  split at h <;> try (cases h; done)
  split at h <;> try (cases h; done)
  split at h <;> try (cases h; done)
  · split at h <;> cases h
    rename_i hv
    exact valsO_lt hv
  · cases h
    intro y hy
    simp only [List.mem_singleton] at hy
    subst hy
    trivial
theorem two_lt {n : Nat} {p : Bool × List Ce} {b : Bool} (h : ∀ y ∈ p.2, y.lt n) : (SV.tps [p, (false, [.v (.bool b)])]).lt n := by
  intro q hq y hy
  simp only [List.mem_cons, List.not_mem_nil, or_false] at hq
  rcases hq with rfl | rfl
  · exact h y hy
  · simp only [List.mem_singleton] at hy
    subst hy
    trivial
theorem holdsT_lt {n : Nat} {ok : Bool} {x : SV} (h : x.lt n) : OutLt n (holdsT ok x) := by
  unfold holdsT
  split
  · exact h
  · split
    · rename_i hp
      exact two_lt (tOf_lt h hp)
    · trivial
theorem failsT_lt {P : Program} {t n : Nat} {ok : Bool} : OutLt n (failsT P t ok) := by
  unfold failsT
  split
  · trivial
  · split
    · rename_i hp
      exact two_lt (zeroC_lt hp)
    · trivial
theorem assertY_lt {P : Program} {n : Nat} {x : SV} {t : TypeId} {ok : Bool} (h : x.lt n) : OutLt n (assertY P x t ok) := by
  unfold assertY
  split
  · split
    · exact failsT_lt
    · split <;> try exact trivial
      split <;> try exact trivial
      split
      · exact holdsT_lt h
      · exact failsT_lt
  · split
    · exact failsT_lt
    · split <;> try exact trivial
      rename_i hx
      split
      · exact holdsT_lt (x := .c _) (ifaceOf_lt h hx)
      · exact failsT_lt
  · trivial
theorem rowOf_lt {n l o m : Nat} {x : SV} (h : x.lt n) (hx : rowOf x = some (l, o, m)) : l < n := by
  unfold rowOf at hx
  split at hx
  · cases hx; exact h
  · cases hx
    have : l + 1 < n := h
    omega
  · cases hx
theorem idxY_lt {P : Program} {n t : Nat} {x : SV} {iv : Int} (h : x.lt n) : OutLt n (idxY P t x iv) := by
  unfold idxY
  split <;> try exact trivial
  split <;> try exact trivial
  · split <;> try exact trivial
    split <;> try exact trivial
    rename_i hx
    split <;> try exact trivial
    exact rowOf_lt h hx
  · split <;> try exact trivial
    split <;> try exact trivial
    split <;> try exact trivial
    exact h
theorem elmY_lt {P : Program} {n t : Nat} {x : SV} {iv : Int} (h : x.lt n) : OutLt n (elmY P t x iv) := by
  unfold elmY
  split <;> try exact trivial
  split <;> try exact trivial
  · split <;> try exact trivial
    split <;> try exact trivial
    split <;> try exact trivial
    split <;> try exact trivial
    · split <;> try exact trivial
      rename_i hy
      exact h _ (getL_mem hy)
    · split <;> try exact trivial
      rename_i hy
      exact fun x hx => h _ (cutL_mem hy x hx)
  · repeat' (first | exact trivial | split)
theorem slcY_lt {P : Program} {n t : Nat} {x : SV} {lo hi mx : Option Nat} {gn : Nat → Option Nat} (h : x.lt n) : OutLt n (slcY P t x lo hi mx gn) := by
  unfold slcY
  split <;> try exact trivial
  · repeat' (first | exact trivial | split)
  · split <;> try exact trivial
    split <;> try exact trivial
    · repeat' (first | exact trivial | split)
    · repeat' (first | exact trivial | exact h | split)
    · have h1 : _ + 1 < n := h
      repeat' (first | exact trivial | exact h | exact (Nat.lt_of_succ_lt h : _ < n) | split)

theorem pureY_lt {P : Program} {n : Nat} {env : Env} {gm : GMem} (h : ltE n env) (hm : ltG n gm) (op : Op) : OutLt n (pureY P env gm op) := by
  cases op <;> simp only [pureY] <;> try exact trivial
  case load t x =>
    split <;> try exact trivial
    split <;> try exact trivial
    rename_i hl
    split <;> try exact trivial
    · split <;> try exact trivial
      rename_i hy
      exact (hm _ (lookG_mem hl)).2 _ (getL_mem hy)
    · split <;> try exact trivial
      rename_i hy
      exact fun x hx => (hm _ (lookG_mem hl)).2 _ (cutL_mem hy x hx)
  case nilCheck x =>
    split <;> try exact trivial
    rename_i hx
    exact ev_lt h hx
  case binOp op t x y tt => repeat' (first | exact trivial | exact binA_lt | exact binY_lt | split)
  case unOp op t x =>
    cases op <;> try exact trivial
    simp only [pureY]
    repeat' (first | exact trivial | exact intB_lt | split)
  case makeInterface t x =>
    split <;> try exact trivial
    split <;> try exact trivial
    rename_i hx
    exact ev_lt h hx
  case indexAddr t x i =>
    split <;> try exact trivial
    rename_i hx
    split <;> try exact trivial
    exact idxY_lt (ev_lt h hx)
  case index t x i =>
    split <;> try exact trivial
    rename_i hx
    split <;> try exact trivial
    exact elmY_lt (ev_lt h hx)
  case slice t x lo hi mx =>
    split <;> try exact trivial
    rename_i hx
    split <;> try exact trivial
    split <;> try exact trivial
    split <;> try exact trivial
    exact slcY_lt (ev_lt h hx)
  case extract x i =>
    split <;> try exact trivial
    rename_i vs hx
    have hv := ev_lt h hx
    split <;> try exact trivial
    · rename_i y hy
      exact hv _ (getL_mem hy) y (by simp)
    · rename_i cs hy
      exact hv _ (getL_mem hy)
  case typeAssert x xt t ok =>
    split <;> try exact trivial
    rename_i hx
    exact assertY_lt (nrm_lt h hx)
  case call c =>
    obtain ⟨callee, args, ts⟩ := c
    cases callee <;> try exact trivial
    rename_i b
    cases b <;> try exact trivial
    simp only [pureY]
    repeat' (first | exact trivial | split)
theorem pureX_lt {P : Program} {n : Nat} {env : Env} {mem : Mem} {gm : GMem} (h : ltE n env) (hm : ltM n mem) (hg : ltG n gm) (op : Op) : OutLt n (pureX P env mem gm op) := by
  unfold pureX
  have := pureOp_lt (P := P) h hm op
  split
  · exact pureY_lt h hg op
  · exact this
end Go.Proofs.Ytngfadijcpnblaa
