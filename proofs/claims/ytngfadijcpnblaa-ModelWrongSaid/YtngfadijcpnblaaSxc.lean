/- The operations that leave memory as it is, upon a symbolic state: 'pureOp', and that it says what the model does. -/
import Derived.Test.YtngfadijcpnblaaSxb
namespace Go.Proofs.Ytngfadijcpnblaa
open Go.RowKit

/-- A cell as a value, if its block is known. -/
def ceV (bnd : Bnd) : Ce → Option Value
  | .v x => some x
  | .loc l o => match lookB bnd l with
    | some b => some (.pointer (some ⟨b, o, none⟩))
    | none => none
  | .locs l o n c => match lookB bnd l with
    | some b => some (.slice (some ⟨b, o, none⟩) n c)
    | none => none
  | .ifl t l o => match lookB bnd l with
    | some b => some (.iface t (.pointer (some ⟨b, o, none⟩)))
    | none => none
  | .gro _ _ _ _ => none
  | .tl _ _ _ _ _ => none
def cesV (bnd : Bnd) : List Ce → Option (List Value)
  | [] => some []
  | x :: r => match ceV bnd x with
    | some y => match cesV bnd r with
      | some ys => some (y :: ys)
      | none => none
    | none => none
def svV (bnd : Bnd) : SV → Option Value
  | .c x => ceV bnd x
  | .agg cs => match cesV bnd cs with
    | some vs => some (.agg vs.toArray)
    | none => none
  | .tup vs => some (.tuple vs.toArray)
  | .kb b => some (.bool b)
  | .tps _ => none
/-- Operands as values. -/
def opsV (env : Env) (bnd : Bnd) : List Operand → Option (List Value)
  | [] => some []
  | x :: r => match ev env x with
    | some s => match svV bnd s with
      | some v => match opsV env bnd r with
        | some vs => some (v :: vs)
        | none => none
      | none => none
    | none => none

section
variable {β : Nat → Nat} {bnd : Bnd}
theorem ceV_den (hb : ∀ l b, lookB bnd l = some b → β l = b) {x : Ce} {v : Value} (h : ceV bnd x = some v) : x.den β = v := by
  cases x with
  | v y => simpa [ceV, Ce.den] using h
  | loc l o =>
    simp only [ceV] at h
    cases hl : lookB bnd l with
    | none => rw [hl] at h; cases h
    | some b => rw [hl] at h; simp only [Option.some.injEq] at h; subst h; simp [Ce.den, hb l b hl]
  | locs l o n c =>
    simp only [ceV] at h
    cases hl : lookB bnd l with
    | none => rw [hl] at h; cases h
    | some b => rw [hl] at h; simp only [Option.some.injEq] at h; subst h; simp [Ce.den, hb l b hl]
  | ifl t l o =>
    simp only [ceV] at h
    cases hl : lookB bnd l with
    | none => rw [hl] at h; cases h
    | some b => rw [hl] at h; simp only [Option.some.injEq] at h; subst h; simp [Ce.den, hb l b hl]
  | gro l o n e => simp [ceV] at h
  | tl l o n z e => simp [ceV] at h
theorem cesV_den (hb : ∀ l b, lookB bnd l = some b → β l = b) : ∀ {cs : List Ce} {vs : List Value}, cesV bnd cs = some vs → cs.map (Ce.den β) = vs
  | [], vs, h => by simp only [cesV, Option.some.injEq] at h; subst h; rfl
  | x :: r, vs, h => by
    simp only [cesV] at h
    cases h1 : ceV bnd x with
    | none => rw [h1] at h; cases h
    | some y =>
      rw [h1] at h
      cases h2 : cesV bnd r with
      | none => rw [h2] at h; cases h
      | some ys =>
        rw [h2] at h
        simp only [Option.some.injEq] at h
        subst h
        simp [ceV_den hb h1, cesV_den hb h2]
theorem svV_den (hb : ∀ l b, lookB bnd l = some b → β l = b) {s : SV} {v : Value} (h : svV bnd s = some v) : s.den β = v := by
  cases s with
  | c x => exact ceV_den hb h
  | agg cs =>
    simp only [svV] at h
    cases h2 : cesV bnd cs with
    | none => rw [h2] at h; cases h
    | some ys => rw [h2] at h; simp only [Option.some.injEq] at h; subst h; simp [SV.den, cesV_den hb h2]
  | tup vs => simp only [svV, Option.some.injEq] at h; subst h; rfl
  | kb b => simp only [svV, Option.some.injEq] at h; subst h; rfl
  | tps vs => simp [svV] at h
end
theorem opsV_eval {g : Cx} {β : Nat → Nat} {env : Env} {mem : Mem} {bnd : Bnd} {L : Res} {a : Act} {w : World} (h : Rel g β env mem bnd L a w) :
    ∀ {xs : List Operand} {vs : List Value}, opsV env bnd xs = some vs → xs.map a.eval = vs
  | [], vs, hv => by simp only [opsV, Option.some.injEq] at hv; subst hv; rfl
  | x :: r, vs, hv => by
    simp only [opsV] at hv
    cases h1 : ev env x with
    | none => rw [h1] at hv; cases hv
    | some s =>
      rw [h1] at hv
      cases h2 : svV bnd s with
      | none => simp only [h2] at hv; cases hv
      | some v =>
        simp only [h2] at hv
        cases h3 : opsV env bnd r with
        | none => rw [h3] at hv; cases hv
        | some ys =>
          rw [h3] at hv
          simp only [Option.some.injEq] at hv
          subst hv
          simp [h.ev h1, svV_den h.bnd h2, opsV_eval h h3]

def fillS.setsO : List Ce → Nat → List Ce → Option (List Ce)
  | cs, 0, [] => some cs
  | cs, _ + 1, [] => some cs
  | [], _, _ :: _ => none
  | _ :: r, 0, y :: ys => match fillS.setsO r 0 ys with
    | some zs => some (y :: zs)
    | none => none
  | x :: r, k + 1, y :: ys => match fillS.setsO r k (y :: ys) with
    | some zs => some (x :: zs)
    | none => none
/-- The struct or array that is put together of its parts. -/
def fillS (place : Nat → Option (Nat × Nat)) (env : Env) : List Ce → List (Nat × Operand) → Option (List Ce)
  | cs, [] => some cs
  | cs, (i, x) :: r => match place i with
    | none => none
    | some (off, size) => match ev env x with
      | none => none
      | some s => match cellsS s with
        | none => none
        | some ys => match Nat.beq ys.length size with
          | false => none
          | true => match Nat.ble (off + ys.length) cs.length with
            | false => none
            | true => match fillS.setsO cs off ys with
              | some cs' => fillS place env cs' r
              | none => none

theorem setsO_spec : ∀ (cs : List Ce) (k : Nat) (ys zs : List Ce), fillS.setsO cs k ys = some zs → zs.length = cs.length ∧ ∀ j, zs[j]? = if k ≤ j ∧ j < k + ys.length then ys[j - k]? else cs[j]?
  | cs, 0, [], zs, h => by
    simp only [fillS.setsO, Option.some.injEq] at h; subst h
    exact ⟨rfl, fun j => by rw [if_neg (by simp)]⟩
  | cs, k + 1, [], zs, h => by
    simp only [fillS.setsO, Option.some.injEq] at h; subst h
    exact ⟨rfl, fun j => by rw [if_neg (by simp)]⟩
  | [], k, y :: ys, zs, h => by cases k <;> simp [fillS.setsO] at h
  | x :: r, 0, y :: ys, zs, h => by
    simp only [fillS.setsO] at h
    cases hr : fillS.setsO r 0 ys with
    | none => rw [hr] at h; cases h
    | some z =>
      rw [hr] at h
      simp only [Option.some.injEq] at h; subst h
      obtain ⟨h1, h2⟩ := setsO_spec r 0 ys z hr
      refine ⟨by simp [h1], fun j => ?_⟩
      cases j with
      | zero => simp
      | succ j =>
        have := h2 j
        simp only [Nat.zero_le, true_and, Nat.zero_add, Nat.sub_zero] at this ⊢
        simp only [List.getElem?_cons_succ, this, List.length_cons, Nat.add_lt_add_iff_right]
  | x :: r, k + 1, y :: ys, zs, h => by
    simp only [fillS.setsO] at h
    cases hr : fillS.setsO r k (y :: ys) with
    | none => rw [hr] at h; cases h
    | some z =>
      rw [hr] at h
      simp only [Option.some.injEq] at h; subst h
      obtain ⟨h1, h2⟩ := setsO_spec r k (y :: ys) z hr
      refine ⟨by simp [h1], fun j => ?_⟩
      cases j with
      | zero => simp
      | succ j =>
        have := h2 j
        simp only [List.getElem?_cons_succ, this]
        have e : (k ≤ j ∧ j < k + (y :: ys).length) ↔ (k + 1 ≤ j + 1 ∧ j + 1 < k + 1 + (y :: ys).length) := by omega
        by_cases hk : k ≤ j ∧ j < k + (y :: ys).length
        · rw [if_pos hk, if_pos (e.1 hk), show j + 1 - (k + 1) = j - k from by omega]
        · rw [if_neg hk, if_neg (fun h => hk (e.2 h))]

theorem fold_set (vs : List Value) : ∀ (off k : Nat) (A : Array Value), off + k + vs.length ≤ A.size →
    (vs.zipIdx k).foldl (fun cs x => cs.setIfInBounds (off + x.2) x.1) A = ⟨(A.toList.take (off + k)) ++ vs ++ A.toList.drop (off + k + vs.length)⟩ := by
  induction vs with
  | nil => intro off k A h; simp
  | cons v r ih =>
    intro off k A h
    simp only [List.zipIdx_cons, List.foldl_cons]
    simp only [List.length_cons] at h
    rw [ih off (k + 1) _ (by simp; omega)]
    apply congrArg Array.mk
    have hk : off + k < A.toList.length := by simp; omega
    simp only [Array.toList_setIfInBounds]
    apply List.ext_getElem?
    intro j
    simp only [List.getElem?_append, List.length_take, List.length_set, List.length_append, List.length_cons, List.getElem?_take, List.getElem?_set, List.getElem?_drop]
    by_cases h1 : j < off + k
    · have e1 : j < min (off + (k + 1)) A.toList.length := by omega
      have e2 : j < min (off + k) A.toList.length := by omega
      simp [e1, e2, h1, show j < off + (k + 1) from by omega, show ¬ off + k = j from by omega, show j < off + k + (r.length + 1) from by omega, show j < off + (k + 1) + r.length from by omega]
      rw [if_pos (by omega), if_pos (by omega), if_pos (by omega), if_pos (by omega)]
    · by_cases h2 : j = off + k
      · subst h2
        simp at hk
        simp [hk, Nat.min_eq_left (show off + (k + 1) ≤ A.size from by omega), Nat.min_eq_left (show off + k ≤ A.size from by omega)]
        intro hbad
        omega
      · have hA : A.toList.length = A.size := by simp
        simp only [hA, Nat.min_eq_left (show off + (k + 1) ≤ A.size from by omega), Nat.min_eq_left (show off + k ≤ A.size from by omega)]
        rw [if_neg (show ¬ j < off + (k + 1) from by omega), if_neg (show ¬ j < off + k from by omega), show j - (off + k) = (j - (off + (k + 1))) + 1 from by omega]
        by_cases h3 : j < off + (k + 1) + r.length
        · rw [if_pos h3, if_pos (by omega)]; simp
        · rw [if_neg h3, if_neg (by omega), if_neg (by omega)]
          congr 1
          omega

theorem setsO_den {β : Nat → Nat} {cs ys zs : List Ce} {off : Nat} (h : fillS.setsO cs off ys = some zs) (hl : off + ys.length ≤ cs.length) :
    ((cellsOf β ys).zipIdx.foldl (fun cs x => cs.setIfInBounds (off + x.2) x.1) (cellsOf β cs)) = cellsOf β zs := by
  obtain ⟨h1, h2⟩ := setsO_spec cs off ys zs h
  rw [← Array.foldl_toList, Array.toList_zipIdx]
  have e : (cellsOf β ys).toList = ys.map (Ce.den β) := by simp [cellsOf]
  rw [e, fold_set _ off 0 _ (by simp [size_cellsOf]; omega)]
  unfold cellsOf
  apply congrArg Array.mk
  apply List.ext_getElem?
  intro j
  simp only [Nat.add_zero, List.getElem?_append, List.length_take, List.length_append, List.length_map, List.getElem?_take, List.getElem?_drop, List.getElem?_map, h2 j]
  by_cases c1 : j < off
  · rw [if_pos (by omega), if_pos (by omega), if_pos c1, if_neg (by omega)]
  · by_cases c2 : j < off + ys.length
    · rw [if_pos (by omega), if_neg (by omega), if_pos ⟨by omega, c2⟩, Nat.min_eq_left (by omega)]
    · rw [if_neg (by omega), if_neg (by omega), Nat.min_eq_left (by omega)]
      congr 2
      omega

theorem fillS_ok {g : Cx} {β : Nat → Nat} {env : Env} {mem : Mem} {bnd : Bnd} {L : Res} {a : Act} {w : World} (h : Rel g β env mem bnd L a w) (place : Nat → Option (Nat × Nat)) :
    ∀ (ps : List (Nat × Operand)) (cs zs : List Ce), fillS place env cs ps = some zs → Instr.fill place (cellsOf β cs) (ps.map fun x => (x.1, a.eval x.2)) = some (cellsOf β zs)
  | [], cs, zs, hf => by simp only [fillS, Option.some.injEq] at hf; subst hf; rfl
  | (i, x) :: r, cs, zs, hf => by
    simp only [fillS] at hf
    cases h1 : place i with
    | none => simp only [h1] at hf; cases hf
    | some p =>
      obtain ⟨off, size⟩ := p
      simp only [h1] at hf
      cases h2 : ev env x with
      | none => simp only [h2] at hf; cases hf
      | some s =>
        simp only [h2] at hf
        cases h3 : cellsS s with
        | none => simp only [h3] at hf; cases hf
        | some ys =>
          simp only [h3] at hf
          cases h4 : Nat.beq ys.length size with
          | false => simp only [h4] at hf; cases hf
          | true =>
            simp only [h4] at hf
            cases h5 : Nat.ble (off + ys.length) cs.length with
            | false => simp only [h5] at hf; cases hf
            | true =>
              simp only [h5] at hf
              cases h6 : fillS.setsO cs off ys with
              | none => simp only [h6] at hf; cases hf
              | some cs' =>
                simp only [h6] at hf
                have ih := fillS_ok h place r cs' zs hf
                have e4 : ys.length = size := by simpa using h4
                have e5 : off + ys.length ≤ cs.length := by simpa using h5
                simp only [List.map_cons, Instr.fill, h1, h.ev h2, cellsS_den h3 β, size_cellsOf, e4]
                rw [if_neg (by simp; omega), setsO_den h6 e5]
                exact ih
end Go.Proofs.Ytngfadijcpnblaa
