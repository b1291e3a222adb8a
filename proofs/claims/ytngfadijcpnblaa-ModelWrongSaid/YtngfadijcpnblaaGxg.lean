/- The evaluator: append, make, stores: 'effX'. -/
import Derived.Test.YtngfadijcpnblaaGxf
namespace Go.Proofs.Ytngfadijcpnblaa
open Go.RowKit

/-- The cells of a slice: how many elements, which cells. -/
def rowCells (s : GS) (y : SV) (sz : Nat) : Option (Nat × List Ce) :=
  match rowOf y with
  | some (l, o, n) => match lookM s.mem l with
    | some (_, cs) => match cutL cs o (n * sz) with
      | some ys => some (n, ys)
      | none => none
    | none => match lookG s.gm l with
      | some (_, _, _, cs) => match cutL cs o (n * sz) with
        | some ys => some (n, ys)
        | none => none
      | none => none
  | none => none
def allPl : List Ce → Bool
  | [] => true
  | x :: r => match x.plain with
    | true => allPl r
    | false => false
def small (n by_ : Nat) : Bool :=
  match Nat.ble n maxLen with
  | true => Nat.ble (n * by_) 140737488355328
  | false => false
def appE (P : Program) (s : GS) (d : Option Nat) (t : TypeId) (x y : SV) : Option GS :=
  match P.underlying t with
  | some (.slice e) => match elemI P e with
    | some (sz, by_) => match rowCells s y sz with
      | none => match isNilS y with
        | true => match y with
          | .c (.v (.slice none 0 _)) => match x with
            | .c (.v (.slice none 0 c)) => match putO d x s.env with
              | some env => some { s with env := env }
              | none => none
            | .c (.locs _ _ n c) => match Nat.ble n c with
              | true => match putO d x s.env with
                | some env => some { s with env := env }
                | none => none
              | false => none
            | .c (.gro l _ n e') => match gmLen s.gm l with
              | some N => match Nat.ble (e' + n) N with
                | true => match putO d x s.env with
                  | some env => some { s with env := env }
                  | none => none
                | false => none
              | none => none
            | _ => none
          | _ => none
        | false => none
      | some (0, _) => none
      | some (m + 1, news) => match allPl news with
        | false => none
        | true => match x with
          | .c (.v (.slice none 0 0)) => match small (m + 1) by_ with
            | true => newG s d s.gm s.low e (m + 1) sz news
            | false => none
          | .c (.gro l 0 n 0) => match lookG s.gm l with
            | some (e2, N, sz2, cs) => match Nat.beq e2 e with
              | true => match Nat.beq N n with
                | true => match Nat.beq sz2 sz with
                  | true => match small (n + (m + 1)) by_ with
                    | true => match delG s.gm l with
                      | some gm' => match appS cs news with
                        | some zs => newG s d gm' (minN s.low l) e (n + (m + 1)) sz zs
                        | none => none
                      | none => none
                    | false => none
                  | false => none
                | false => none
              | false => none
            | none => none
          | .c (.locs l o n c) => match Nat.beq n c with
            | true => match small (n + (m + 1)) by_ with
              | true => match lookM s.mem l with
                | some (_, cs) => match cutL cs o (n * sz) with
                  | some olds => match appS olds news with
                    | some zs => newG s d s.gm s.low e (n + (m + 1)) sz zs
                    | none => none
                  | none => none
                | none => none
              | false => none
            | false => none
          | _ => none
    | none => none
  | _ => none

section
variable {g : Cx} {β : Nat → Nat} {s : GS} {L : Res} {a : Act} {w : World}

theorem rowCells_ok (h : RelG g β s L a w) {y : SV} {sz m : Nat} {news : List Ce} (hy : rowCells s y sz = some (m, news)) :
    ∃ b o c, y.den β = .slice (some ⟨b, o, none⟩) m c ∧ news.length = m * sz ∧ ∀ j u, (news.map (Ce.den β))[j]? = some u → w.cell? ⟨b, o + j, none⟩ = some u := by
  unfold rowCells at hy
  split at hy <;> try (cases hy; done)
  rename_i l o n hr
  obtain ⟨c, hd⟩ := rowOf_den hr β
  have key : ∀ (cs : List Ce), (∀ j x, cs[j]? = some x → w.cell? ⟨β l, j, none⟩ = some (x.den β)) → ∀ ys, cutL cs o (n * sz) = some ys → ys.length = n * sz ∧ ∀ j u, (ys.map (Ce.den β))[j]? = some u → w.cell? ⟨β l, o + j, none⟩ = some u := by
    intro cs hc ys hcut
    obtain ⟨c1, c2⟩ := cutL_spec cs o _ ys hcut
    refine ⟨c1, fun j u hu => ?_⟩
    rw [List.getElem?_map] at hu
    cases hj : ys[j]? with
    | none => rw [hj] at hu; cases hu
    | some x =>
      rw [hj] at hu
      cases hu
      have hlt : j < n * sz := by have := (List.getElem?_eq_some_iff.1 hj).1; omega
      exact hc _ _ (by rw [c2 j hlt]; exact hj)
  split at hy
  · rename_i cs hl
    split at hy <;> cases hy
    rename_i ys hcut
    obtain ⟨k1, k2⟩ := key cs (fun j x hx => by rw [h.cell hl, hx]; rfl) _ hcut
    exact ⟨β l, o, c, hd, k1, k2⟩
  · split at hy <;> try (cases hy; done)
    rename_i e N sz2 cs hl
    split at hy <;> cases hy
    rename_i ys hcut
    obtain ⟨cur, hg⟩ := h.gr hl
    obtain ⟨k1, k2⟩ := key cs (fun j x hx => hg.cell hx) _ hcut
    exact ⟨β l, o, c, hd, k1, k2⟩
theorem rowCells_lt (hb : Bd s) {y : SV} {sz m : Nat} {news : List Ce} (hy : rowCells s y sz = some (m, news)) : ∀ x ∈ news, x.lt s.nl := by
  unfold rowCells at hy
  split at hy <;> try (cases hy; done)
  split at hy
  · rename_i hl
    split at hy <;> cases hy
    rename_i hcut
    exact fun x hx => (hb.mem _ (lookM_mem hl)).2 _ (cutL_mem hcut x hx)
  · split at hy <;> try (cases hy; done)
    rename_i hl
    split at hy <;> cases hy
    rename_i hcut
    exact fun x hx => (hb.gm _ (lookG_mem hl)).2 _ (cutL_mem hcut x hx)
theorem allPl_one : ∀ {cs : List Ce}, allPl cs = true → ∀ u ∈ cs.map (Ce.den β), u.oneCell' = true
  | [], _, u, hu => by cases hu
  | x :: r, h, u, hu => by
    unfold allPl at h
    split at h <;> try (cases h; done)
    rename_i hx
    rcases List.mem_cons.1 hu with rfl | hu
    · exact plain_one hx
    · exact allPl_one h u hu
theorem small_ok {n by_ : Nat} (h : small n by_ = true) : n ≤ maxLen ∧ n * by_ ≤ 140737488355328 := by
  unfold small at h
  split at h <;> try (cases h; done)
  rename_i h1
  exact ⟨by simpa using h1, by simpa using h⟩
theorem app_nil {P : Program} {t ty e : TypeId} {i : TypeInfo} {A : Option Addr} {n c c2 : Nat} (ht : P.underlying t = some (.slice e)) (hi : P.info? e = some i) (hn : n ≤ c) (w : World) :
    (Builtin.append_ #[t, t] ty #[.slice A n c, .slice none 0 c2]).run P w = .ok (.slice A n c) w := by
  cases A <;> simp [Builtin.append_, run_underlying ht, sizeOf, typeInfo, hi, Builtin.lenOf, Builtin.firstCells, hn, storeCells]
theorem delG_lt {n : Nat} : ∀ {gm gm' : GMem} {l : Nat}, ltG n gm → delG gm l = some gm' → ltG n gm'
  | [], gm', l, h, hd => by simp only [delG, Option.some.injEq] at hd; subst hd; exact h
  | (k, y) :: r, gm', l, h, hd => by
    simp only [delG] at hd
    split at hd
    · cases hd; exact fun e he => h e (List.mem_cons_of_mem _ he)
    · split at hd <;> cases hd
      rename_i r' hr
      intro e he
      rcases List.mem_cons.1 he with rfl | he
      · exact h _ (by simp)
      · exact delG_lt (fun e he => h e (List.mem_cons_of_mem _ he)) hr e he
/-- What goes is below no bound that is kept. -/
theorem delG_keeps {b l : Nat} (hl : b ≤ l) : ∀ {gm gm' g0 : GMem}, (∃ n2, gm = n2 ++ g0 ∧ ∀ e ∈ n2, b ≤ e.1) → (∀ e ∈ g0, e.1 < b) → delG gm l = some gm' → ∃ n2, gm' = n2 ++ g0 ∧ ∀ e ∈ n2, b ≤ e.1
  | [], gm', g0, ⟨n2, h1, h2⟩, h3, hd => by
    simp only [delG, Option.some.injEq] at hd
    subst hd
    exact ⟨n2, h1, h2⟩
  | (k, y) :: r, gm', g0, ⟨n2, h1, h2⟩, h3, hd => by
    cases n2 with
    | nil =>
      -- nothing above: the label is found nowhere
      simp only [List.nil_append] at h1
      have hno : ∀ (q : GMem), (∀ e ∈ q, e.1 < b) → delG q l = some q := by
        intro q
        induction q with
        | nil => intro _; rfl
        | cons z q ih =>
          obtain ⟨kz, yz⟩ := z
          intro hq
          have hk : kz ≠ l := by have := hq (kz, yz) (by simp); simp at this; omega
          have hbq : Nat.beq kz l = false := by rw [← Bool.not_eq_true, Nat.beq_eq]; exact hk
          simp only [delG, hbq, ih fun e he => hq e (List.mem_cons_of_mem _ he)]
      rw [h1, hno g0 h3] at hd
      cases hd
      exact ⟨[], rfl, by simp⟩
    | cons z n2 =>
      simp only [List.cons_append, List.cons.injEq] at h1
      obtain ⟨rfl, h1⟩ := h1
      simp only [delG] at hd
      split at hd
      · cases hd
        exact ⟨n2, h1, fun e he => h2 e (List.mem_cons_of_mem _ he)⟩
      · split at hd <;> cases hd
        rename_i r' hr
        obtain ⟨n3, k1, k2⟩ := delG_keeps hl ⟨n2, h1, fun e he => h2 e (List.mem_cons_of_mem _ he)⟩ h3 hr
        refine ⟨(k, y) :: n3, by rw [k1]; rfl, ?_⟩
        intro e he
        rcases List.mem_cons.1 he with rfl | he
        · exact h2 _ (by simp)
        · exact k2 e he

theorem Grow.ofG {s' : GS} {d : Option Nat} {gm : GMem} {low e n sz : Nat} {cs : List Ce} (hc : Bd s → ∀ y ∈ cs, y.lt s.nl) (hgm : Bd s → ltG s.nl gm) (h : newG s d gm low e n sz cs = some s') (hlow : low ≤ s.low)
    (hk : ∀ b, b ≤ low → ∀ g0, (∃ n2, s.gm = n2 ++ g0 ∧ ∀ e ∈ n2, b ≤ e.1) → (∀ e ∈ g0, e.1 < b) → ∃ n2, gm = n2 ++ g0 ∧ ∀ e ∈ n2, b ≤ e.1) : Grow s s' := by
  obtain ⟨h1, h2, h3, h4, h5⟩ := newG_bd hc hgm h
  refine ⟨h1, h2, by rw [h3]; exact hlow, fun b hb hbn m0 g0 k1 k2 k3 k4 => ?_⟩
  rw [h3] at hb
  obtain ⟨n2, e1, e2⟩ := hk b hb g0 k2 k4
  refine ⟨by rw [h4]; exact k1, (s.nl, e, n, sz, cs) :: n2, by rw [h5, e1]; rfl, ?_⟩
  intro x hx
  rcases List.mem_cons.1 hx with rfl | hx
  · exact hbn
  · exact e2 x hx

theorem appE_grow {P : Program} {s' : GS} {d : Option Nat} {t : TypeId} {x y : SV} (hx : Bd s → x.lt s.nl) (h : appE P s d t x y = some s') : Grow s s' := by
  unfold appE at h
  split at h <;> try (cases h; done)
  split at h <;> try (cases h; done)
  split at h
  · split at h <;> try (cases h; done)
    split at h <;> try (cases h; done)
    split at h <;> try (cases h; done)
    · split at h <;> cases h
      rename_i he
      exact Grow.env hx he
    · split at h <;> try (cases h; done)
      split at h <;> cases h
      rename_i he
      exact Grow.env hx he
    · split at h <;> try (cases h; done)
      split at h <;> try (cases h; done)
      split at h <;> cases h
      rename_i he
      exact Grow.env hx he
  · cases h
  · rename_i m news hrow
    split at h <;> try (cases h; done)
    split at h <;> try (cases h; done)
    · split at h <;> try (cases h; done)
      exact Grow.ofG (fun b => rowCells_lt b hrow) (fun b => b.gm) h (Nat.le_refl _) (fun b _ g0 k _ => k)
    · split at h <;> try (cases h; done)
      rename_i hl
      split at h <;> try (cases h; done)
      split at h <;> try (cases h; done)
      split at h <;> try (cases h; done)
      split at h <;> try (cases h; done)
      split at h <;> try (cases h; done)
      rename_i gm' hd
      split at h <;> try (cases h; done)
      rename_i zs hz
      rw [appS_eq] at hz
      cases hz
      refine Grow.ofG (fun b => ?_) (fun b => delG_lt b.gm hd) h (minN_le _ _).1 (fun b hb g0 k1 k2 => delG_keeps (Nat.le_trans hb (minN_le _ _).2) k1 k2 hd)
      intro u hu
      rcases List.mem_append.1 hu with hu | hu
      · exact (b.gm _ (lookG_mem hl)).2 u hu
      · exact rowCells_lt b hrow u hu
    · split at h <;> try (cases h; done)
      split at h <;> try (cases h; done)
      split at h <;> try (cases h; done)
      rename_i hl
      split at h <;> try (cases h; done)
      rename_i olds hcut
      split at h <;> try (cases h; done)
      rename_i zs hz
      rw [appS_eq] at hz
      cases hz
      refine Grow.ofG (fun b => ?_) (fun b => b.gm) h (Nat.le_refl _) (fun b _ g0 k _ => k)
      intro u hu
      rcases List.mem_append.1 hu with hu | hu
      · exact (b.mem _ (lookM_mem hl)).2 u (cutL_mem hcut u hu)
      · exact rowCells_lt b hrow u hu
end
end Go.Proofs.Ytngfadijcpnblaa
