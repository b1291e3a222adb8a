/- Spans in their normal form: rising, apart, of just the indexes that were published. -/
import Derived.Test.YtnnhgopibbdlkaaTrB
namespace Go.Proofs.Ytnnhgopibbdlkaa

def has (l : List Span) (i : Int) : Prop := ∃ x ∈ l, x.lo ≤ i ∧ i ≤ x.hi
def Norm (l : List Span) : Prop := (∀ x ∈ l, x.ok) ∧ l.Pairwise fun a b => a.hi + 1 < b.lo
theorem Norm.cons {a : Span} {l : List Span} : Norm (a :: l) ↔ a.ok ∧ (∀ b ∈ l, a.hi + 1 < b.lo) ∧ Norm l := by
  simp only [Norm, List.pairwise_cons, List.mem_cons, forall_eq_or_imp]
  constructor
  · rintro ⟨⟨a, b⟩, c, d⟩; exact ⟨a, c, b, d⟩
  · rintro ⟨a, c, b, d⟩; exact ⟨⟨a, b⟩, c, d⟩
theorem has_cons {a : Span} {l : List Span} {i : Int} : has (a :: l) i ↔ (a.lo ≤ i ∧ i ≤ a.hi) ∨ has l i := by
  simp [has]
theorem joinL_above (b : Int) : ∀ (l : List Span) (s : Span), (∀ x ∈ l, b < x.lo) → b < s.lo → ∀ y ∈ joinL l s, b < y.lo
  | [], s, _, hs, y, hy => by simp [joinL] at hy; subst hy; exact hs
  | x :: r, s, hl, hs, y, hy => by
    have hx := hl x (by simp)
    have hr : ∀ z ∈ r, b < z.lo := fun z hz => hl z (by simp [hz])
    unfold joinL at hy
    split at hy
    · rcases List.mem_cons.1 hy with rfl | hy
      · exact hx
      · exact joinL_above b r s hr hs y hy
    · split at hy
      · rcases List.mem_cons.1 hy with rfl | hy
        · exact hs
        · exact joinL_above b r x hr hx y hy
      · exact joinL_above b r _ hr (by show b < min _ _; omega) y hy
theorem joinL_norm : ∀ (l : List Span) (s : Span), Norm l → s.ok → Norm (joinL l s) ∧ ∀ i, has (joinL l s) i ↔ has l i ∨ (s.lo ≤ i ∧ i ≤ s.hi)
  | [], s, _, hs => by
    simp only [joinL]
    exact ⟨Norm.cons.2 ⟨hs, by simp, by simp [Norm]⟩, fun i => by simp [has]⟩
  | x :: r, s, hl, hs => by
    obtain ⟨hx, hab, hr⟩ := Norm.cons.1 hl
    obtain ⟨s1, s2, s3⟩ := hs
    obtain ⟨x1, x2, x3⟩ := hx
    unfold joinL
    split
    · rename_i h
      obtain ⟨n1, n2⟩ := joinL_norm r s hr ⟨s1, s2, s3⟩
      refine ⟨Norm.cons.2 ⟨⟨x1, x2, x3⟩, joinL_above _ r s hab (by omega), n1⟩, fun i => ?_⟩
      rw [has_cons, has_cons, n2, or_assoc]
    · split
      · rename_i h h2
        obtain ⟨n1, n2⟩ := joinL_norm r x hr ⟨x1, x2, x3⟩
        refine ⟨Norm.cons.2 ⟨⟨s1, s2, s3⟩, joinL_above _ r x (fun b hb => by have := hab b hb; omega) (by omega), n1⟩, fun i => ?_⟩
        rw [has_cons, has_cons, n2]
        constructor
        · rintro (h | h | h)
          · exact .inr h
          · exact .inl (.inr h)
          · exact .inl (.inl h)
        · rintro ((h | h) | h)
          · exact .inr (.inr h)
          · exact .inr (.inl h)
          · exact .inl h
      · rename_i h h2
        obtain ⟨n1, n2⟩ := joinL_norm r ⟨min s.lo x.lo, max s.hi x.hi⟩ hr ⟨by show 0 ≤ min _ _; omega, by show min _ _ ≤ max _ _; omega, by show max _ _ ≤ _; omega⟩
        refine ⟨n1, fun i => ?_⟩
        rw [n2, has_cons]
        have e : (min s.lo x.lo ≤ i ∧ i ≤ max s.hi x.hi) ↔ (x.lo ≤ i ∧ i ≤ x.hi) ∨ (s.lo ≤ i ∧ i ≤ s.hi) := by omega
        show _ ∨ (min s.lo x.lo ≤ i ∧ i ≤ max s.hi x.hi) ↔ _
        rw [e]
        constructor
        · rintro (h | h | h)
          · exact .inl (.inr h)
          · exact .inl (.inl h)
          · exact .inr h
        · rintro ((h | h) | h)
          · exact .inr (.inl h)
          · exact .inl h
          · exact .inr (.inr h)
theorem Norm.ext : ∀ {l m : List Span}, Norm l → Norm m → (∀ i, has l i ↔ has m i) → l = m
  | [], [], _, _, _ => rfl
  | [], b :: t, _, hm, h => by
    obtain ⟨⟨b1, b2, b3⟩, _⟩ := Norm.cons.1 hm
    have := (h b.lo).2 (has_cons.2 (.inl ⟨by omega, b2⟩))
    simp [has] at this
  | a :: r, [], hl, _, h => by
    obtain ⟨⟨b1, b2, b3⟩, _⟩ := Norm.cons.1 hl
    have := (h a.lo).1 (has_cons.2 (.inl ⟨by omega, b2⟩))
    simp [has] at this
  | a :: r, b :: t, hl, hm, h => by
    obtain ⟨⟨a1, a2, a3⟩, a4, a5⟩ := Norm.cons.1 hl
    obtain ⟨⟨b1, b2, b3⟩, b4, b5⟩ := Norm.cons.1 hm
    have la : ∀ i, has (a :: r) i → a.lo ≤ i := fun i hi => by
      rcases has_cons.1 hi with hi | ⟨x, hx, hi⟩
      · exact hi.1
      · have := a4 x hx; omega
    have lb : ∀ i, has (b :: t) i → b.lo ≤ i := fun i hi => by
      rcases has_cons.1 hi with hi | ⟨x, hx, hi⟩
      · exact hi.1
      · have := b4 x hx; omega
    have e1 : a.lo = b.lo := by
      have h1 := lb a.lo ((h a.lo).1 (has_cons.2 (.inl ⟨by omega, a2⟩)))
      have h2 := la b.lo ((h b.lo).2 (has_cons.2 (.inl ⟨by omega, b2⟩)))
      omega
    have na : ¬ has (a :: r) (a.hi + 1) := fun hi => by
      rcases has_cons.1 hi with hi | ⟨x, hx, hi⟩
      · omega
      · have := a4 x hx; omega
    have nb : ¬ has (b :: t) (b.hi + 1) := fun hi => by
      rcases has_cons.1 hi with hi | ⟨x, hx, hi⟩
      · omega
      · have := b4 x hx; omega
    have e2 : a.hi = b.hi := by
      rcases Int.lt_trichotomy a.hi b.hi with hc | hc | hc
      · exact absurd ((h (a.hi + 1)).2 (has_cons.2 (.inl ⟨by omega, by omega⟩))) na
      · exact hc
      · exact absurd ((h (b.hi + 1)).1 (has_cons.2 (.inl ⟨by omega, by omega⟩))) nb
    have e : a = b := by cases a; cases b; simp_all
    subst e
    congr 1
    refine Norm.ext a5 b5 fun i => ?_
    have hi := h i
    rw [has_cons, has_cons] at hi
    constructor
    · intro hr
      rcases hi.1 (.inr hr) with hx | hx
      · obtain ⟨x, hx1, hx2⟩ := hr
        have := a4 x hx1
        omega
      · exact hx
    · intro hr
      rcases hi.2 (.inr hr) with hx | hx
      · obtain ⟨x, hx1, hx2⟩ := hr
        have := b4 x hx1
        omega
      · exact hx

/-- A note publishes an index of a ring. -/
def pubN (ring i : Int) (n : Note) : Bool := decide (n.ring = ring) && decide (n.deed = 1) && n.right && decide (n.lo ≤ i) && decide (i ≤ n.seq)
def pub (l : List Note) (ring i : Int) : Prop := ∃ n ∈ l, pubN ring i n = true
theorem fold_norm : ∀ (l : List Note) (acc : List Span), Norm acc → Norm (l.foldl shownStep acc) ∧ ∀ i, has (l.foldl shownStep acc) i ↔ has acc i ∨ ∃ n ∈ l, n.right = true ∧ n.lo ≤ i ∧ i ≤ n.seq
  | [], acc, h => ⟨h, by simp⟩
  | n :: r, acc, h => by
    simp only [List.foldl_cons]
    by_cases hn : n.right = true
    · have e : shownStep acc n = joinL acc ⟨n.lo, n.seq⟩ := by unfold shownStep; rw [if_pos hn]
      rw [e]
      obtain ⟨a, b⟩ := joinL_norm acc _ h (right_span hn)
      obtain ⟨c, d⟩ := fold_norm r _ a
      refine ⟨c, fun i => ?_⟩
      rw [d, b]
      simp [hn, or_assoc]
    · have e : shownStep acc n = acc := by unfold shownStep; rw [if_neg hn]
      rw [e]
      obtain ⟨c, d⟩ := fold_norm r _ h
      refine ⟨c, fun i => ?_⟩
      rw [d]
      simp [hn]
theorem shown_norm (l : List Note) (ring : Int) : Norm (shown l ring) ∧ ∀ i, has (shown l ring) i ↔ pub l ring i := by
  obtain ⟨a, b⟩ := fold_norm (l.filter (atP ring [1])) [] (by simp [Norm])
  refine ⟨a, fun i => ?_⟩
  unfold shown
  rw [b]
  simp [has, pub, pubN, atP, and_assoc]
theorem shown_same {l m : List Note} (h : ∀ n, n ∈ l ↔ n ∈ m) (ring : Int) : shown l ring = shown m ring := by
  obtain ⟨a, b⟩ := shown_norm l ring
  obtain ⟨c, d⟩ := shown_norm m ring
  refine Norm.ext a c fun i => ?_
  rw [b, d]
  simp [pub, h]
end Go.Proofs.Ytnnhgopibbdlkaa
