/- In and End of the reference. -/
import Derived.Test.YtnnhgopibbdlkaaTrR
import Derived.Test.YtnnhgopibbdlkaaTrJ
namespace Go.Proofs.Ytnnhgopibbdlkaa
open Go.RowKit
attribute [local irreducible] Nx Ar BrM

def pubB (l : List Note) (ring i : Int) : Bool := l.any (pubN ring i)
theorem pubB_iff {l : List Note} {ring i : Int} : pubB l ring i = true ↔ pub l ring i := by simp [pubB, pub]

theorem pub_next {l : List Note} {k : Nat} {ring i : Int} (h : k < l.length) (hno : pubB (l.take k) ring i = false) (hn : pubN ring i l[k] = false) : pubB (l.take (k + 1)) ring i = false := by
  unfold pubB at *
  rw [List.take_succ_eq_append_getElem h, List.any_append, hno]
  simp [hn]
theorem pub_hit {l : List Note} {k : Nat} {ring i : Int} (h : k < l.length) (hn : pubN ring i l[k] = true) : pubB l ring i = true := by
  unfold pubB
  exact List.any_eq_true.2 ⟨_, List.getElem_mem h, hn⟩

set_option maxHeartbeats 4000000 in
theorem In_ok (S : SP) (A : Option Addr) (c : Nat) (l : List Note) (ring i : Int) (hl : l.length ≤ 2199023255488) (hs : Sees S A l.length 8 (notes l)) :
    FnOk Try.prog 13 [.slice A l.length c, .int .i64 ring, .int .i64 i] [S] (fun v Q => v = .bool (pubB l ring i) ∧ Q = [S]) := by
  refine FnOk.start Try.func13 rfl rfl rfl rfl fun F os tape output => ?_
  refine go 200 ?_
  conv => whnf
  refine Nx.loop (X := Nat) (fun k => k ≤ l.length ∧ pubB (l.take k) ring i = false) (fun k => l.length - k)
    (fun k => [(0, sl A l.length c), (1, iv ring), (2, iv i), (7, iv k)]) (fun _ => []) [] (fun _ => [(0, S)])
    0 ⟨Nat.zero_le _, by simp [pubB]⟩ ?_ ?_ ?_ ?_ ?_
  · exact subE.cons rfl rfl (subE.cons rfl rfl (subE.cons rfl rfl (subE.cons rfl rfl (subE.nil _))))
  · repeat (first | exact subM.nil _ | refine subM.cons rfl rfl rfl ?_)
  · repeat (first | exact subB.nil _ | refine subB.cons rfl ?_)
  · repeat (first | exact subR.nil _ | refine subR.cons rfl rfl ?_)
  intro k ⟨hk, hno⟩ ih
  repeat' (first
    | ((with_reducible refine atBr ?_); (first | refine BrM.t rfl ?_ | refine BrM.f rfl ?_ | refine BrM.dec (fun _ => ?_) (fun _ => ?_) | refine BrM.mk (fun _ => ?_) (fun _ => ?_)) <;> conv => whnf)
    | ((with_reducible refine atAr ?_); refine Ar.i64 (by omega) (by omega) ?_; conv => whnf)
    | ((with_reducible refine atRet ?_); refine Nx.ret [0] Try.func13 rfl rfl ?_; (skip))
    | ((with_reducible refine atIn ?_); refine Nx.weak ((ih (k + 1) ?_ ?_)) ?_ ?_ ?_ ?_ <;> (first | exact subM.nil _ | exact subB.nil _ | exact subR.nil _ | ((repeat (first | exact subE.nil _ | refine subE.cons rfl rfl ?_ | refine subE.cons' rfl (fun _ => rfl) ?_ | (refine subE.cons rfl ?_ ?_; · (simp; done)))); done) | ((repeat (first | exact subM.nil _ | refine subM.cons rfl rfl rfl ?_)); done) | ((repeat (first | exact subB.nil _ | refine subB.cons rfl ?_)); done) | ((repeat (first | exact subR.nil _ | refine subR.cons rfl rfl ?_)); done) | omega | (dsimp only; omega) | (exact ⟨by omega, pub_next (by omega) hno (by simp [pubN, *])⟩)))
    | ((with_reducible refine atIdx ?_); refine Nx.idx 0 rfl rfl rfl Try.underlying22 rfl rfl rfl Note.enc_len hs rfl rfl (by omega) fun _ _ _ => ?_)
    | ((with_reducible refine atLoad ?_); first | (refine Nx.load1 0 rfl rfl rfl rfl (SeesAt.sub (by assumption) _ rfl) rfl ?_) | (refine Nx.load1 0 rfl rfl rfl rfl (by assumption) rfl ?_) | (refine Nx.load 0 rfl rfl rfl rfl (by assumption) rfl rfl ?_))
    | ((with_reducible refine (atCall 32) ?_); refine Nx.call [] [] rfl rfl rfl rfl rfl ((Right_ok (l[k]'(by omega)))) rfl fun v Q hQ => ?_; obtain ⟨rfl, rfl⟩ := hQ)
    | ((with_reducible refine atOps ?_); refine go 200 ?_; conv => whnf)
    | ((with_reducible refine atPlan ?_); refine Nx.runP (n := 200) rfl (by repeat (first | exact subB.nil _ | refine subB.cons rfl ?_)) ?_; conv => whnf)
    | ((with_reducible refine atAftL ?_); refine Nx.late ?_)
    | ((fail_if_success (with_reducible refine atRet ?_)); (fail_if_success (with_reducible refine atLoop ?_)); (fail_if_success (with_reducible refine atIn ?_)); (fail_if_success (with_reducible refine atDrawn ?_)); (fail_if_success (with_reducible refine atEnd ?_)); (with_reducible refine atRun ?_); refine go 200 ?_; conv => whnf))
  · exact ⟨by rw [pub_hit (k := k) (by omega) (by simp [pubN, *])]; rfl, rfl⟩
  · have hx : k = l.length := by omega
    rw [hx, List.take_length] at hno
    exact ⟨by rw [hno]; rfl, rfl⟩

/-- To that index all were published from another one on, and none that follows on it. -/
structure EndOf (l : List Note) (ring i e : Int) : Prop where
  le : i ≤ e
  max : i ≤ 4611686018427387904 → e ≤ 4611686018427387904
  all : ∀ j, i < j → j ≤ e → pub l ring j
  stop : ∀ n ∈ l, n.ring = ring → n.deed = 1 → n.right = true → n.lo - 1 ≤ e → n.seq ≤ e
theorem right_bd (n : Note) (h : n.right = true) : 0 ≤ n.lo ∧ n.lo ≤ n.seq ∧ n.seq ≤ 4611686018427387904 := by
  simp [Note.right] at h
  exact ⟨h.1.1, h.1.2, h.2⟩

structure EndP (l : List Note) (ring i e : Int) : Prop where
  le : i ≤ e
  max : i ≤ 4611686018427387904 → e ≤ 4611686018427387904
  all : ∀ j, i < j → j ≤ e → pub l ring j
def EndS (l : List Note) (ring e : Int) : Prop := ∀ n ∈ l, n.ring = ring → n.deed = 1 → n.right = true → n.lo - 1 ≤ e → n.seq ≤ e
theorem EndP.start (l : List Note) (ring i : Int) : EndP l ring i i := ⟨Int.le_refl _, id, fun j h1 h2 => by omega⟩
theorem EndP.step {l : List Note} {ring i e : Int} {k : Nat} (h : EndP l ring i e) (hk : k < l.length) (h1 : l[k].ring = ring) (h2 : l[k].deed = 1) (h3 : l[k].right = true) (h4 : l[k].lo - 1 ≤ e) (h5 : e < l[k].seq) : EndP l ring i l[k].seq := by
  obtain ⟨a, b, c⟩ := right_bd _ h3
  refine ⟨by have := h.le; omega, fun _ => c, fun j x y => ?_⟩
  by_cases hj : j ≤ e
  · exact h.all j x hj
  · exact ⟨l[k], List.getElem_mem hk, by simp [pubN, h1, h2, h3]; omega⟩
structure EnSt where
  i : Int
  mv : Bool
structure EnIn where
  k : Nat
  i : Int
  mv : Bool
structure EnI (l : List Note) (ring i0 i1 : Int) (x : EnIn) : Prop where
  k : x.k ≤ l.length
  le : i1 ≤ x.i
  P : EndP l ring i0 x.i
  no : x.mv = false → x.i = i1
  yes : x.mv = true → i1 < x.i ∧ x.i ≤ 4611686018427387904
  stop : x.mv = false → ∀ n ∈ l.take x.k, n.ring = ring → n.deed = 1 → n.right = true → n.lo - 1 ≤ x.i → n.seq ≤ x.i
theorem EnI.hit {l : List Note} {ring i0 i1 : Int} {x : EnIn} (h : EnI l ring i0 i1 x) (hk : x.k < l.length) (h1 : l[x.k].ring = ring) (h2 : l[x.k].deed = 1) (h3 : l[x.k].right = true) (h4 : l[x.k].lo - 1 ≤ x.i) (h5 : x.i < l[x.k].seq) : EnI l ring i0 i1 ⟨x.k + 1, l[x.k].seq, true⟩ := by
  have := h.le
  refine ⟨hk, by show i1 ≤ l[x.k].seq; omega, h.P.step hk h1 h2 h3 h4 h5, fun h => (by cases h), fun _ => ⟨by show i1 < l[x.k].seq; omega, (right_bd _ h3).2.2⟩, fun h => (by cases h)⟩
theorem EnI.skip {l : List Note} {ring i0 i1 : Int} {x : EnIn} (h : EnI l ring i0 i1 x) (hk : x.k < l.length) (hn : ¬ (l[x.k].ring = ring ∧ l[x.k].deed = 1 ∧ l[x.k].right = true ∧ l[x.k].lo - 1 ≤ x.i ∧ x.i < l[x.k].seq)) : EnI l ring i0 i1 ⟨x.k + 1, x.i, x.mv⟩ := by
  refine ⟨hk, h.le, h.P, h.no, h.yes, fun hm n hn2 => ?_⟩
  rw [List.take_succ_eq_append_getElem hk] at hn2
  rcases List.mem_append.1 hn2 with h1 | h1
  · exact h.stop hm n h1
  · obtain rfl := List.mem_singleton.1 h1
    intro a b c d
    show l[x.k].seq ≤ x.i
    by_cases he : l[x.k].seq ≤ x.i
    · exact he
    · exact absurd ⟨a, b, c, d, by omega⟩ hn
set_option maxHeartbeats 4000000 in
theorem End_ok (S : SP) (A : Option Addr) (c : Nat) (l : List Note) (ring i : Int) (hi : -9223372036854775808 ≤ i) (hl : l.length ≤ 2199023255488) (hs : Sees S A l.length 8 (notes l)) :
    FnOk Try.prog 14 [.slice A l.length c, .int .i64 ring, .int .i64 i] [S] (fun v Q => ∃ e, v = .int .i64 e ∧ EndOf l ring i e ∧ Q = [S]) := by
  refine FnOk.start Try.func14 rfl rfl rfl rfl fun F os tape output => ?_
  refine go 200 ?_
  conv => whnf
  refine Nx.loop (X := EnSt) (fun x => EndP l ring i x.i ∧ (x.mv = false → EndS l ring x.i)) (fun x => if x.mv then (4611686018427387906 - x.i).toNat + 1 else 0)
    (fun x => [(0, sl A l.length c), (1, iv ring), (2, iv x.i), (7, bv x.mv)]) (fun _ => []) [] (fun _ => [(0, S)])
    ⟨i, true⟩ ⟨EndP.start l ring i, by simp⟩ ?_ ?_ ?_ ?_ ?_
  · exact .cons rfl rfl (.cons rfl rfl (.cons rfl rfl (.cons' rfl (fun _ => rfl) (.nil _))))
  · repeat (first | exact subM.nil _ | refine subM.cons rfl rfl rfl ?_)
  · repeat (first | exact subB.nil _ | refine subB.cons rfl ?_)
  · repeat (first | exact subR.nil _ | refine subR.cons rfl rfl ?_)
  rintro ⟨i1, mv⟩ ⟨hP, hS⟩ ih
  dsimp only at hP hS
  repeat' (first
    | ((with_reducible refine atBr ?_); (first | refine BrM.t rfl ?_ | refine BrM.f rfl ?_ | refine BrM.dec (fun _ => ?_) (fun _ => ?_) | refine BrM.mk (fun _ => ?_) (fun _ => ?_)) <;> conv => whnf)
    | ((with_reducible refine atAr ?_); refine Ar.i64 (by omega) (by omega) ?_; conv => whnf)
    | ((with_reducible refine atRet ?_); refine Nx.ret [0] Try.func14 rfl rfl ?_; (skip))
    | ((with_reducible refine atOps ?_); refine go 200 ?_; conv => whnf)
    | ((with_reducible refine atPlan ?_); refine Nx.runP (n := 200) rfl (by repeat (first | exact subB.nil _ | refine subB.cons rfl ?_)) ?_; conv => whnf)
    | ((with_reducible refine atAftL ?_); refine Nx.late ?_)
    | ((fail_if_success (with_reducible refine atRet ?_)); (fail_if_success (with_reducible refine atLoop ?_)); (fail_if_success (with_reducible refine atIn ?_)); (fail_if_success (with_reducible refine atDrawn ?_)); (fail_if_success (with_reducible refine atEnd ?_)); (with_reducible refine atRun ?_); refine go 200 ?_; conv => whnf))
  · refine Nx.loop (X := EnIn) (EnI l ring i i1) (fun x => l.length - x.k)
      (fun x => [(0, sl A l.length c), (1, iv ring), (2, iv x.i), (7, bv x.mv), (8, iv x.k)]) (fun _ => []) [] (fun _ => [(0, S)])
      ⟨0, i1, false⟩ ⟨Nat.zero_le _, Int.le_refl _, hP, fun _ => rfl, fun h => (by cases h), fun _ => by simp⟩ ?_ ?_ ?_ ?_ ?_
    · exact .cons rfl rfl (.cons rfl rfl (.cons rfl rfl (.cons' rfl (fun _ => rfl) (.cons rfl rfl (.nil _)))))
    · repeat (first | exact subM.nil _ | refine subM.cons rfl rfl rfl ?_)
    · repeat (first | exact subB.nil _ | refine subB.cons rfl ?_)
    · repeat (first | exact subR.nil _ | refine subR.cons rfl rfl ?_)
    intro x hx ih2
    have hk := hx.k
    have hr : ∀ n : Note, n.right = true → 0 ≤ n.lo ∧ n.lo ≤ n.seq ∧ n.seq ≤ 4611686018427387904 := right_bd
    repeat' (first
      | ((with_reducible refine atBr ?_); (first | refine BrM.t rfl ?_ | refine BrM.f rfl ?_ | refine BrM.dec (fun _ => ?_) (fun _ => ?_) | refine BrM.mk (fun _ => ?_) (fun _ => ?_)) <;> conv => whnf)
      | ((with_reducible refine atAr ?_); refine Ar.i64 (by omega) (by omega) ?_; conv => whnf)
      | ((with_reducible refine atIdx ?_); refine Nx.idx 0 rfl rfl rfl Try.underlying22 rfl rfl rfl Note.enc_len hs rfl rfl (by omega) fun _ _ _ => ?_)
      | ((with_reducible refine atLoad ?_); first | (refine Nx.load1 0 rfl rfl rfl rfl (SeesAt.sub (by assumption) _ rfl) rfl ?_) | (refine Nx.load1 0 rfl rfl rfl rfl (by assumption) rfl ?_) | (refine Nx.load 0 rfl rfl rfl rfl (by assumption) rfl rfl ?_))
      | ((with_reducible refine (atCall 32) ?_); refine Nx.call [] [] rfl rfl rfl rfl rfl ((Right_ok (l[x.k]'(by omega)))) rfl fun v Q hQ => ?_; obtain ⟨rfl, rfl⟩ := hQ)
      | (refine Ar.i64 (by have := hr _ ‹_›; omega) (by have := hr _ ‹_›; omega) ?_; conv => whnf)
      | ((with_reducible refine atIn ?_); refine Nx.weak ((ih2 ⟨x.k + 1, (l[x.k]'(by omega)).seq, true⟩ ?_ ?_)) ?_ ?_ ?_ ?_ <;> (first | exact subM.nil _ | exact subB.nil _ | exact subR.nil _ | ((repeat (first | exact subE.nil _ | refine subE.cons rfl rfl ?_ | refine subE.cons' rfl (fun _ => rfl) ?_ | (refine subE.cons rfl ?_ ?_; · (simp; done)))); done) | ((repeat (first | exact subM.nil _ | refine subM.cons rfl rfl rfl ?_)); done) | ((repeat (first | exact subB.nil _ | refine subB.cons rfl ?_)); done) | ((repeat (first | exact subR.nil _ | refine subR.cons rfl rfl ?_)); done) | omega | (dsimp only; omega) | (exact hx.hit (by omega) ‹_› ‹_› ‹_› ‹_› (by omega))))
      | ((with_reducible refine atIn ?_); refine Nx.weak ((ih2 ⟨x.k + 1, x.i, x.mv⟩ ?_ ?_)) ?_ ?_ ?_ ?_ <;> (first | exact subM.nil _ | exact subB.nil _ | exact subR.nil _ | ((repeat (first | exact subE.nil _ | refine subE.cons rfl rfl ?_ | refine subE.cons' rfl (fun _ => rfl) ?_ | (refine subE.cons rfl ?_ ?_; · (simp; done)))); done) | ((repeat (first | exact subM.nil _ | refine subM.cons rfl rfl rfl ?_)); done) | ((repeat (first | exact subB.nil _ | refine subB.cons rfl ?_)); done) | ((repeat (first | exact subR.nil _ | refine subR.cons rfl rfl ?_)); done) | omega | (dsimp only; omega) | (exact hx.skip (by omega) (by rintro ⟨a, b, c, d, e⟩; first | omega | contradiction | simp_all)) | skip))
      | ((with_reducible refine atOps ?_); refine go 200 ?_; conv => whnf)
      | ((with_reducible refine atPlan ?_); refine Nx.runP (n := 200) rfl (by repeat (first | exact subB.nil _ | refine subB.cons rfl ?_)) ?_; conv => whnf)
      | ((with_reducible refine atAftL ?_); refine Nx.late ?_)
      | ((fail_if_success (with_reducible refine atRet ?_)); (fail_if_success (with_reducible refine atLoop ?_)); (fail_if_success (with_reducible refine atIn ?_)); (fail_if_success (with_reducible refine atDrawn ?_)); (fail_if_success (with_reducible refine atEnd ?_)); (with_reducible refine atRun ?_); refine go 200 ?_; conv => whnf))
    have hkl : x.k = l.length := by omega
    have ht : ({ i := i1, mv := mv } : EnSt).mv = true := ‹_›
    refine (ih ⟨x.i, x.mv⟩ ⟨hx.P, fun h => ?_⟩ ?_).weak ?_ ?_ ?_ ?_
    · have := hx.stop h
      rw [hkl, List.take_length] at this
      exact this
    · dsimp only at ht ⊢
      rw [ht]
      by_cases hm : x.mv = true
      · obtain ⟨a, b⟩ := hx.yes hm
        rw [hm]
        simp only [if_true]
        omega
      · rw [Bool.not_eq_true] at hm
        rw [hm]
        simp
    · exact .cons rfl rfl (.cons rfl rfl (.cons rfl rfl (.cons rfl rfl (.nil _))))
    · repeat (first | exact subM.nil _ | refine subM.cons rfl rfl rfl ?_)
    · repeat (first | exact subB.nil _ | refine subB.cons rfl ?_)
    · repeat (first | exact subR.nil _ | refine subR.cons rfl rfl ?_)
  · exact ⟨i1, rfl, ⟨hP.le, hP.max, hP.all, hS ‹_›⟩, rfl⟩
theorem EndOf.hi {l : List Note} {ring i e : Int} (h : EndOf l ring i e) {s : Span} (hs : s ∈ shown l ring) (h1 : s.lo ≤ i) (h2 : i ≤ s.hi) : e = s.hi := by
  obtain ⟨hn, hp⟩ := shown_norm l ring
  obtain ⟨s1, s2, s3⟩ := hn.1 s hs
  have hle := h.le
  have inS : ∀ j, s.lo ≤ j → j ≤ s.hi → pub l ring j := fun j a b => (hp j).1 ⟨s, hs, a, b⟩
  -- the index behind the span isn't published
  have hno : ¬ pub l ring (s.hi + 1) := fun hb => by
    obtain ⟨x, hx, a, b⟩ := (hp _).2 hb
    obtain ⟨x1, x2, x3⟩ := hn.1 x hx
    have key : ∀ (m : List Span), m.Pairwise (fun a b => a.hi + 1 < b.lo) → s ∈ m → x ∈ m → s = x ∨ s.hi + 1 < x.lo ∨ x.hi + 1 < s.lo := by
      intro m hm hs hx
      induction m with
      | nil => cases hs
      | cons y r ih =>
        rw [List.pairwise_cons] at hm
        rcases List.mem_cons.1 hs with e1 | q1 <;> rcases List.mem_cons.1 hx with e2 | q2
        · exact .inl (e1.trans e2.symm)
        · exact .inr (.inl (e1 ▸ hm.1 _ q2))
        · exact .inr (.inr (e2 ▸ hm.1 _ q1))
        · exact ih hm.2 q1 q2
    rcases key _ hn.2 hs hx with rfl | h | h <;> omega
  have h3 : e ≤ s.hi := by
    rcases Int.lt_or_le s.hi e with h4 | h4
    · exact absurd (h.all (s.hi + 1) (by omega) (by omega)) hno
    · exact h4
  rcases Int.lt_or_le e s.hi with h4 | h4
  · obtain ⟨n, hm, hb⟩ := inS (e + 1) (by omega) (by omega)
    simp [pubN] at hb
    obtain ⟨⟨⟨⟨a, b⟩, c⟩, d⟩, f⟩ := hb
    have := h.stop n hm a b c (by omega)
    omega
  · omega
end Go.Proofs.Ytnnhgopibbdlkaa
