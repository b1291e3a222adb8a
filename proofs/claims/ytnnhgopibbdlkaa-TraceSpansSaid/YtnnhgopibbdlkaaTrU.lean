/- TraceSpans: its walk. -/
import Derived.Test.YtnnhgopibbdlkaaTrS
import Derived.Test.YtnnhgopibbdlkaaTrE
import Derived.Test.YtnnhgopibbdlkaaSxo
namespace Go.Proofs.Ytnnhgopibbdlkaa
open Go.RowKit
attribute [local irreducible] Nx Ar BrM

theorem norm_get {l : List Span} (h : Norm l) {i j : Nat} (hj : j < l.length) (hi : i < j) : l[i].hi + 1 < l[j].lo :=
  List.pairwise_iff_getElem.1 h.2 i j (by omega) hj hi
theorem lengthOf_no {l : List Span} {i : Int} (h : ¬ has l i) : lengthOf l i = 0 := by
  induction l with
  | nil => rfl
  | cons x r ih =>
    rw [has_cons] at h
    rw [lengthOf, if_neg (fun c => h (.inl c)), ih (fun c => h (.inr c))]
theorem lengthOf_has {l : List Span} (hn : Norm l) {s : Span} {i : Int} (hs : s ∈ l) (h1 : s.lo ≤ i) (h2 : i ≤ s.hi) : lengthOf l i = s.hi - i + 1 := by
  induction l with
  | nil => cases hs
  | cons x r ih =>
    obtain ⟨hx, hab, hr⟩ := Norm.cons.1 hn
    rcases List.mem_cons.1 hs with rfl | hs
    · rw [lengthOf, if_pos ⟨h1, h2⟩]
    · have := hab s hs
      rw [lengthOf, if_neg (by omega), ih hr hs]
def hasB (l : List Span) (i : Int) : Bool := l.any fun x => decide (x.lo ≤ i) && decide (i ≤ x.hi)
theorem hasB_iff {l : List Span} {i : Int} : hasB l i = true ↔ has l i := by simp [hasB, has]
theorem hasB_pub (l : List Note) (ring i : Int) : hasB (shown l ring) i = pubB l ring i := by
  rw [Bool.eq_iff_iff, hasB_iff, pubB_iff]
  exact (shown_norm l ring).2 i
theorem hasB_succ {l : List Span} {k : Nat} (h : k < l.length) (i : Int) : hasB (l.take (k + 1)) i = (hasB (l.take k) i || (decide (l[k].lo ≤ i) && decide (i ≤ l[k].hi))) := by
  unfold hasB
  rw [List.take_succ_eq_append_getElem h, List.any_append]
  simp

theorem resl_zero (A : Option Addr) (m sz : Nat) : resl A 0 m sz = A := by
  unfold resl
  split
  · rfl
  · cases A <;> simp [Addr.add]
structure SpB where
  j : Nat
  P : SP
  A : Option Addr
  c : Nat
  l : List Int
structure SpBI (n m : Nat) (x : SpB) : Prop where
  j : x.j ≤ m
  see : Sees x.P x.A x.l.length 1 (ints x.l)
  len : x.l.length = n + 2 * x.j
  cap : x.l.length ≤ x.c
structure SpD where
  j : Nat
  b : Bool

set_option maxHeartbeats 8000000 in
theorem TraceSpans_ok (S T : SP) (A D : Option Addr) (c d : Nat) (l : List Note) (asks : List Int) (ring : Int) (hcd : asks.length ≤ d) (hs : Sees S A l.length 8 (notes l)) (ht : Sees T D asks.length 1 (ints asks)) :
    FnOk Try.prog 3 [.slice A l.length c, .int .i64 ring, .slice D asks.length d] [S, T] (fun v Q => v = .bool true ∧ Q = [S]) := by
  refine FnOk.start Try.func3 rfl rfl rfl rfl fun F os tape output => ?_
  refine go 200 ?_
  conv => whnf
  refine Nx.call [0] [0] rfl rfl rfl rfl rfl (small_ok S A c l.length) rfl fun v Q hQ => ?_
  obtain ⟨rfl, rfl⟩ := hQ
  by_cases h0 : l.length ≤ 120
  · have hl : l.length ≤ 2199023255488 := by omega
    rw [decide_eq_true h0]
    repeat' (first
      | ((with_reducible refine atBr ?_); (first | refine BrM.t rfl ?_ | refine BrM.f rfl ?_ | refine BrM.dec (fun _ => ?_) (fun _ => ?_) | refine BrM.mk (fun _ => ?_) (fun _ => ?_)) <;> conv => whnf)
      | ((with_reducible refine atAr ?_); refine Ar.i64 (by omega) (by omega) ?_; conv => whnf)
      | ((with_reducible refine (atCall 11) ?_); refine Nx.call [] [] rfl rfl rfl rfl rfl (awake_ok) rfl fun v Q hQ => ?_; obtain ⟨rfl, rfl⟩ := hQ)
      | ((with_reducible refine atRet ?_); refine Nx.ret [0] Try.func3 rfl rfl ?_; (exact ⟨rfl, rfl⟩))
      | ((with_reducible refine atOps ?_); refine go 200 ?_; conv => whnf)
      | ((with_reducible refine atPlan ?_); refine Nx.runP (n := 200) rfl (by repeat (first | exact subB.nil _ | refine subB.cons rfl ?_)) ?_; conv => whnf)
      | ((with_reducible refine atAftL ?_); refine Nx.late ?_)
      | ((fail_if_success (with_reducible refine atRet ?_)); (fail_if_success (with_reducible refine atLoop ?_)); (fail_if_success (with_reducible refine atIn ?_)); (fail_if_success (with_reducible refine atDrawn ?_)); (fail_if_success (with_reducible refine atEnd ?_)); (with_reducible refine atRun ?_); refine go 200 ?_; conv => whnf))
    have hask : asks.length ≤ 60 := by omega
    obtain ⟨hnorm, hpub⟩ := shown_norm l ring
    have hhas := hasB_pub l ring
    have hend : ∀ {i e : Int}, EndOf l ring i e → ∀ s ∈ shown l ring, s.lo ≤ i → i ≤ s.hi → e = s.hi := fun h s hs h1 h2 => h.hi hs h1 h2
    have hsl : (shown l ring).length ≤ 120 := by
      have := (shown_inv (l.filter (atP ring [1])) [] (by simp)).2
      have h2 := List.length_filter_le (atP ring [1]) l
      unfold shown
      simp at this
      omega
    refine Nx.call [0] [0,2] rfl rfl rfl rfl rfl (Shown_ok S _ _ l ring hl hs) rfl fun v Q hQ => ?_
    obtain ⟨A1, c1, rfl, rfl⟩ := hQ
    have hsh : lengthOf (shown l ring) = lengthOf (shown l ring) := rfl
    obtain ⟨sh, hshe⟩ : ∃ sh, sh = shown l ring := ⟨_, rfl⟩
    rw [← hshe] at hnorm hpub hhas hend hsl ⊢
    repeat' (first
      | ((with_reducible refine atBr ?_); (first | refine BrM.t rfl ?_ | refine BrM.f rfl ?_ | refine BrM.dec (fun _ => ?_) (fun _ => ?_) | refine BrM.mk (fun _ => ?_) (fun _ => ?_)) <;> conv => whnf)
      | ((with_reducible refine atAr ?_); refine Ar.i64 (by omega) (by omega) ?_; conv => whnf)
      | (fail)
      | ((with_reducible refine atOps ?_); refine go 200 ?_; conv => whnf)
      | ((with_reducible refine atPlan ?_); refine Nx.runP (n := 200) rfl (by repeat (first | exact subB.nil _ | refine subB.cons rfl ?_)) ?_; conv => whnf)
      | ((with_reducible refine atAftL ?_); refine Nx.late ?_)
      | ((fail_if_success (with_reducible refine atRet ?_)); (fail_if_success (with_reducible refine atLoop ?_)); (fail_if_success (with_reducible refine atIn ?_)); (fail_if_success (with_reducible refine atDrawn ?_)); (fail_if_success (with_reducible refine atEnd ?_)); (with_reducible refine atRun ?_); refine go 200 ?_; conv => whnf))
    refine Nx.loop (X := Nat) (fun k => k ≤ sh.length) (fun k => sh.length - k)
      (fun k => [(0, sl A l.length c), (1, iv ring), (2, sl D asks.length d), (7, sl A1 sh.length c1), (30, sl A1 sh.length c1), (31, iv sh.length), (32, iv k)]) (fun _ => []) []
      (fun _ => [(0, S), (1, T), (2, ownS 29 A1 sh.length c1 2 (spans sh))])
      0 (Nat.zero_le _) ?_ ?_ ?_ ?_ ?_
    · repeat (first | exact subE.nil _ | refine subE.cons rfl rfl ?_ | refine subE.cons' rfl (fun _ => rfl) ?_)
    · repeat (first | exact subM.nil _ | refine subM.cons rfl rfl rfl ?_)
    · repeat (first | exact subB.nil _ | refine subB.cons rfl ?_)
    · repeat (first | exact subR.nil _ | refine subR.cons rfl rfl ?_)
    intro k hk ih
    by_cases hlt : k < sh.length
    · obtain ⟨x1, x2, x3⟩ := hnorm.1 _ (List.getElem_mem hlt)
      have hin : pubB l ring (sh[k]'hlt).lo = true := pubB_iff.2 ((hpub _).1 ⟨_, List.getElem_mem hlt, Int.le_refl _, x2⟩)
      have hin' : (!pubB l ring (sh[k]'hlt).lo) = false := by rw [hin]; rfl
      have hgap : 0 < k → (sh[k - 1]'(by omega)).hi + 1 < (sh[k]'hlt).lo := fun h => norm_get hnorm hlt (by omega)
      repeat' (first
        | ((with_reducible refine atBr ?_); refine BrM.yes (by omega) ?_; conv => whnf)
        | ((with_reducible refine atBr ?_); refine BrM.not (by omega) ?_; conv => whnf)
        | ((with_reducible refine atBr ?_); refine BrM.f (hin') ?_; conv => whnf)
        | ((with_reducible refine atBr ?_); refine BrM.not (fun hh => hh (hend he _ (List.getElem_mem hlt) (Int.le_refl _) x2)) ?_; conv => whnf)
        | ((with_reducible refine atBr ?_); refine BrM.not (by have := hgap (by omega); omega) ?_; conv => whnf)
        | ((with_reducible refine atBr ?_); (first | refine BrM.t rfl ?_ | refine BrM.f rfl ?_ | refine BrM.dec (fun _ => ?_) (fun _ => ?_) | refine BrM.mk (fun _ => ?_) (fun _ => ?_)) <;> conv => whnf)
        | ((with_reducible refine atAr ?_); refine Ar.i64 (by omega) (by omega) ?_; conv => whnf)
        | ((with_reducible refine atIdx ?_); refine Nx.idx 2 rfl rfl rfl Try.underlying26 rfl rfl rfl Span.enc_len (ownS_sees _ _ _ _ _ _) rfl rfl (by omega) fun _ _ _ => ?_)
        | ((with_reducible refine atLoad ?_); first | (refine Nx.load1 2 rfl rfl rfl rfl (SeesAt.sub (by assumption) _ rfl) rfl ?_) | (refine Nx.load1 2 rfl rfl rfl rfl (by assumption) rfl ?_) | (refine Nx.load 2 rfl rfl rfl rfl (by assumption) rfl rfl ?_))
        | ((with_reducible refine atDrawn ?_); refine Nx.bind (l := 9) (fun _ => ?_) rfl; refine Nx.drawn0 [0,2] [.pure 0, .held 1, .pure 2, .held 3, .pure 4, .pure 5, .pure 6, .held 7, .pure 8, .pure 9, .pure 10, .pure 11, .held 12, .pure 13, .pure 14, .pure 15, .pure 16, .pure 17, .pure 18, .pure 19, .pure 20, .pure 21, .pure 22, .pure 23, .held 24, .pure 25, .held 26, .pure 27, .pure 28, .pure 29, .pure 30, .pure 31, .pure 32, .pure 33, .pure 34, .held 35, .ex 36 true, .pure 37, .pure 38, .pure 39, .pure 40, .pure 41, .pure 42, .held 43, .pure 45, .held 46, .ex 44 true, .pure 47, .pure 48] rfl (by kernel_rfl) rfl (by kernel_rfl) rfl (by repeat (first | exact subB.nil _ | refine subB.cons rfl ?_)) rfl ?_)
        | (refine Nx.hoIdx 2 (j := k - 1) rfl rfl rfl Try.underlying26 rfl rfl rfl Span.enc_len (ownS_sees _ _ _ _ _ _) rfl (by omega) (by omega) fun _ _ _ => ?_)
        | ((with_reducible refine atHoLoad ?_); first | (refine Nx.hoLoad1 rfl rfl rfl rfl List.mem_cons_self (SeesAt.sub (by assumption) _ rfl) rfl ?_) | (refine Nx.hoLoad1 rfl rfl rfl rfl List.mem_cons_self (by assumption) rfl ?_) | (refine Nx.hoLoad rfl rfl rfl rfl List.mem_cons_self (by assumption) rfl rfl ?_) | (refine Nx.hoLoad1 rfl rfl rfl rfl (List.mem_cons_of_mem _ List.mem_cons_self) (SeesAt.sub (by assumption) _ rfl) rfl ?_) | (refine Nx.hoLoad1 rfl rfl rfl rfl (List.mem_cons_of_mem _ List.mem_cons_self) (by assumption) rfl ?_) | (refine Nx.hoLoad rfl rfl rfl rfl (List.mem_cons_of_mem _ List.mem_cons_self) (by assumption) rfl rfl ?_) | (refine Nx.hoLoad1 rfl rfl rfl rfl (List.mem_cons_of_mem _ (List.mem_cons_of_mem _ List.mem_cons_self)) (SeesAt.sub (by assumption) _ rfl) rfl ?_) | (refine Nx.hoLoad1 rfl rfl rfl rfl (List.mem_cons_of_mem _ (List.mem_cons_of_mem _ List.mem_cons_self)) (by assumption) rfl ?_) | (refine Nx.hoLoad rfl rfl rfl rfl (List.mem_cons_of_mem _ (List.mem_cons_of_mem _ List.mem_cons_self)) (by assumption) rfl rfl ?_) | (refine Nx.hoLoad1 rfl rfl rfl rfl (List.mem_cons_of_mem _ (List.mem_cons_of_mem _ (List.mem_cons_of_mem _ List.mem_cons_self))) (SeesAt.sub (by assumption) _ rfl) rfl ?_) | (refine Nx.hoLoad1 rfl rfl rfl rfl (List.mem_cons_of_mem _ (List.mem_cons_of_mem _ (List.mem_cons_of_mem _ List.mem_cons_self))) (by assumption) rfl ?_) | (refine Nx.hoLoad rfl rfl rfl rfl (List.mem_cons_of_mem _ (List.mem_cons_of_mem _ (List.mem_cons_of_mem _ List.mem_cons_self))) (by assumption) rfl rfl ?_))
        | ((with_reducible refine atAftK ?_); refine Nx.keepN [0,2] rfl (by repeat (first | exact subB.nil _ | refine subB.cons rfl ?_)) (by repeat (first | exact subM.nil _ | refine subM.cons rfl rfl rfl ?_)) rfl ?_)
        | ((with_reducible refine (atCall 13) ?_); refine Nx.call [0] [0] rfl rfl rfl rfl rfl ((In_ok S _ _ l ring _ hl hs)) rfl fun v Q hQ => ?_; obtain ⟨rfl, rfl⟩ := hQ)
        | ((with_reducible refine (atCall 14) ?_); refine Nx.call [0] [0] rfl rfl rfl rfl rfl ((End_ok S _ _ l ring _ (by omega) hl hs)) rfl fun v Q hQ => ?_; obtain ⟨e,rfl,he,rfl⟩ := hQ)
        | ((with_reducible refine atIn ?_); refine Nx.weak ((ih (k + 1) ?_ ?_)) ?_ ?_ ?_ ?_ <;> (first | exact subM.nil _ | exact subB.nil _ | exact subR.nil _ | ((repeat (first | exact subE.nil _ | refine subE.cons rfl rfl ?_ | refine subE.cons' rfl (fun _ => rfl) ?_ | (refine subE.cons rfl ?_ ?_; · (simp; done)))); done) | ((repeat (first | exact subM.nil _ | refine subM.cons rfl rfl rfl ?_)); done) | ((repeat (first | exact subB.nil _ | refine subB.cons rfl ?_)); done) | ((repeat (first | exact subR.nil _ | refine subR.cons rfl rfl ?_)); done) | omega | (dsimp only; omega) | (omega) | skip))
        | ((with_reducible refine atOps ?_); refine go 200 ?_; conv => whnf)
        | ((with_reducible refine atPlan ?_); refine Nx.runP (n := 200) rfl (by repeat (first | exact subB.nil _ | refine subB.cons rfl ?_)) ?_; conv => whnf)
        | ((with_reducible refine atAftL ?_); refine Nx.late ?_)
        | ((fail_if_success (with_reducible refine atRet ?_)); (fail_if_success (with_reducible refine atLoop ?_)); (fail_if_success (with_reducible refine atIn ?_)); (fail_if_success (with_reducible refine atDrawn ?_)); (fail_if_success (with_reducible refine atEnd ?_)); (with_reducible refine atRun ?_); refine go 200 ?_; conv => whnf))
    · repeat' (first
        | ((with_reducible refine atBr ?_); refine BrM.not (by omega) ?_; conv => whnf)
        | ((with_reducible refine atBr ?_); (first | refine BrM.t rfl ?_ | refine BrM.f rfl ?_ | refine BrM.dec (fun _ => ?_) (fun _ => ?_) | refine BrM.mk (fun _ => ?_) (fun _ => ?_)) <;> conv => whnf)
        | ((with_reducible refine atAr ?_); refine Ar.i64 (by omega) (by omega) ?_; conv => whnf)
        | ((with_reducible refine atOps ?_); refine go 200 ?_; conv => whnf)
        | ((with_reducible refine atPlan ?_); refine Nx.runP (n := 200) rfl (by repeat (first | exact subB.nil _ | refine subB.cons rfl ?_)) ?_; conv => whnf)
        | ((with_reducible refine atAftL ?_); refine Nx.late ?_)
        | ((fail_if_success (with_reducible refine atRet ?_)); (fail_if_success (with_reducible refine atLoop ?_)); (fail_if_success (with_reducible refine atIn ?_)); (fail_if_success (with_reducible refine atDrawn ?_)); (fail_if_success (with_reducible refine atEnd ?_)); (with_reducible refine atRun ?_); refine go 200 ?_; conv => whnf))
      refine Nx.loop (X := SpB) (SpBI asks.length l.length) (fun x => l.length - x.j)
        (fun x => [(0, sl A l.length c), (1, iv ring), (2, sl x.A x.l.length x.c), (7, sl A1 sh.length c1), (87, sl A l.length c), (88, iv l.length), (89, iv x.j)]) (fun _ => []) []
        (fun x => [(0, S), (1, x.P), (2, ownS 29 A1 sh.length c1 2 (spans sh))])
        ⟨0, T, D, d, asks⟩ ⟨Nat.zero_le _, ht, rfl, hcd⟩ ?_ ?_ ?_ ?_ ?_
      · repeat (first | exact subE.nil _ | refine subE.cons rfl rfl ?_ | refine subE.cons' rfl (fun _ => rfl) ?_)
      · repeat (first | exact subM.nil _ | refine subM.cons rfl rfl rfl ?_)
      · repeat (first | exact subB.nil _ | refine subB.cons rfl ?_)
      · repeat (first | exact subR.nil _ | refine subR.cons rfl rfl ?_)
      intro x hx ih2
      have hxj := hx.j
      have hxl := hx.len
      have hxc := hx.cap
      repeat' (first
        | ((with_reducible refine atBr ?_); (first | refine BrM.t rfl ?_ | refine BrM.f rfl ?_ | refine BrM.dec (fun _ => ?_) (fun _ => ?_) | refine BrM.mk (fun _ => ?_) (fun _ => ?_)) <;> conv => whnf)
        | ((with_reducible refine atAr ?_); refine Ar.i64 (by omega) (by omega) ?_; conv => whnf)
        | ((with_reducible refine atIdx ?_); refine Nx.idx 0 rfl rfl rfl Try.underlying22 rfl rfl rfl Note.enc_len hs rfl rfl (by omega) fun _ _ _ => ?_)
        | ((with_reducible refine atLoad ?_); first | (refine Nx.load1 0 rfl rfl rfl rfl (SeesAt.sub (by assumption) _ rfl) rfl ?_) | (refine Nx.load1 0 rfl rfl rfl rfl (by assumption) rfl ?_) | (refine Nx.load 0 rfl rfl rfl rfl (by assumption) rfl rfl ?_))
        | ((with_reducible refine atDrawn ?_); refine Nx.bind (l := 11) (fun _ => ?_) rfl; refine Nx.drawn0 [0,1,2] [.pure 0, .pure 1, .pure 2, .pure 3, .pure 4, .pure 5, .pure 6, .held 7, .pure 8, .held 9, .ex 10 true, .ex 11 true, .pure 12] rfl (by kernel_rfl) rfl (by kernel_rfl) rfl (by repeat (first | exact subB.nil _ | refine subB.cons rfl ?_)) rfl ?_)
        | ((with_reducible refine atAftK ?_); refine Nx.keepN [0,1,2] rfl (by repeat (first | exact subB.nil _ | refine subB.cons rfl ?_)) (by repeat (first | exact subM.nil _ | refine subM.cons rfl rfl rfl ?_)) rfl ?_)
        | (refine Nx.hoReslice (sz := 1) (by_ := 8) (l := 0) (h := x.l.length) (m := x.l.length) rfl rfl Try.underlying23 rfl rfl rfl rfl rfl (fun _ => rfl) (by omega) (by omega) hxc ?_)
        | ((with_reducible refine atOps ?_); refine go 200 ?_; conv => whnf)
        | ((with_reducible refine atPlan ?_); refine Nx.runP (n := 200) rfl (by repeat (first | exact subB.nil _ | refine subB.cons rfl ?_)) ?_; conv => whnf)
        | ((with_reducible refine atAftL ?_); refine Nx.late ?_)
        | ((fail_if_success (with_reducible refine atRet ?_)); (fail_if_success (with_reducible refine atLoop ?_)); (fail_if_success (with_reducible refine atIn ?_)); (fail_if_success (with_reducible refine atDrawn ?_)); (fail_if_success (with_reducible refine atEnd ?_)); (with_reducible refine atRun ?_); refine go 200 ?_; conv => whnf))
      · rw [resl_zero, Nat.sub_zero]
        refine Nx.appendG 3 1 (sz := 1) (by_ := 8) (news := [.int .i64 (l[x.j]'(by omega)).lo, .int .i64 (l[x.j]'(by omega)).seq]) rfl rfl rfl rfl rfl Try.underlying23 rfl rfl rfl hx.see (by omega) rfl (by unfold maxLen; omega) (by omega) fun B3 c3 => ?_
        refine Nx.fact 3 (p := x.l.length + 2 ≤ c3) rfl (fun r h hs => (ownS_fit hs).1) fun hfit => ?_
        repeat' (first
          | ((with_reducible refine atBr ?_); (first | refine BrM.t rfl ?_ | refine BrM.f rfl ?_ | refine BrM.dec (fun _ => ?_) (fun _ => ?_) | refine BrM.mk (fun _ => ?_) (fun _ => ?_)) <;> conv => whnf)
          | ((with_reducible refine atAr ?_); refine Ar.i64 (by omega) (by omega) ?_; conv => whnf)
          | ((with_reducible refine atAftK ?_); refine Nx.keepN [0,1,2] rfl (by repeat (first | exact subB.nil _ | refine subB.cons rfl ?_)) (by repeat (first | exact subM.nil _ | refine subM.cons rfl rfl rfl ?_)) rfl ?_)
          | ((with_reducible refine atOps ?_); refine go 200 ?_; conv => whnf)
          | ((with_reducible refine atPlan ?_); refine Nx.runP (n := 200) rfl (by repeat (first | exact subB.nil _ | refine subB.cons rfl ?_)) ?_; conv => whnf)
          | ((with_reducible refine atAftL ?_); refine Nx.late ?_)
          | ((fail_if_success (with_reducible refine atRet ?_)); (fail_if_success (with_reducible refine atLoop ?_)); (fail_if_success (with_reducible refine atIn ?_)); (fail_if_success (with_reducible refine atDrawn ?_)); (fail_if_success (with_reducible refine atEnd ?_)); (with_reducible refine atRun ?_); refine go 200 ?_; conv => whnf))
        refine Nx.turn [3] [1] _ rfl (fun r h hs => hs) ?_
        refine (ih2 ⟨x.j + 1, ownS 2 B3 (x.l.length + 2) c3 1 (ints x.l ++ [.int .i64 (l[x.j]'(by omega)).lo, .int .i64 (l[x.j]'(by omega)).seq]), B3, c3, x.l ++ [(l[x.j]'(by omega)).lo, (l[x.j]'(by omega)).seq]⟩ ⟨by show x.j + 1 ≤ _; omega, ?_, by simp; omega, by simp; omega⟩ (by show l.length - (x.j + 1) < _; omega)).weak ?_ ?_ ?_ ?_
        · have := ownS_sees 2 B3 (x.l.length + 2) c3 1 (ints x.l ++ [.int .i64 (l[x.j]'(by omega)).lo, .int .i64 (l[x.j]'(by omega)).seq])
          simpa [ints, encI] using this
        · exact .cons rfl rfl (.cons rfl rfl (.cons rfl (by simp) (.cons rfl rfl (.cons rfl rfl (.cons rfl rfl (.cons rfl (by simp) (.nil _)))))))
        · repeat (first | exact subM.nil _ | refine subM.cons rfl rfl rfl ?_)
        · repeat (first | exact subB.nil _ | refine subB.cons rfl ?_)
        · repeat (first | exact subR.nil _ | refine subR.cons rfl rfl ?_)
      · obtain ⟨xj, P, B, cb, q⟩ := x
        dsimp only at hx hxj hxl hxc
        have hsee := hx.see
        dsimp only at hsee
        refine Nx.loop (X := Nat) (fun k => k ≤ q.length) (fun k => q.length - k)
          (fun k => [(0, sl A l.length c), (1, iv ring), (7, sl A1 sh.length c1), (106, sl B q.length cb), (107, iv q.length), (108, iv k)]) (fun _ => []) []
          (fun _ => [(0, S), (1, P), (2, ownS 29 A1 sh.length c1 2 (spans sh))])
          0 (Nat.zero_le _) ?_ ?_ ?_ ?_ ?_
        · repeat (first | exact subE.nil _ | refine subE.cons rfl rfl ?_ | refine subE.cons' rfl (fun _ => rfl) ?_)
        · repeat (first | exact subM.nil _ | refine subM.cons rfl rfl rfl ?_)
        · repeat (first | exact subB.nil _ | refine subB.cons rfl ?_)
        · repeat (first | exact subR.nil _ | refine subR.cons rfl rfl ?_)
        intro k hk ih3
        by_cases hlt : k < q.length
        · repeat' (first
            | ((with_reducible refine atBr ?_); refine BrM.yes (by omega) ?_; conv => whnf)
            | ((with_reducible refine atBr ?_); (first | refine BrM.t rfl ?_ | refine BrM.f rfl ?_ | refine BrM.dec (fun _ => ?_) (fun _ => ?_) | refine BrM.mk (fun _ => ?_) (fun _ => ?_)) <;> conv => whnf)
            | ((with_reducible refine atAr ?_); refine Ar.i64 (by omega) (by omega) ?_; conv => whnf)
            | (refine Nx.idx 1 rfl rfl rfl Try.underlying23 rfl rfl rfl encI_len hsee rfl rfl (by omega) fun _ _ _ => ?_)
            | ((with_reducible refine atLoad ?_); first | (refine Nx.load1 1 rfl rfl rfl rfl (SeesAt.sub (by assumption) _ rfl) rfl ?_) | (refine Nx.load1 1 rfl rfl rfl rfl (by assumption) rfl ?_) | (refine Nx.load 1 rfl rfl rfl rfl (by assumption) rfl rfl ?_))
            | ((with_reducible refine atOps ?_); refine go 200 ?_; conv => whnf)
            | ((with_reducible refine atPlan ?_); refine Nx.runP (n := 200) rfl (by repeat (first | exact subB.nil _ | refine subB.cons rfl ?_)) ?_; conv => whnf)
            | ((with_reducible refine atAftL ?_); refine Nx.late ?_)
            | ((fail_if_success (with_reducible refine atRet ?_)); (fail_if_success (with_reducible refine atLoop ?_)); (fail_if_success (with_reducible refine atIn ?_)); (fail_if_success (with_reducible refine atDrawn ?_)); (fail_if_success (with_reducible refine atEnd ?_)); (with_reducible refine atRun ?_); refine go 200 ?_; conv => whnf))
          generalize q[k] = i at *
          refine Nx.loop (X := Nat) (fun j => j ≤ sh.length) (fun j => sh.length - j)
            (fun j => [(0, sl A l.length c), (1, iv ring), (7, sl A1 sh.length c1), (13, iv i), (14, bv (hasB (sh.take j) i)), (106, sl B q.length cb), (107, iv q.length), (108, iv k), (112, sl A1 sh.length c1), (113, iv sh.length), (114, iv j)]) (fun _ => []) []
            (fun _ => [(0, S), (1, P), (2, ownS 29 A1 sh.length c1 2 (spans sh))])
            0 (Nat.zero_le _) ?_ ?_ ?_ ?_ ?_
          · exact .cons rfl rfl (.cons rfl rfl (.cons rfl rfl (.cons rfl rfl (.cons' rfl (fun _ => rfl) (.cons rfl rfl (.cons rfl rfl (.cons rfl rfl (.cons rfl rfl (.cons rfl rfl (.cons rfl rfl (.nil _)))))))))))
          · repeat (first | exact subM.nil _ | refine subM.cons rfl rfl rfl ?_)
          · repeat (first | exact subB.nil _ | refine subB.cons rfl ?_)
          · repeat (first | exact subR.nil _ | refine subR.cons rfl rfl ?_)
          intro j hj ih4
          by_cases hjl : j < sh.length
          · have hsu := hasB_succ hjl i
            repeat' (first
              | ((with_reducible refine atBr ?_); refine BrM.yes (by omega) ?_; conv => whnf)
              | ((with_reducible refine atBr ?_); (first | refine BrM.t rfl ?_ | refine BrM.f rfl ?_ | refine BrM.dec (fun _ => ?_) (fun _ => ?_) | refine BrM.mk (fun _ => ?_) (fun _ => ?_)) <;> conv => whnf)
              | ((with_reducible refine atAr ?_); refine Ar.i64 (by omega) (by omega) ?_; conv => whnf)
              | ((with_reducible refine atIdx ?_); refine Nx.idx 2 rfl rfl rfl Try.underlying26 rfl rfl rfl Span.enc_len (ownS_sees _ _ _ _ _ _) rfl rfl (by omega) fun _ _ _ => ?_)
              | ((with_reducible refine atLoad ?_); first | (refine Nx.load1 2 rfl rfl rfl rfl (SeesAt.sub (by assumption) _ rfl) rfl ?_) | (refine Nx.load1 2 rfl rfl rfl rfl (by assumption) rfl ?_) | (refine Nx.load 2 rfl rfl rfl rfl (by assumption) rfl rfl ?_))
              | ((with_reducible refine atOps ?_); refine go 200 ?_; conv => whnf)
              | ((with_reducible refine atPlan ?_); refine Nx.runP (n := 200) rfl (by repeat (first | exact subB.nil _ | refine subB.cons rfl ?_)) ?_; conv => whnf)
              | ((with_reducible refine atAftL ?_); refine Nx.late ?_)
              | ((fail_if_success (with_reducible refine atRet ?_)); (fail_if_success (with_reducible refine atLoop ?_)); (fail_if_success (with_reducible refine atIn ?_)); (fail_if_success (with_reducible refine atDrawn ?_)); (fail_if_success (with_reducible refine atEnd ?_)); (with_reducible refine atRun ?_); refine go 200 ?_; conv => whnf))
            all_goals
              refine Nx.weak (ih4 (j + 1) (by omega) (by omega)) ?_ ?_ ?_ ?_
              · first
                  | exact .cons rfl rfl (.cons rfl rfl (.cons rfl rfl (.cons rfl rfl (.cons' rfl (fun _ => congrArg Value.bool (Eq.symm (a := hasB (sh.take (j + 1)) i) (b := true) (by rw [hsu, ‹hasB (sh.take j) i = true›]; rfl))) (.cons rfl rfl (.cons rfl rfl (.cons rfl rfl (.cons rfl rfl (.cons rfl rfl (.cons rfl (by simp) (.nil _)))))))))))
                  | exact .cons rfl rfl (.cons rfl rfl (.cons rfl rfl (.cons rfl rfl (.cons' rfl (fun _ => congrArg Value.bool (Eq.symm (a := hasB (sh.take (j + 1)) i) (b := false) (by rw [hsu, ‹hasB (sh.take j) i = false›, decide_eq_false ‹¬ (sh[j]'hjl).lo ≤ i›]; rfl))) (.cons rfl rfl (.cons rfl rfl (.cons rfl rfl (.cons rfl rfl (.cons rfl rfl (.cons rfl (by simp) (.nil _)))))))))))
                  | exact .cons rfl rfl (.cons rfl rfl (.cons rfl rfl (.cons rfl rfl (.cons' rfl (fun _ => congrArg Value.bool (Eq.symm (a := hasB (sh.take (j + 1)) i) (b := decide (i ≤ (sh[j]'hjl).hi)) (by rw [hsu, ‹hasB (sh.take j) i = false›, decide_eq_true ‹(sh[j]'hjl).lo ≤ i›]; rfl))) (.cons rfl rfl (.cons rfl rfl (.cons rfl rfl (.cons rfl rfl (.cons rfl rfl (.cons rfl (by simp) (.nil _)))))))))))
              · repeat (first | exact subM.nil _ | refine subM.cons rfl rfl rfl ?_)
              · repeat (first | exact subB.nil _ | refine subB.cons rfl ?_)
              · repeat (first | exact subR.nil _ | refine subR.cons rfl rfl ?_)
          · have hjt : hasB (sh.take j) i = pubB l ring i := by rw [List.take_of_length_le (by omega)]; exact hhas i
            rw [hjt]
            have hI := In_ok S A c l ring i hl hs
            have hL := Length_ok S A c l ring i hl hs
            cases hp : pubB l ring i with
            | true =>
              rw [hp] at hI
              obtain ⟨s, hsm, s1, s2⟩ := (hpub i).2 (pubB_iff.1 hp)
              obtain ⟨x1, x2, x3⟩ := hnorm.1 s hsm
              rw [← hshe, lengthOf_has hnorm hsm s1 s2] at hL
              have hE : FnOk Try.prog 14 [.slice A l.length c, .int .i64 ring, .int .i64 i] [S] (fun v Q => v = .int .i64 s.hi ∧ Q = [S]) :=
                (End_ok S A c l ring i (by omega) hl hs).mono fun v Q ⟨e, h1, h2, h3⟩ => ⟨by rw [h1, hend h2 s hsm s1 s2], h3⟩
              repeat' (first
                | ((with_reducible refine atBr ?_); refine BrM.not (by omega) ?_; conv => whnf)
                | ((with_reducible refine atBr ?_); refine BrM.not (fun hh => hh rfl) ?_; conv => whnf)
                | ((with_reducible refine atBr ?_); (first | refine BrM.t rfl ?_ | refine BrM.f rfl ?_ | refine BrM.dec (fun _ => ?_) (fun _ => ?_) | refine BrM.mk (fun _ => ?_) (fun _ => ?_)) <;> conv => whnf)
                | ((with_reducible refine atAr ?_); refine Ar.i64 (by omega) (by omega) ?_; conv => whnf)
                | ((with_reducible refine (atCall 13) ?_); refine Nx.call [0] [0] rfl rfl rfl rfl rfl (hI) rfl fun v Q hQ => ?_; obtain ⟨rfl, rfl⟩ := hQ)
                | ((with_reducible refine (atCall 14) ?_); refine Nx.call [0] [0] rfl rfl rfl rfl rfl (hE) rfl fun v Q hQ => ?_; obtain ⟨rfl, rfl⟩ := hQ)
                | ((with_reducible refine (atCall 15) ?_); refine Nx.call [0] [0] rfl rfl rfl rfl rfl (hL) rfl fun v Q hQ => ?_; obtain ⟨rfl, rfl⟩ := hQ)
                | ((with_reducible refine atIn ?_); refine Nx.weak ((ih3 (k + 1) ?_ ?_)) ?_ ?_ ?_ ?_ <;> (first | exact subM.nil _ | exact subB.nil _ | exact subR.nil _ | ((repeat (first | exact subE.nil _ | refine subE.cons rfl rfl ?_ | refine subE.cons' rfl (fun _ => rfl) ?_ | (refine subE.cons rfl ?_ ?_; · (simp; done)))); done) | ((repeat (first | exact subM.nil _ | refine subM.cons rfl rfl rfl ?_)); done) | ((repeat (first | exact subB.nil _ | refine subB.cons rfl ?_)); done) | ((repeat (first | exact subR.nil _ | refine subR.cons rfl rfl ?_)); done) | omega | (dsimp only; omega) | (omega) | skip))
                | ((with_reducible refine atOps ?_); refine go 200 ?_; conv => whnf)
                | ((with_reducible refine atPlan ?_); refine Nx.runP (n := 200) rfl (by repeat (first | exact subB.nil _ | refine subB.cons rfl ?_)) ?_; conv => whnf)
                | ((with_reducible refine atAftL ?_); refine Nx.late ?_)
                | ((fail_if_success (with_reducible refine atRet ?_)); (fail_if_success (with_reducible refine atLoop ?_)); (fail_if_success (with_reducible refine atIn ?_)); (fail_if_success (with_reducible refine atDrawn ?_)); (fail_if_success (with_reducible refine atEnd ?_)); (with_reducible refine atRun ?_); refine go 200 ?_; conv => whnf))
            | false =>
              rw [hp] at hI
              rw [← hshe, lengthOf_no (fun h => by rw [pubB_iff.2 ((hpub i).1 h)] at hp; cases hp)] at hL
              repeat' (first
                | ((with_reducible refine atBr ?_); refine BrM.not (by omega) ?_; conv => whnf)
                | ((with_reducible refine atBr ?_); refine BrM.not (fun hh => hh rfl) ?_; conv => whnf)
                | ((with_reducible refine atBr ?_); (first | refine BrM.t rfl ?_ | refine BrM.f rfl ?_ | refine BrM.dec (fun _ => ?_) (fun _ => ?_) | refine BrM.mk (fun _ => ?_) (fun _ => ?_)) <;> conv => whnf)
                | ((with_reducible refine atAr ?_); refine Ar.i64 (by omega) (by omega) ?_; conv => whnf)
                | ((with_reducible refine (atCall 13) ?_); refine Nx.call [0] [0] rfl rfl rfl rfl rfl (hI) rfl fun v Q hQ => ?_; obtain ⟨rfl, rfl⟩ := hQ)
                | ((with_reducible refine (atCall 15) ?_); refine Nx.call [0] [0] rfl rfl rfl rfl rfl (hL) rfl fun v Q hQ => ?_; obtain ⟨rfl, rfl⟩ := hQ)
                | ((with_reducible refine atIn ?_); refine Nx.weak ((ih3 (k + 1) ?_ ?_)) ?_ ?_ ?_ ?_ <;> (first | exact subM.nil _ | exact subB.nil _ | exact subR.nil _ | ((repeat (first | exact subE.nil _ | refine subE.cons rfl rfl ?_ | refine subE.cons' rfl (fun _ => rfl) ?_ | (refine subE.cons rfl ?_ ?_; · (simp; done)))); done) | ((repeat (first | exact subM.nil _ | refine subM.cons rfl rfl rfl ?_)); done) | ((repeat (first | exact subB.nil _ | refine subB.cons rfl ?_)); done) | ((repeat (first | exact subR.nil _ | refine subR.cons rfl rfl ?_)); done) | omega | (dsimp only; omega) | (omega) | skip))
                | ((with_reducible refine atOps ?_); refine go 200 ?_; conv => whnf)
                | ((with_reducible refine atPlan ?_); refine Nx.runP (n := 200) rfl (by repeat (first | exact subB.nil _ | refine subB.cons rfl ?_)) ?_; conv => whnf)
                | ((with_reducible refine atAftL ?_); refine Nx.late ?_)
                | ((fail_if_success (with_reducible refine atRet ?_)); (fail_if_success (with_reducible refine atLoop ?_)); (fail_if_success (with_reducible refine atIn ?_)); (fail_if_success (with_reducible refine atDrawn ?_)); (fail_if_success (with_reducible refine atEnd ?_)); (with_reducible refine atRun ?_); refine go 200 ?_; conv => whnf))
        · repeat' (first
            | ((with_reducible refine atBr ?_); refine BrM.not (by omega) ?_; conv => whnf)
            | ((with_reducible refine atBr ?_); (first | refine BrM.t rfl ?_ | refine BrM.f rfl ?_ | refine BrM.dec (fun _ => ?_) (fun _ => ?_) | refine BrM.mk (fun _ => ?_) (fun _ => ?_)) <;> conv => whnf)
            | ((with_reducible refine atAr ?_); refine Ar.i64 (by omega) (by omega) ?_; conv => whnf)
            | ((with_reducible refine (atCall 11) ?_); refine Nx.call [] [] rfl rfl rfl rfl rfl (awake_ok) rfl fun v Q hQ => ?_; obtain ⟨rfl, rfl⟩ := hQ)
            | ((with_reducible refine atRet ?_); refine Nx.ret [0] Try.func3 rfl rfl ?_; (exact ⟨rfl, rfl⟩))
            | ((with_reducible refine atOps ?_); refine go 200 ?_; conv => whnf)
            | ((with_reducible refine atPlan ?_); refine Nx.runP (n := 200) rfl (by repeat (first | exact subB.nil _ | refine subB.cons rfl ?_)) ?_; conv => whnf)
            | ((with_reducible refine atAftL ?_); refine Nx.late ?_)
            | ((fail_if_success (with_reducible refine atRet ?_)); (fail_if_success (with_reducible refine atLoop ?_)); (fail_if_success (with_reducible refine atIn ?_)); (fail_if_success (with_reducible refine atDrawn ?_)); (fail_if_success (with_reducible refine atEnd ?_)); (with_reducible refine atRun ?_); refine go 200 ?_; conv => whnf))
  · rw [decide_eq_false h0]
    repeat' (first
      | ((with_reducible refine atBr ?_); (first | refine BrM.t rfl ?_ | refine BrM.f rfl ?_ | refine BrM.dec (fun _ => ?_) (fun _ => ?_) | refine BrM.mk (fun _ => ?_) (fun _ => ?_)) <;> conv => whnf)
      | ((with_reducible refine atAr ?_); refine Ar.i64 (by omega) (by omega) ?_; conv => whnf)
      | ((with_reducible refine (atCall 11) ?_); refine Nx.call [] [] rfl rfl rfl rfl rfl (awake_ok) rfl fun v Q hQ => ?_; obtain ⟨rfl, rfl⟩ := hQ)
      | ((with_reducible refine atRet ?_); refine Nx.ret [0] Try.func3 rfl rfl ?_; (exact ⟨rfl, rfl⟩))
      | ((with_reducible refine atOps ?_); refine go 200 ?_; conv => whnf)
      | ((with_reducible refine atPlan ?_); refine Nx.runP (n := 200) rfl (by repeat (first | exact subB.nil _ | refine subB.cons rfl ?_)) ?_; conv => whnf)
      | ((with_reducible refine atAftL ?_); refine Nx.late ?_)
      | ((fail_if_success (with_reducible refine atRet ?_)); (fail_if_success (with_reducible refine atLoop ?_)); (fail_if_success (with_reducible refine atIn ?_)); (fail_if_success (with_reducible refine atDrawn ?_)); (fail_if_success (with_reducible refine atEnd ?_)); (with_reducible refine atRun ?_); refine go 200 ?_; conv => whnf))
end Go.Proofs.Ytnnhgopibbdlkaa
