/- TraceParts: its walk. -/
import Derived.Test.YtnnhgopibbdlkaaTrS
import Derived.Test.YtnnhgopibbdlkaaTrE
import Derived.Test.YtnnhgopibbdlkaaSxm
namespace Go.Proofs.Ytnnhgopibbdlkaa
open Go.RowKit
attribute [local irreducible] Nx Ar BrM

def cnt8 (l : List Note) : Array Value := #[.int .i64 (countF l 0), .int .i64 (countF l 1), .int .i64 (countF l 2), .int .i64 (countF l 3), .int .i64 (countF l 4), .int .i64 (countF l 5), .int .i64 (countF l 6), .int .i64 (countF l 7)]
theorem Counts8 (S : SP) (A : Option Addr) (c : Nat) (l : List Note) (hl : l.length ≤ 2199023255488) (hs : Sees S A l.length 8 (notes l)) :
    FnOk Try.prog 19 [.slice A l.length c] [S] (fun v Q => v = .agg (cnt8 l) ∧ Q = [S]) := Counts_ok S A c l hl hs

structure PaSt where
  m : Nat
  B : Option Addr
  d : Nat
def revTo (l : List Note) (m : Nat) : List Note := l.reverse.take m
theorem revTo_len (l : List Note) (m : Nat) : (revTo l m).length = min m l.length := by simp [revTo]
theorem revTo_succ {l : List Note} {m : Nat} (h : m < l.length) : revTo l (m + 1) = revTo l m ++ [l[l.length - 1 - m]] := by
  unfold revTo
  rw [List.take_succ_eq_append_getElem (by simpa using h)]
  simp

set_option maxHeartbeats 4000000 in
theorem TraceParts_ok (S T : SP) (A : Option Addr) (c : Nat) (l : List Note) (at0 ring who : Int) (hcap : l.length ≤ c) (ha : 0 ≤ at0 ∧ at0 ≤ 255) (hs : Sees S A l.length 8 (notes l)) (ht : Sees T A l.length 8 (notes l)) :
    FnOk Try.prog 5 [.slice A l.length c, .int .u8 at0, .int .i64 ring, .int .i64 who] [S, T] (fun v Q => v = .bool true ∧ Q = [S, T]) := by
  refine FnOk.start Try.func5 rfl rfl rfl rfl fun F os tape output => ?_
  refine go 200 ?_
  conv => whnf
  refine Nx.call [0] [0] rfl rfl rfl rfl rfl (small_ok S A c l.length) rfl fun v Q hQ => ?_
  obtain ⟨rfl, rfl⟩ := hQ
  by_cases h0 : l.length ≤ 120
  · have hl : l.length ≤ 2199023255488 := by omega
    rw [decide_eq_true h0]
    repeat' (first
      | ((with_reducible refine atBr ?_); (first | refine BrM.t rfl ?_ | refine BrM.f rfl ?_ | refine BrM.dec (fun _ => ?_) (fun _ => ?_) | refine BrM.mk (fun _ => ?_) (fun _ => ?_)) <;> conv => whnf)
      | ((with_reducible refine atAr ?_); refine Ar.i64 (by omega) (by omega) ?_; conv => whnf)
      | (fail)
      | ((with_reducible refine atOps ?_); refine go 200 ?_; conv => whnf)
      | ((with_reducible refine atPlan ?_); refine Nx.runP (n := 200) rfl (by repeat (first | exact subB.nil _ | refine subB.cons rfl ?_)) ?_; conv => whnf)
      | ((with_reducible refine atAftL ?_); refine Nx.late ?_)
      | ((fail_if_success (with_reducible refine atRet ?_)); (fail_if_success (with_reducible refine atLoop ?_)); (fail_if_success (with_reducible refine atIn ?_)); (fail_if_success (with_reducible refine atDrawn ?_)); (fail_if_success (with_reducible refine atEnd ?_)); (with_reducible refine atRun ?_); refine go 200 ?_; conv => whnf))
    obtain ⟨i, hi, hil⟩ : ∃ i : Nat, min at0 (l.length : Int) = i ∧ i ≤ l.length := ⟨(min at0 (l.length : Int)).toNat, by omega, by omega⟩
    rw [hi]
    refine Nx.drawn0 [] [.pure 0, .pure 1, .pure 2, .pure 3, .pure 4, .pure 5, .pure 6, .pure 7] rfl (by kernel_rfl) rfl (by kernel_rfl) rfl ?_ rfl ?_
    · repeat (first | exact subB.nil _ | refine subB.cons rfl ?_)
    repeat' (first
      | ((with_reducible refine atBr ?_); (first | refine BrM.t rfl ?_ | refine BrM.f rfl ?_ | refine BrM.dec (fun _ => ?_) (fun _ => ?_) | refine BrM.mk (fun _ => ?_) (fun _ => ?_)) <;> conv => whnf)
      | ((with_reducible refine atAr ?_); refine Ar.i64 (by omega) (by omega) ?_; conv => whnf)
      | (refine Nx.hoReslice (sz := 8) (by_ := 64) (l := 0) (h := i) (m := c) rfl rfl Try.underlying22 rfl rfl rfl rfl rfl (fun h => by cases h) (by omega) (by omega) (Nat.le_refl _) ?_)
      | (refine Nx.hoReslice (sz := 8) (by_ := 64) (l := i) (h := l.length) (m := c) rfl rfl Try.underlying22 rfl rfl rfl rfl rfl (fun h => by cases h) (by omega) (by omega) (Nat.le_refl _) ?_)
      | ((with_reducible refine atOps ?_); refine go 200 ?_; conv => whnf)
      | ((with_reducible refine atPlan ?_); refine Nx.runP (n := 200) rfl (by repeat (first | exact subB.nil _ | refine subB.cons rfl ?_)) ?_; conv => whnf)
      | ((with_reducible refine atAftL ?_); refine Nx.late ?_)
      | ((fail_if_success (with_reducible refine atRet ?_)); (fail_if_success (with_reducible refine atLoop ?_)); (fail_if_success (with_reducible refine atIn ?_)); (fail_if_success (with_reducible refine atDrawn ?_)); (fail_if_success (with_reducible refine atEnd ?_)); (with_reducible refine atRun ?_); refine go 200 ?_; conv => whnf))
    have hA := Sees.cutOf (l := 0) (h := i) (m := c) Note.enc_len hs (by omega) hil (by omega)
    have hB := Sees.cutOf (l := i) (h := l.length) (m := c) Note.enc_len hs (by omega) (Nat.le_refl _) hcap
    obtain ⟨a, ha1, ha2⟩ : ∃ a, a = (l.drop 0).take (i - 0) ∧ a.length = i - 0 := ⟨_, rfl, by simp; omega⟩
    obtain ⟨b, hb1, hb2⟩ : ∃ b, b = (l.drop i).take (l.length - i) ∧ b.length = l.length - i := ⟨_, rfl, by simp⟩
    have hab : l = a ++ b := by
      rw [ha1, hb1, List.drop_zero, Nat.sub_zero, List.take_of_length_le (i := l.length - i) (by simp), List.take_append_drop]
    rw [← ha1, ← ha2] at hA
    rw [← hb1, ← hb2] at hB
    rw [← ha2, ← hb2]
    generalize resl A 0 c 8 = A1 at *
    generalize resl A i c 8 = A2 at *
    have hal : a.length ≤ 120 := by omega
    have hbl : b.length ≤ 120 := by omega
    have one8 : ∀ (x : List Note) (p : Note → Bool), ∀ u ∈ notes (x.filter p), u.oneCell' = true := by
      intro x p u hu
      obtain ⟨n, _, hn⟩ := List.mem_flatMap.1 hu
      simp only [Note.enc, List.mem_cons, List.not_mem_nil, or_false] at hn
      rcases hn with rfl | rfl | rfl | rfl | rfl | rfl | rfl | rfl <;> rfl
    have fl : ∀ (x : List Note) (p : Note → Bool), (x.filter p).length ≤ x.length := fun x p => List.length_filter_le _ _
    have fa := fl a (fun n => decide (n.who = who))
    have fb := fl b (fun n => decide (n.who = who))
    refine Nx.call [0] [0,2] rfl rfl rfl rfl rfl (Of_ok S A1 _ a who (by omega) hA) rfl fun v Q hQ => ?_
    obtain ⟨Ba, ca, rfl, rfl⟩ := hQ
    repeat' (first
      | ((with_reducible refine atBr ?_); (first | refine BrM.t rfl ?_ | refine BrM.f rfl ?_ | refine BrM.dec (fun _ => ?_) (fun _ => ?_) | refine BrM.mk (fun _ => ?_) (fun _ => ?_)) <;> conv => whnf)
      | ((with_reducible refine atAr ?_); refine Ar.i64 (by omega) (by omega) ?_; conv => whnf)
      | (fail)
      | ((with_reducible refine atOps ?_); refine go 200 ?_; conv => whnf)
      | ((with_reducible refine atPlan ?_); refine Nx.runP (n := 200) rfl (by repeat (first | exact subB.nil _ | refine subB.cons rfl ?_)) ?_; conv => whnf)
      | ((with_reducible refine atAftL ?_); refine Nx.late ?_)
      | ((fail_if_success (with_reducible refine atRet ?_)); (fail_if_success (with_reducible refine atLoop ?_)); (fail_if_success (with_reducible refine atIn ?_)); (fail_if_success (with_reducible refine atDrawn ?_)); (fail_if_success (with_reducible refine atEnd ?_)); (with_reducible refine atRun ?_); refine go 200 ?_; conv => whnf))
    refine Nx.give 3 (ownS 37 none 0 0 8 []) (own_nil _ _ _ _) ?_
    refine Nx.appendS 3 2 (sz := 8) (by_ := 64) rfl rfl rfl Try.underlying22 rfl rfl rfl rfl (ownS_sees _ _ _ _ _ _) (one8 _ _) (by unfold maxLen; omega) (by omega) fun B3 c3 => ?_
    rw [Nat.zero_add, List.nil_append]
    repeat' (first
      | ((with_reducible refine atBr ?_); (first | refine BrM.t rfl ?_ | refine BrM.f rfl ?_ | refine BrM.dec (fun _ => ?_) (fun _ => ?_) | refine BrM.mk (fun _ => ?_) (fun _ => ?_)) <;> conv => whnf)
      | ((with_reducible refine atAr ?_); refine Ar.i64 (by omega) (by omega) ?_; conv => whnf)
      | ((with_reducible refine (atCall 17) ?_); refine Nx.call [0] [0,4] rfl rfl rfl rfl rfl ((Of_ok S A2 _ b who (by omega) hB)) rfl fun v Q hQ => ?_; obtain ⟨Bb,cb,rfl,rfl⟩ := hQ)
      | ((with_reducible refine atOps ?_); refine go 200 ?_; conv => whnf)
      | ((with_reducible refine atPlan ?_); refine Nx.runP (n := 200) rfl (by repeat (first | exact subB.nil _ | refine subB.cons rfl ?_)) ?_; conv => whnf)
      | ((with_reducible refine atAftL ?_); refine Nx.late ?_)
      | ((fail_if_success (with_reducible refine atRet ?_)); (fail_if_success (with_reducible refine atLoop ?_)); (fail_if_success (with_reducible refine atIn ?_)); (fail_if_success (with_reducible refine atDrawn ?_)); (fail_if_success (with_reducible refine atEnd ?_)); (with_reducible refine atRun ?_); refine go 200 ?_; conv => whnf))
    refine Nx.appendS 3 4 (sz := 8) (by_ := 64) rfl rfl rfl Try.underlying22 rfl rfl rfl rfl (ownS_sees _ _ _ _ _ _) (one8 _ _) (by unfold maxLen; omega) (by omega) fun B4 c4 => ?_
    have e1 : (a.filter fun n => decide (n.who = who)).length + (b.filter fun n => decide (n.who = who)).length = (l.filter fun n => decide (n.who = who)).length := by rw [hab, List.filter_append, List.length_append]
    have e2 : notes (a.filter fun n => decide (n.who = who)) ++ notes (b.filter fun n => decide (n.who = who)) = notes (l.filter fun n => decide (n.who = who)) := by rw [hab, List.filter_append]; simp [notes]
    rw [e1, e2]
    refine go 200 ?_
    conv => whnf
    refine Nx.call [0] [0] rfl rfl rfl rfl rfl (Counts8 S A1 _ a (by omega) hA) rfl fun v Q hQ => ?_
    obtain ⟨rfl, rfl⟩ := hQ
    refine go 200 ?_
    conv => whnf
    refine Nx.call [0] [0] rfl rfl rfl rfl rfl (Counts8 S A2 _ b (by omega) hB) rfl fun v Q hQ => ?_
    obtain ⟨rfl, rfl⟩ := hQ
    refine go 200 ?_
    conv => whnf
    refine Nx.call [0] [0] rfl rfl rfl rfl rfl (Counts8 S _ _ l (by omega) hs) rfl fun v Q hQ => ?_
    obtain ⟨rfl, rfl⟩ := hQ

    refine go 200 ?_
    conv => whnf
    have ad : ∀ d, countF l d = countF a d + countF b d := fun d => by
      rw [hab]
      simp [countF, List.filter_append]
    have b0 := countF_le a
    have b1 := countF_le b
    refine Nx.bind (l := 13) (fun b13 => ?_) rfl
    refine Nx.bind (l := 14) (fun b14 => ?_) rfl
    refine Nx.bind (l := 15) (fun b15 => ?_) rfl
    refine Nx.unroll ?_
    repeat' (first
      | ((with_reducible refine atBr ?_); refine BrM.not (fun hh => hh (ad _).symm) ?_; conv => whnf)
      | (refine Ar.i64 (by have := b0 0; have := b1 0; have := b0 1; have := b1 1; have := b0 2; have := b1 2; have := b0 3; have := b1 3; have := b0 4; have := b1 4; have := b0 5; have := b1 5; have := b0 6; have := b1 6; have := b0 7; have := b1 7; omega) (by have := b0 0; have := b1 0; have := b0 1; have := b1 1; have := b0 2; have := b1 2; have := b0 3; have := b1 3; have := b0 4; have := b1 4; have := b0 5; have := b1 5; have := b0 6; have := b1 6; have := b0 7; have := b1 7; omega) ?_; conv => whnf)
      | ((with_reducible refine atBr ?_); (first | refine BrM.t rfl ?_ | refine BrM.f rfl ?_ | refine BrM.dec (fun _ => ?_) (fun _ => ?_) | refine BrM.mk (fun _ => ?_) (fun _ => ?_)) <;> conv => whnf)
      | ((with_reducible refine atAr ?_); refine Ar.i64 (by omega) (by omega) ?_; conv => whnf)
      | ((with_reducible refine atDrawn ?_); refine Nx.drawn0 [] [.pure 0, .pure 1, .held 2, .pure 3, .pure 4, .held 5, .pure 6, .pure 7, .pure 8, .held 9, .pure 10] rfl (by kernel_rfl) rfl (by kernel_rfl) rfl (by repeat (first | exact subB.nil _ | refine subB.cons rfl ?_)) rfl ?_)
      | ((with_reducible refine atHoIdx ?_); refine Nx.hoArr rfl rfl rfl Try.underlying41 rfl rfl rfl (by decide) rfl ?_)
      | ((with_reducible refine atIn ?_); refine Nx.again ?_)
      | ((with_reducible refine atOps ?_); refine go 200 ?_; conv => whnf)
      | ((with_reducible refine atPlan ?_); refine Nx.runP (n := 200) rfl (by repeat (first | exact subB.nil _ | refine subB.cons rfl ?_)) ?_; conv => whnf)
      | ((with_reducible refine atAftL ?_); refine Nx.late ?_)
      | ((fail_if_success (with_reducible refine atRet ?_)); (fail_if_success (with_reducible refine atLoop ?_)); (fail_if_success (with_reducible refine atIn ?_)); (fail_if_success (with_reducible refine atDrawn ?_)); (fail_if_success (with_reducible refine atEnd ?_)); (with_reducible refine atRun ?_); refine go 200 ?_; conv => whnf))
    refine Nx.give 5 (ownS 37 none 0 0 8 []) (own_nil _ _ _ _) ?_
    refine Nx.loop (X := PaSt) (fun x => x.m ≤ l.length) (fun x => l.length - x.m)
      (fun x => [(0, sl A l.length c), (2, iv ring), (3, iv who), (12, sl B4 (l.filter fun n => decide (n.who = who)).length c4), (17, sl x.B (revTo l x.m).length x.d), (18, iv ((l.length : Int) - 1 - x.m))]) (fun _ => []) []
      (fun x => [(0, S), (1, T), (3, ownS 37 B4 (l.filter fun n => decide (n.who = who)).length c4 8 (notes (l.filter fun n => decide (n.who = who)))), (5, ownS 37 x.B (revTo l x.m).length x.d 8 (notes (revTo l x.m)))])
      ⟨0, none, 0⟩ (Nat.zero_le _) ?_ ?_ ?_ ?_ ?_
    · exact .cons rfl rfl (.cons rfl rfl (.cons rfl rfl (.cons rfl rfl (.cons rfl rfl (.cons rfl (by simp) (.nil _))))))
    · repeat (first | exact subM.nil _ | refine subM.cons rfl rfl rfl ?_)
    · repeat (first | exact subB.nil _ | refine subB.cons rfl ?_)
    · repeat (first | exact subR.nil _ | refine subR.cons rfl rfl ?_)
    intro x hx ih
    have hrl := revTo_len l x.m
    repeat' (first
      | ((with_reducible refine atBr ?_); (first | refine BrM.t rfl ?_ | refine BrM.f rfl ?_ | refine BrM.dec (fun _ => ?_) (fun _ => ?_) | refine BrM.mk (fun _ => ?_) (fun _ => ?_)) <;> conv => whnf)
      | ((with_reducible refine atAr ?_); refine Ar.i64 (by omega) (by omega) ?_; conv => whnf)
      | ((with_reducible refine atIdx ?_); refine Nx.idx 0 (j := (l.length-1-x.m)) rfl rfl rfl Try.underlying22 rfl rfl rfl Note.enc_len hs rfl (by omega) (by omega) fun _ _ _ => ?_)
      | ((with_reducible refine atLoad ?_); first | (refine Nx.load1 0 rfl rfl rfl rfl (SeesAt.sub (by assumption) _ rfl) rfl ?_) | (refine Nx.load1 0 rfl rfl rfl rfl (by assumption) rfl ?_) | (refine Nx.load 0 rfl rfl rfl rfl (by assumption) rfl rfl ?_))
      | ((with_reducible refine atApp ?_); refine Nx.append 5 (sz := 8) (by_ := 64) (news := (l[l.length-1-x.m]'(by omega)).enc) rfl rfl rfl rfl rfl Try.underlying22 rfl rfl rfl rfl rfl (by unfold maxLen; omega) (by omega) fun A' c'' => ?_)
      | ((with_reducible refine atOps ?_); refine go 200 ?_; conv => whnf)
      | ((with_reducible refine atPlan ?_); refine Nx.runP (n := 200) rfl (by repeat (first | exact subB.nil _ | refine subB.cons rfl ?_)) ?_; conv => whnf)
      | ((with_reducible refine atAftL ?_); refine Nx.late ?_)
      | ((fail_if_success (with_reducible refine atRet ?_)); (fail_if_success (with_reducible refine atLoop ?_)); (fail_if_success (with_reducible refine atIn ?_)); (fail_if_success (with_reducible refine atDrawn ?_)); (fail_if_success (with_reducible refine atEnd ?_)); (with_reducible refine atRun ?_); refine go 200 ?_; conv => whnf))
    · have hsu := revTo_succ (l := l) (m := x.m) (by omega)
      refine (ih ⟨x.m + 1, A', c''⟩ (by show x.m + 1 ≤ _; omega) (by show l.length - (x.m + 1) < _; omega)).weak ?_ ?_ ?_ ?_
      · exact .cons rfl rfl (.cons rfl rfl (.cons rfl rfl (.cons rfl rfl (.cons rfl (by rw [hsu]; simp) (.cons rfl (by simp; omega) (.nil _))))))
      · repeat (first | exact subM.nil _ | refine subM.cons rfl rfl rfl ?_)
      · repeat (first | exact subB.nil _ | refine subB.cons rfl ?_)
      · exact .cons rfl rfl (.cons rfl rfl (.cons rfl rfl (.cons rfl (by rw [hsu]; simp [notes]) (.nil _))))
    · have hm : x.m = l.length := by omega
      have hrv : revTo l x.m = l.reverse := by rw [hm, revTo, List.take_of_length_le (by simp)]
      rw [hrv]
      have hsl : (shown l ring).length ≤ 120 := by
        have := (shown_inv (l.filter (atP ring [1])) [] (by simp)).2
        have h2 := List.length_filter_le (atP ring [1]) l
        unfold shown
        simp at this
        omega
      have hsr : shown l.reverse ring = shown l ring := shown_same (by simp) ring
      refine Nx.call [0] [0,6] rfl rfl rfl rfl rfl (Shown_ok S _ _ l ring hl hs) rfl fun v Q hQ => ?_
      obtain ⟨A6, c6, rfl, rfl⟩ := hQ
      repeat' (first
        | ((with_reducible refine atBr ?_); (first | refine BrM.t rfl ?_ | refine BrM.f rfl ?_ | refine BrM.dec (fun _ => ?_) (fun _ => ?_) | refine BrM.mk (fun _ => ?_) (fun _ => ?_)) <;> conv => whnf)
        | ((with_reducible refine atAr ?_); refine Ar.i64 (by omega) (by omega) ?_; conv => whnf)
        | (fail)
        | ((with_reducible refine atOps ?_); refine go 200 ?_; conv => whnf)
        | ((with_reducible refine atPlan ?_); refine Nx.runP (n := 200) rfl (by repeat (first | exact subB.nil _ | refine subB.cons rfl ?_)) ?_; conv => whnf)
        | ((with_reducible refine atAftL ?_); refine Nx.late ?_)
        | ((fail_if_success (with_reducible refine atRet ?_)); (fail_if_success (with_reducible refine atLoop ?_)); (fail_if_success (with_reducible refine atIn ?_)); (fail_if_success (with_reducible refine atDrawn ?_)); (fail_if_success (with_reducible refine atEnd ?_)); (with_reducible refine atRun ?_); refine go 200 ?_; conv => whnf))
      have hrl2 : l.reverse.length ≤ 2199023255488 := by simp; omega
      refine Nx.call [5] [5,7] rfl rfl rfl rfl rfl (Shown_ok _ _ _ l.reverse ring hrl2 (ownS_sees 37 x.B l.reverse.length x.d 8 (notes l.reverse))) rfl fun v Q hQ => ?_
      obtain ⟨A7, c7, rfl, rfl⟩ := hQ
      rw [hsr]
      generalize shown l ring = sh at *
      repeat' (first
        | ((with_reducible refine atBr ?_); refine BrM.not (fun hh => hh rfl) ?_; conv => whnf)
        | ((with_reducible refine atBr ?_); (first | refine BrM.t rfl ?_ | refine BrM.f rfl ?_ | refine BrM.dec (fun _ => ?_) (fun _ => ?_) | refine BrM.mk (fun _ => ?_) (fun _ => ?_)) <;> conv => whnf)
        | ((with_reducible refine atAr ?_); refine Ar.i64 (by omega) (by omega) ?_; conv => whnf)
        | ((with_reducible refine atOps ?_); refine go 200 ?_; conv => whnf)
        | ((with_reducible refine atPlan ?_); refine Nx.runP (n := 200) rfl (by repeat (first | exact subB.nil _ | refine subB.cons rfl ?_)) ?_; conv => whnf)
        | ((with_reducible refine atAftL ?_); refine Nx.late ?_)
        | ((fail_if_success (with_reducible refine atRet ?_)); (fail_if_success (with_reducible refine atLoop ?_)); (fail_if_success (with_reducible refine atIn ?_)); (fail_if_success (with_reducible refine atDrawn ?_)); (fail_if_success (with_reducible refine atEnd ?_)); (with_reducible refine atRun ?_); refine go 200 ?_; conv => whnf))
      refine Nx.call [0] [0,8] rfl rfl rfl rfl rfl (Of_ok S _ _ l who hl hs) rfl fun v Q hQ => ?_
      obtain ⟨A8, c8, rfl, rfl⟩ := hQ
      have fo := fl l (fun n => decide (n.who = who))
      generalize l.filter (fun n => decide (n.who = who)) = of at *
      repeat' (first
        | ((with_reducible refine atBr ?_); (first | refine BrM.t rfl ?_ | refine BrM.f rfl ?_ | refine BrM.dec (fun _ => ?_) (fun _ => ?_) | refine BrM.mk (fun _ => ?_) (fun _ => ?_)) <;> conv => whnf)
        | ((with_reducible refine atAr ?_); refine Ar.i64 (by omega) (by omega) ?_; conv => whnf)
        | (fail)
        | ((with_reducible refine atOps ?_); refine go 200 ?_; conv => whnf)
        | ((with_reducible refine atPlan ?_); refine Nx.runP (n := 200) rfl (by repeat (first | exact subB.nil _ | refine subB.cons rfl ?_)) ?_; conv => whnf)
        | ((with_reducible refine atAftL ?_); refine Nx.late ?_)
        | ((fail_if_success (with_reducible refine atRet ?_)); (fail_if_success (with_reducible refine atLoop ?_)); (fail_if_success (with_reducible refine atIn ?_)); (fail_if_success (with_reducible refine atDrawn ?_)); (fail_if_success (with_reducible refine atEnd ?_)); (with_reducible refine atRun ?_); refine go 200 ?_; conv => whnf))
      refine Nx.call [8,3] [8,3] rfl rfl rfl rfl rfl (same_ok _ _ _ _ _ _ of of (by omega) (ownS_sees 37 A8 of.length c8 8 (notes of)) (ownS_sees 37 B4 of.length c4 8 (notes of))) rfl fun v Q hQ => ?_
      rw [decide_eq_true rfl] at hQ
      obtain ⟨rfl, rfl⟩ := hQ
      repeat' (first
        | ((with_reducible refine atBr ?_); (first | refine BrM.t rfl ?_ | refine BrM.f rfl ?_ | refine BrM.dec (fun _ => ?_) (fun _ => ?_) | refine BrM.mk (fun _ => ?_) (fun _ => ?_)) <;> conv => whnf)
        | ((with_reducible refine atAr ?_); refine Ar.i64 (by omega) (by omega) ?_; conv => whnf)
        | (fail)
        | ((with_reducible refine atOps ?_); refine go 200 ?_; conv => whnf)
        | ((with_reducible refine atPlan ?_); refine Nx.runP (n := 200) rfl (by repeat (first | exact subB.nil _ | refine subB.cons rfl ?_)) ?_; conv => whnf)
        | ((with_reducible refine atAftL ?_); refine Nx.late ?_)
        | ((fail_if_success (with_reducible refine atRet ?_)); (fail_if_success (with_reducible refine atLoop ?_)); (fail_if_success (with_reducible refine atIn ?_)); (fail_if_success (with_reducible refine atDrawn ?_)); (fail_if_success (with_reducible refine atEnd ?_)); (with_reducible refine atRun ?_); refine go 200 ?_; conv => whnf))
      refine Nx.loop (X := Nat) (fun k => k ≤ sh.length) (fun k => sh.length - k)
        (fun k => [(19, sl A6 sh.length c6), (20, sl A7 sh.length c7), (100, iv sh.length), (101, iv k)]) (fun _ => []) []
        (fun _ => [(0, S), (1, T), (6, ownS 29 A6 sh.length c6 2 (spans sh)), (7, ownS 29 A7 sh.length c7 2 (spans sh))])
        0 (Nat.zero_le _) ?_ ?_ ?_ ?_ ?_
      · repeat (first | exact subE.nil _ | refine subE.cons rfl rfl ?_ | refine subE.cons' rfl (fun _ => rfl) ?_)
      · repeat (first | exact subM.nil _ | refine subM.cons rfl rfl rfl ?_)
      · repeat (first | exact subB.nil _ | refine subB.cons rfl ?_)
      · repeat (first | exact subR.nil _ | refine subR.cons rfl rfl ?_)
      intro k hk ih
      repeat' (first
        | ((with_reducible refine atHoIdx ?_); refine Nx.hoIdx 6 rfl rfl rfl Try.underlying26 rfl rfl rfl Span.enc_len (ownS_sees 29 A6 sh.length c6 2 (spans sh)) rfl rfl (by omega) fun _ _ _ => ?_)
        | ((with_reducible refine atBr ?_); (first | refine BrM.t rfl ?_ | refine BrM.f rfl ?_ | refine BrM.dec (fun _ => ?_) (fun _ => ?_) | refine BrM.mk (fun _ => ?_) (fun _ => ?_)) <;> conv => whnf)
        | ((with_reducible refine atAr ?_); refine Ar.i64 (by omega) (by omega) ?_; conv => whnf)
        | ((with_reducible refine atDrawn ?_); refine Nx.drawn0 [6,7] [.pure 0, .pure 1, .pure 2, .held 3, .pure 4, .pure 5, .pure 6, .held 7, .pure 8] rfl (by kernel_rfl) rfl (by kernel_rfl) rfl (by repeat (first | exact subB.nil _ | refine subB.cons rfl ?_)) rfl ?_)
        | (refine Nx.hoIdx 7 rfl rfl rfl Try.underlying26 rfl rfl rfl Span.enc_len (ownS_sees 29 A7 sh.length c7 2 (spans sh)) rfl rfl (by omega) fun _ _ _ => ?_)
        | ((with_reducible refine atHoLoad ?_); first | (refine Nx.hoLoad1 rfl rfl rfl rfl List.mem_cons_self (SeesAt.sub (by assumption) _ rfl) rfl ?_) | (refine Nx.hoLoad1 rfl rfl rfl rfl List.mem_cons_self (by assumption) rfl ?_) | (refine Nx.hoLoad rfl rfl rfl rfl List.mem_cons_self (by assumption) rfl rfl ?_) | (refine Nx.hoLoad1 rfl rfl rfl rfl (List.mem_cons_of_mem _ List.mem_cons_self) (SeesAt.sub (by assumption) _ rfl) rfl ?_) | (refine Nx.hoLoad1 rfl rfl rfl rfl (List.mem_cons_of_mem _ List.mem_cons_self) (by assumption) rfl ?_) | (refine Nx.hoLoad rfl rfl rfl rfl (List.mem_cons_of_mem _ List.mem_cons_self) (by assumption) rfl rfl ?_) | (refine Nx.hoLoad1 rfl rfl rfl rfl (List.mem_cons_of_mem _ (List.mem_cons_of_mem _ List.mem_cons_self)) (SeesAt.sub (by assumption) _ rfl) rfl ?_) | (refine Nx.hoLoad1 rfl rfl rfl rfl (List.mem_cons_of_mem _ (List.mem_cons_of_mem _ List.mem_cons_self)) (by assumption) rfl ?_) | (refine Nx.hoLoad rfl rfl rfl rfl (List.mem_cons_of_mem _ (List.mem_cons_of_mem _ List.mem_cons_self)) (by assumption) rfl rfl ?_) | (refine Nx.hoLoad1 rfl rfl rfl rfl (List.mem_cons_of_mem _ (List.mem_cons_of_mem _ (List.mem_cons_of_mem _ List.mem_cons_self))) (SeesAt.sub (by assumption) _ rfl) rfl ?_) | (refine Nx.hoLoad1 rfl rfl rfl rfl (List.mem_cons_of_mem _ (List.mem_cons_of_mem _ (List.mem_cons_of_mem _ List.mem_cons_self))) (by assumption) rfl ?_) | (refine Nx.hoLoad rfl rfl rfl rfl (List.mem_cons_of_mem _ (List.mem_cons_of_mem _ (List.mem_cons_of_mem _ List.mem_cons_self))) (by assumption) rfl rfl ?_))
        | (refine Nx.hoEqS (b := true) rfl (.inr rfl) rfl rfl rfl rfl (by kernel_rfl) (fun w => (eq29 (sh[k]'(by omega)) (sh[k]'(by omega)) w).trans (by simp)) rfl ?_)
        | ((with_reducible refine atIn ?_); refine Nx.weak ((ih (k + 1) ?_ ?_)) ?_ ?_ ?_ ?_ <;> (first | exact subM.nil _ | exact subB.nil _ | exact subR.nil _ | ((repeat (first | exact subE.nil _ | refine subE.cons rfl rfl ?_ | refine subE.cons' rfl (fun _ => rfl) ?_ | (refine subE.cons rfl ?_ ?_; · (simp; done)))); done) | ((repeat (first | exact subM.nil _ | refine subM.cons rfl rfl rfl ?_)); done) | ((repeat (first | exact subB.nil _ | refine subB.cons rfl ?_)); done) | ((repeat (first | exact subR.nil _ | refine subR.cons rfl rfl ?_)); done) | omega | (dsimp only; omega) | (omega)))
        | ((with_reducible refine (atCall 11) ?_); refine Nx.call [] [] rfl rfl rfl rfl rfl (awake_ok) rfl fun v Q hQ => ?_; obtain ⟨rfl, rfl⟩ := hQ)
        | ((with_reducible refine atRet ?_); refine Nx.ret [0,1] Try.func5 rfl rfl ?_; (exact ⟨rfl, rfl⟩))
        | ((with_reducible refine atOps ?_); refine go 200 ?_; conv => whnf)
        | ((with_reducible refine atPlan ?_); refine Nx.runP (n := 200) rfl (by repeat (first | exact subB.nil _ | refine subB.cons rfl ?_)) ?_; conv => whnf)
        | ((with_reducible refine atAftL ?_); refine Nx.late ?_)
        | ((fail_if_success (with_reducible refine atRet ?_)); (fail_if_success (with_reducible refine atLoop ?_)); (fail_if_success (with_reducible refine atIn ?_)); (fail_if_success (with_reducible refine atDrawn ?_)); (fail_if_success (with_reducible refine atEnd ?_)); (with_reducible refine atRun ?_); refine go 200 ?_; conv => whnf))
  · rw [decide_eq_false h0]
    repeat' (first
      | ((with_reducible refine atBr ?_); (first | refine BrM.t rfl ?_ | refine BrM.f rfl ?_ | refine BrM.dec (fun _ => ?_) (fun _ => ?_) | refine BrM.mk (fun _ => ?_) (fun _ => ?_)) <;> conv => whnf)
      | ((with_reducible refine atAr ?_); refine Ar.i64 (by omega) (by omega) ?_; conv => whnf)
      | ((with_reducible refine (atCall 11) ?_); refine Nx.call [] [] rfl rfl rfl rfl rfl (awake_ok) rfl fun v Q hQ => ?_; obtain ⟨rfl, rfl⟩ := hQ)
      | ((with_reducible refine atRet ?_); refine Nx.ret [0,1] Try.func5 rfl rfl ?_; (exact ⟨rfl, rfl⟩))
      | ((with_reducible refine atOps ?_); refine go 200 ?_; conv => whnf)
      | ((with_reducible refine atPlan ?_); refine Nx.runP (n := 200) rfl (by repeat (first | exact subB.nil _ | refine subB.cons rfl ?_)) ?_; conv => whnf)
      | ((with_reducible refine atAftL ?_); refine Nx.late ?_)
      | ((fail_if_success (with_reducible refine atRet ?_)); (fail_if_success (with_reducible refine atLoop ?_)); (fail_if_success (with_reducible refine atIn ?_)); (fail_if_success (with_reducible refine atDrawn ?_)); (fail_if_success (with_reducible refine atEnd ?_)); (with_reducible refine atRun ?_); refine go 200 ?_; conv => whnf))
end Go.Proofs.Ytnnhgopibbdlkaa
