/- TraceSame: its walk and its law. -/
import Derived.Test.YtnnhgopibbdlkaaTrP
namespace Go.Proofs.Ytnnhgopibbdlkaa
open Go.RowKit
attribute [local irreducible] Nx Ar

theorem sameL_refl (l : List Note) : sameL l l := ⟨rfl, fun _ _ => rfl⟩
theorem ofW_swap (p s : List Note) (a b : Note) (w : Int) (h : a.who ≠ b.who) : ofW w (p ++ a :: b :: s) = ofW w (p ++ b :: a :: s) := by
  unfold ofW
  rw [List.filter_append, List.filter_append]
  congr 1
  simp only [List.filter_cons]
  by_cases h1 : a.who = w
  · have h2 : ¬ b.who = w := fun h3 => h (h1.trans h3.symm)
    simp [h1, h2]
  · simp [h1]
theorem swap_law (p s : List Note) (a b : Note) : sameL (p ++ a :: b :: s) (p ++ b :: a :: s) ↔ (a.who ≠ b.who ∨ a = b) := by
  constructor
  · intro ⟨_, h⟩
    by_cases hw : a.who = b.who
    · right
      have h1 := h a (by simp)
      unfold ofW at h1
      rw [List.filter_append, List.filter_append, List.append_cancel_left_eq] at h1
      simp only [List.filter_cons, hw, decide_true, if_true, List.cons.injEq] at h1
      exact h1.1
    · exact .inl hw
  · intro h
    refine ⟨by simp, fun n _ => ?_⟩
    rcases h with h | h
    · exact ofW_swap p s a b _ h
    · subst h; rfl
theorem cut_at (l : List Note) (i : Nat) (h : i + 1 < l.length) : l = l.take i ++ l[i] :: l[i + 1] :: l.drop (i + 2) := by
  rw [List.getElem_cons_drop h, List.getElem_cons_drop (by omega : i < l.length), List.take_append_drop]
def swap (l : List Note) (i : Nat) (h : i + 1 < l.length) : List Note := l.take i ++ l[i + 1] :: l[i] :: l.drop (i + 2)
theorem swap_len (l : List Note) (i : Nat) (h : i + 1 < l.length) : (swap l i h).length = l.length := by
  unfold swap
  simp
  omega
theorem swap_there (l : List Note) (i : Nat) (h : i + 1 < l.length) : sameL l (swap l i h) ↔ (l[i].who ≠ l[i + 1].who ∨ l[i] = l[i + 1]) := by
  have := swap_law (l.take i) (l.drop (i + 2)) l[i] l[i + 1]
  rwa [← cut_at l i h] at this
theorem swap_back (l : List Note) (i : Nat) (h : i + 1 < l.length) : sameL (swap l i h) l ↔ (l[i].who ≠ l[i + 1].who ∨ l[i] = l[i + 1]) := by
  have := swap_law (l.take i) (l.drop (i + 2)) l[i + 1] l[i]
  rw [← cut_at l i h] at this
  refine Iff.trans this ?_
  constructor
  · rintro (h | h)
    · exact .inl fun e => h e.symm
    · exact .inr h.symm
  · rintro (h | h)
    · exact .inl fun e => h e.symm
    · exact .inr h.symm
theorem notes_take (l : List Note) (k : Nat) : (notes l).take (k * 8) = notes (l.take k) := by
  have := flat_part Note.enc_len l 0 k (Nat.zero_le _)
  simpa using this
theorem notes_drop (l : List Note) (k : Nat) : (notes l).drop (k * 8) = notes (l.drop k) := by
  induction l generalizing k with
  | nil => simp
  | cons x r ih =>
    cases k with
    | zero => simp
    | succ k =>
      rw [List.drop_succ_cons, ← ih k, notes, List.flatMap_cons, Nat.succ_mul, Nat.add_comm, ← List.drop_drop, List.drop_left' (Note.enc_len x)]
theorem notes_len (l : List Note) : (notes l).length = l.length * 8 := flat_len Note.enc_len l
/-- Two stores swap two neighbours. -/
theorem swap_cells (l : List Note) (i : Nat) (h : i + 1 < l.length) :
    (((notes l).take (i * 8) ++ l[i + 1].enc ++ (notes l).drop (i * 8 + 8)).take ((i + 1) * 8) ++ l[i].enc ++ ((notes l).take (i * 8) ++ l[i + 1].enc ++ (notes l).drop (i * 8 + 8)).drop ((i + 1) * 8 + 8)) = notes (swap l i h) := by
  have e1 : i * 8 + 8 = (i + 1) * 8 := by omega
  have e2 : (i + 1) * 8 + 8 = (i + 2) * 8 := by omega
  have e3 : (notes l).take (i * 8) ++ l[i + 1].enc ++ (notes l).drop (i * 8 + 8) = notes (l.take i ++ l[i + 1] :: l.drop (i + 1)) := by
    rw [e1, notes_take, notes_drop]
    simp [notes]
  rw [e3, notes_take, e2, notes_drop]
  have hl : (l.take i).length = i := by simp; omega
  have e4 : (l.take i ++ l[i + 1] :: l.drop (i + 1)).take (i + 1) = l.take i ++ [l[i + 1]] := by
    rw [List.take_append, hl, List.take_of_length_le (by omega)]
    simp
  have e5 : (l.take i ++ l[i + 1] :: l.drop (i + 1)).drop (i + 2) = l.drop (i + 2) := by
    rw [List.drop_append, hl, List.drop_eq_nil_of_le (by omega)]
    have : i + 2 - i = 2 := by omega
    rw [this, List.nil_append, List.drop_succ_cons, List.drop_drop]
  rw [e4, e5]
  simp [notes, swap]

theorem TraceSame_ok (S T : SP) (A : Option Addr) (c : Nat) (l : List Note) (at0 : Int) (hl0 : l.length ≤ 2199023255488) (hcap : l.length ≤ c) (ha : 0 ≤ at0 ∧ at0 ≤ 255) (hs : Sees S A l.length 8 (notes l)) (ht : Sees T A l.length 8 (notes l)) :
    FnOk Try.prog 8 [.slice A l.length c, .int .u8 at0] [S, T] (fun v Q => v = .bool true ∧ Q = [S, T]) := by
  refine FnOk.start Try.func8 rfl rfl rfl rfl fun F os tape output => ?_
  refine go 200 ?_
  conv => whnf
  refine Nx.call [0] [0] rfl rfl rfl rfl rfl (small_ok S A c l.length) rfl fun v Q hQ => ?_
  obtain ⟨rfl, rfl⟩ := hQ
  by_cases h0 : l.length ≤ 120
  · have hl : l.length ≤ 2199023255488 := by omega
    rw [decide_eq_true h0]
    refine go 200 ?_
    conv => whnf
    refine go 200 ?_
    conv => whnf
    refine BrM.dec (fun h1 => ?_) (fun h1 => ?_)
    · refine go 200 ?_
      conv => whnf
      refine Nx.call [] [] rfl rfl rfl rfl rfl (awake_ok) rfl fun v Q hQ => ?_
      obtain ⟨rfl, rfl⟩ := hQ
      refine go 200 ?_
      conv => whnf
      refine go 200 ?_
      conv => whnf
      refine Nx.call [0,1] [0,1] rfl rfl rfl rfl rfl (Same_ok S T _ _ _ _ l l hl hs ht) rfl fun v Q hQ => ?_
      rw [decide_eq_true (sameL_refl l)] at hQ
      obtain ⟨rfl, rfl⟩ := hQ
      refine go 200 ?_
      conv => whnf
      refine Nx.ret [0, 1] Try.func8 rfl rfl ?_
      exact ⟨rfl, rfl⟩
    · refine go 200 ?_
      conv => whnf
      refine Ar.i64 (by omega) (by omega) ?_
      refine go 200 ?_
      conv => whnf
      refine Ar.i64 (by omega) (by omega) ?_
      refine go 200 ?_
      conv => whnf
      obtain ⟨i, hi, hlt⟩ : ∃ i : Nat, at0.tmod (l.length - 1) = (i : Int) ∧ i + 1 < l.length := by
        have h1 := Int.tmod_nonneg (l.length - 1 : Int) ha.1
        have h2 := Int.tmod_lt_of_pos at0 (show (0 : Int) < l.length - 1 by omega)
        exact ⟨(at0.tmod (l.length - 1)).toNat, by omega, by omega⟩
      refine Nx.divI (op := .rem) rfl (.inl ⟨rfl, hi⟩) rfl rfl (by omega) rfl ?_
      refine go 200 ?_
      conv => whnf
      refine Nx.give 2 (ownS 37 none 0 0 8 []) (own_nil _ _ _ _) ?_
      refine Nx.appendS 2 0 (sz := 8) (by_ := 64) rfl rfl rfl Try.underlying22 rfl rfl rfl rfl hs ?_ (by unfold maxLen; omega) (by omega) fun A2 c2 => ?_
      · intro u hu
        obtain ⟨n, _, hn⟩ := List.mem_flatMap.1 hu
        simp only [Note.enc, List.mem_cons, List.not_mem_nil, or_false] at hn
        rcases hn with rfl | rfl | rfl | rfl | rfl | rfl | rfl | rfl <;> rfl
      rw [Nat.zero_add, List.nil_append]
      refine Nx.fact 2 (p := ∃ b, A2 = some ⟨b, 0, none⟩) rfl (fun r h hs => ?_) fun ⟨b2, hb2⟩ => ?_
      · rcases hs.2 with ⟨_, h0, _⟩ | ⟨b, cur, h1, _⟩
        · omega
        · exact ⟨b, h1⟩
      subst hb2
      refine go 200 ?_
      conv => whnf
      refine Nx.drawn0 [0] [.pure 0, .pure 1, .pure 2, .pure 3, .pure 4, .pure 5, .pure 6, .pure 7, .pure 8, .held 9, .pure 10, .pure 11, .pure 12, .held 13, .pure 14, .ex 15 false, .pure 16, .ex 17 false] rfl (by kernel_rfl) rfl (by kernel_rfl) rfl ?_ rfl ?_
      · repeat (first | exact subB.nil _ | refine subB.cons rfl ?_)
      refine Nx.runP (n := 200) rfl ?_ ?_
      · repeat (first | exact subB.nil _ | refine subB.cons rfl ?_)
      conv => whnf
      refine Ar.i64 (by omega) (by omega) ?_
      refine Nx.runP (n := 200) rfl ?_ ?_
      · repeat (first | exact subB.nil _ | refine subB.cons rfl ?_)
      conv => whnf
      refine Ar.i64 (by omega) (by omega) ?_
      refine Nx.runP (n := 200) rfl ?_ ?_
      · repeat (first | exact subB.nil _ | refine subB.cons rfl ?_)
      conv => whnf
      refine Nx.hoIdx 0 (j := i + 1) rfl rfl rfl Try.underlying22 rfl rfl rfl Note.enc_len hs rfl (by simp) hlt fun b1 p1 hq1 => ?_
      refine Nx.runP (n := 200) rfl ?_ ?_
      · repeat (first | exact subB.nil _ | refine subB.cons rfl ?_)
      conv => whnf
      refine Nx.hoLoad rfl rfl rfl rfl List.mem_cons_self hq1 rfl rfl ?_
      refine Nx.runP (n := 200) rfl ?_ ?_
      · repeat (first | exact subB.nil _ | refine subB.cons rfl ?_)
      conv => whnf
      refine Nx.hoIdx 0 (j := i) rfl rfl rfl Try.underlying22 rfl rfl rfl Note.enc_len hs rfl rfl (by omega) fun b1 p1 hq1 => ?_
      refine Nx.runP (n := 200) rfl ?_ ?_
      · repeat (first | exact subB.nil _ | refine subB.cons rfl ?_)
      conv => whnf
      refine Nx.hoLoad rfl rfl rfl rfl List.mem_cons_self hq1 rfl rfl ?_
      refine Nx.runP (n := 200) rfl ?_ ?_
      · repeat (first | exact subB.nil _ | refine subB.cons rfl ?_)
      conv => whnf
      refine Nx.hoIdxO (sz := 8) (by_ := 64) (q := i * 8) rfl rfl rfl Try.underlying22 rfl rfl (by omega) (by omega) (by simp) ?_
      refine Nx.runP (n := 200) rfl ?_ ?_
      · repeat (first | exact subB.nil _ | refine subB.cons rfl ?_)
      conv => whnf
      refine Nx.storeO 2 rfl rfl rfl rfl rfl rfl rfl rfl rfl (by show i * 8 + 8 ≤ _; omega) ?_
      refine Nx.late ?_
      refine Nx.runP (n := 200) rfl ?_ ?_
      · repeat (first | exact subB.nil _ | refine subB.cons rfl ?_)
      conv => whnf
      refine Nx.hoIdxO (sz := 8) (by_ := 64) (q := (i + 1) * 8) rfl rfl rfl Try.underlying22 rfl rfl (by omega) (by omega) (by simp) ?_
      refine Nx.runP (n := 200) rfl ?_ ?_
      · repeat (first | exact subB.nil _ | refine subB.cons rfl ?_)
      conv => whnf
      refine Nx.storeO 2 rfl rfl rfl rfl rfl rfl rfl rfl rfl (by show (i + 1) * 8 + 8 ≤ _; omega) ?_
      refine Nx.late ?_
      refine Nx.ex 2 (X := Unit) (fun _ => ownS 37 (some ⟨b2, 0, none⟩) (swap l i hlt).length c2 8 (notes (swap l i hlt))) rfl (fun r h hs => ⟨(), by rw [← swap_cells l i hlt, swap_len]; exact hs⟩) fun _ => ?_
      refine Nx.runP (n := 200) rfl ?_ ?_
      · repeat (first | exact subB.nil _ | refine subB.cons rfl ?_)
      conv => whnf
      refine go 200 ?_
      conv => whnf
      refine Nx.joinR (E := [(0, sl A l.length c), (6, sl (some ⟨b2, 0, none⟩) (swap l i hlt).length c2), (7, bv (decide (l[i].who ≠ l[i + 1].who ∨ l[i] = l[i + 1])))]) (M := []) (B := []) (R := [(0, S), (1, T), (2, ownS 37 (some ⟨b2, 0, none⟩) (swap l i hlt).length c2 8 (notes (swap l i hlt)))]) (fun K => ?_) ?_
      · refine Nx.drawn0 [0] [.pure 0, .pure 1, .pure 2, .pure 3, .held 4, .pure 5, .pure 6, .pure 7, .pure 8, .pure 9, .held 10, .pure 11, .pure 12, .pure 13, .pure 14, .pure 15, .held 16, .pure 17, .pure 18, .pure 19, .pure 20, .held 21, .held 22, .pure 23, .pure 24] rfl (by kernel_rfl) rfl (by kernel_rfl) rfl ?_ rfl ?_
        · repeat (first | exact subB.nil _ | refine subB.cons rfl ?_)
        refine Nx.runP (n := 200) rfl ?_ ?_
        · repeat (first | exact subB.nil _ | refine subB.cons rfl ?_)
        conv => whnf
        refine Nx.hoIdx 0 (j := i) rfl rfl rfl Try.underlying22 rfl rfl rfl Note.enc_len hs rfl rfl (by omega) fun b3 p3 hq3 => ?_
        refine Nx.runP (n := 200) rfl ?_ ?_
        · repeat (first | exact subB.nil _ | refine subB.cons rfl ?_)
        conv => whnf
        refine Nx.hoLoad1 rfl rfl rfl rfl List.mem_cons_self (SeesAt.sub hq3 0 rfl) rfl ?_
        refine Nx.runP (n := 200) rfl ?_ ?_
        · repeat (first | exact subB.nil _ | refine subB.cons rfl ?_)
        conv => whnf
        refine Ar.i64 (by omega) (by omega) ?_
        refine Nx.runP (n := 200) rfl ?_ ?_
        · repeat (first | exact subB.nil _ | refine subB.cons rfl ?_)
        conv => whnf
        refine Nx.hoIdx 0 (j := i + 1) rfl rfl rfl Try.underlying22 rfl rfl rfl Note.enc_len hs rfl (by simp) hlt fun b4 p4 hq4 => ?_
        refine Nx.runP (n := 200) rfl ?_ ?_
        · repeat (first | exact subB.nil _ | refine subB.cons rfl ?_)
        conv => whnf
        refine Nx.hoLoad1 rfl rfl rfl rfl List.mem_cons_self (SeesAt.sub hq4 0 rfl) rfl ?_
        refine Nx.runP (n := 200) rfl ?_ ?_
        · repeat (first | exact subB.nil _ | refine subB.cons rfl ?_)
        conv => whnf
        refine BrM.dec (fun h2 => ?_) (fun h2 => ?_)
        · refine Nx.runP (n := 200) rfl ?_ ?_
          · repeat (first | exact subB.nil _ | refine subB.cons rfl ?_)
          conv => whnf
          refine Nx.weak K ?_ ?_ ?_ ?_
          · have e : decide (l[i].who ≠ l[i + 1].who ∨ l[i] = l[i + 1]) = true := decide_eq_true (.inl h2)
            rw [e, swap_len]
            repeat (first | exact subE.nil _ | refine subE.cons rfl rfl ?_ | refine subE.cons' rfl (fun _ => rfl) ?_)
          · repeat (first | exact subM.nil _ | refine subM.cons rfl rfl rfl ?_)
          · repeat (first | exact subB.nil _ | refine subB.cons rfl ?_)
          · repeat (first | exact subR.nil _ | refine subR.cons rfl rfl ?_)
        · refine Nx.runP (n := 200) rfl ?_ ?_
          · repeat (first | exact subB.nil _ | refine subB.cons rfl ?_)
          conv => whnf
          refine Nx.hoIdx 0 (j := i) rfl rfl rfl Try.underlying22 rfl rfl rfl Note.enc_len hs rfl rfl (by omega) fun b5 p5 hq5 => ?_
          refine Nx.runP (n := 200) rfl ?_ ?_
          · repeat (first | exact subB.nil _ | refine subB.cons rfl ?_)
          conv => whnf
          refine Nx.hoLoad rfl rfl rfl rfl List.mem_cons_self hq5 rfl rfl ?_
          refine Nx.runP (n := 200) rfl ?_ ?_
          · repeat (first | exact subB.nil _ | refine subB.cons rfl ?_)
          conv => whnf
          refine Ar.i64 (by omega) (by omega) ?_
          refine Nx.runP (n := 200) rfl ?_ ?_
          · repeat (first | exact subB.nil _ | refine subB.cons rfl ?_)
          conv => whnf
          refine Nx.hoIdx 0 (j := i + 1) rfl rfl rfl Try.underlying22 rfl rfl rfl Note.enc_len hs rfl (by simp) hlt fun b6 p6 hq6 => ?_
          refine Nx.runP (n := 200) rfl ?_ ?_
          · repeat (first | exact subB.nil _ | refine subB.cons rfl ?_)
          conv => whnf
          refine Nx.hoLoad rfl rfl rfl rfl List.mem_cons_self hq6 rfl rfl ?_
          refine Nx.runP (n := 200) rfl ?_ ?_
          · repeat (first | exact subB.nil _ | refine subB.cons rfl ?_)
          conv => whnf
          refine Nx.hoEqS rfl (.inl rfl) rfl rfl rfl rfl (by kernel_rfl) (eq37 l[i] l[i + 1]) rfl ?_
          refine Nx.runP (n := 200) rfl ?_ ?_
          · repeat (first | exact subB.nil _ | refine subB.cons rfl ?_)
          conv => whnf
          refine Nx.weak K ?_ ?_ ?_ ?_
          · have e : decide (l[i].who ≠ l[i + 1].who ∨ l[i] = l[i + 1]) = decide (l[i] = l[i + 1]) := by
              rw [decide_eq_decide]
              exact ⟨fun h => h.resolve_left h2, .inr⟩
            rw [e, swap_len]
            repeat (first | exact subE.nil _ | refine subE.cons rfl rfl ?_ | refine subE.cons' rfl (fun _ => rfl) ?_)
          · repeat (first | exact subM.nil _ | refine subM.cons rfl rfl rfl ?_)
          · repeat (first | exact subB.nil _ | refine subB.cons rfl ?_)
          · repeat (first | exact subR.nil _ | refine subR.cons rfl rfl ?_)
      refine go 200 ?_
      conv => whnf
      refine Nx.call [] [] rfl rfl rfl rfl rfl (awake_ok) rfl fun v Q hQ => ?_
      obtain ⟨rfl, rfl⟩ := hQ
      refine go 200 ?_
      conv => whnf
      refine go 200 ?_
      conv => whnf
      refine Nx.call [0,1] [0,1] rfl rfl rfl rfl rfl (Same_ok S T _ _ _ _ l l hl hs ht) rfl fun v Q hQ => ?_
      rw [decide_eq_true (sameL_refl l)] at hQ
      obtain ⟨rfl, rfl⟩ := hQ
      refine go 200 ?_
      conv => whnf
      refine go 200 ?_
      conv => whnf
      refine Nx.call [0,2] [0,2] rfl rfl rfl rfl rfl (Same_ok S _ _ _ _ _ l (swap l i hlt) hl hs (ownS_sees 37 (some ⟨b2, 0, none⟩) (swap l i hlt).length c2 8 (notes (swap l i hlt)))) rfl fun v Q hQ => ?_
      have e1 : decide (sameL l (swap l i hlt)) = decide (l[i].who ≠ l[i + 1].who ∨ l[i] = l[i + 1]) := decide_eq_decide.2 (swap_there l i hlt)
      rw [e1] at hQ
      obtain ⟨rfl, rfl⟩ := hQ
      generalize hW : decide (l[i].who ≠ l[i + 1].who ∨ l[i] = l[i + 1]) = W
      refine go 200 ?_
      conv => whnf
      refine BrM.mk (fun hb => ?_) (fun hb => ?_)
      · refine go 200 ?_
        conv => whnf
        refine Nx.call [2,0] [2,0] rfl rfl rfl rfl rfl (Same_ok _ S _ _ _ _ (swap l i hlt) l (by rw [swap_len]; exact hl) (ownS_sees 37 (some ⟨b2, 0, none⟩) (swap l i hlt).length c2 8 (notes (swap l i hlt))) hs) rfl fun v Q hQ => ?_
        have e2 : decide (sameL (swap l i hlt) l) = W := by rw [← hW]; exact decide_eq_decide.2 (swap_back l i hlt)
        rw [e2] at hQ
        obtain ⟨rfl, rfl⟩ := hQ
        refine go 200 ?_
        conv => whnf
        refine BrM.mk (fun hb2 => ?_) (fun hb2 => ?_)
        · refine go 200 ?_
          conv => whnf
          refine Nx.reslice (l := 1) (h := l.length) (m := c) rfl rfl Try.underlying22 rfl rfl rfl rfl rfl (fun h => by cases h) (by omega) hcap (Nat.le_refl _) ?_
          have hse := Sees.cutOf (l := 1) (h := l.length) (m := c) Note.enc_len ht (by omega) (Nat.le_refl _) hcap
          obtain ⟨m', hm', hml⟩ : ∃ m', m' = (l.drop 1).take (l.length - 1) ∧ m'.length = l.length - 1 := ⟨_, rfl, by simp⟩
          rw [← hm', ← hml] at hse
          rw [← hml]
          refine go 200 ?_
          conv => whnf
          refine Nx.call [0,1] [0,1] rfl rfl rfl rfl rfl (Same_ok S T _ _ _ _ l m' hl hs hse) rfl fun v Q hQ => ?_
          have e3 : decide (sameL l m') = false := decide_eq_false fun h => by have := h.1; omega
          rw [e3] at hQ
          obtain ⟨rfl, rfl⟩ := hQ
          refine go 200 ?_
          conv => whnf
          refine Nx.ret [0, 1] Try.func8 rfl rfl ?_
          exact ⟨rfl, rfl⟩
        · exact absurd hb2 (by simp)
      · exact absurd hb (by simp)
  · rw [decide_eq_false h0]
    refine go 200 ?_
    conv => whnf
    refine go 200 ?_
    conv => whnf
    refine Nx.call [] [] rfl rfl rfl rfl rfl (awake_ok) rfl fun v Q hQ => ?_
    obtain ⟨rfl, rfl⟩ := hQ
    refine go 200 ?_
    conv => whnf
    refine go 200 ?_
    conv => whnf
    refine Nx.call [0,1] [0,1] rfl rfl rfl rfl rfl (Same_ok S T _ _ _ _ l l hl0 hs ht) rfl fun v Q hQ => ?_
    rw [decide_eq_true (sameL_refl l)] at hQ
    obtain ⟨rfl, rfl⟩ := hQ
    refine go 200 ?_
    conv => whnf
    refine Nx.ret [0, 1] Try.func8 rfl rfl ?_
    exact ⟨rfl, rfl⟩
end Go.Proofs.Ytnnhgopibbdlkaa
