/- Notes, and the first functions of trace: right, Right, Index, Contains, Of, At. -/
import Derived.Test.YtnnhgopibbdlkaaSx
import Derived.Test.YtnnhgopibbdlkaaProg
namespace Go.Proofs.Ytnnhgopibbdlkaa
open Go.RowKit

structure Note where
  who : Int
  ring : Int
  deed : Int
  lo : Int
  seq : Int
  key : Int
  val : Int
  code : Int
  deriving DecidableEq
def Note.enc (n : Note) : List Value := [.int .i64 n.who, .int .i64 n.ring, .int .i64 n.deed, .int .i64 n.lo, .int .i64 n.seq, .int .i64 n.key, .int .i64 n.val, .int .i64 n.code]
theorem Note.enc_len (n : Note) : n.enc.length = 8 := rfl
abbrev notes (l : List Note) : List Value := l.flatMap Note.enc
def Note.right (n : Note) : Bool := decide (0 ≤ n.lo) && decide (n.lo ≤ n.seq) && decide (n.seq ≤ 4611686018427387904)
def encI (x : Int) : List Value := [.int .i64 x]
theorem encI_len (x : Int) : (encI x).length = 1 := rfl
abbrev ints (l : List Int) : List Value := l.flatMap encI

attribute [local irreducible] Nx Ar

theorem right_ok (n : Note) : FnOk Try.prog 30 [.agg n.enc.toArray] [] (fun v Q => v = .bool n.right ∧ Q = []) := by
  refine FnOk.start Try.func30 rfl rfl rfl rfl fun F os tape output => ?_
  refine go 200 ?_
  conv => whnf
  refine BrM.dec (fun h1 => ?_) (fun h1 => ?_)
  · refine go 200 ?_
    conv => whnf
    refine BrM.dec (fun h2 => ?_) (fun h2 => ?_)
    · refine go 200 ?_
      conv => whnf
      refine Nx.ret [] Try.func30 rfl rfl ?_
      exact ⟨by simp [oneV, Note.right, h1, h2], rfl⟩
    · refine go 200 ?_
      conv => whnf
      refine Nx.ret [] Try.func30 rfl rfl ?_
      exact ⟨by simp [oneV, Note.right, h2], rfl⟩
  · refine go 200 ?_
    conv => whnf
    refine Nx.ret [] Try.func30 rfl rfl ?_
    exact ⟨by simp [oneV, Note.right, h1], rfl⟩

theorem Right_ok (n : Note) : FnOk Try.prog 32 [.agg n.enc.toArray] [] (fun v Q => v = .bool n.right ∧ Q = []) := by
  refine FnOk.start Try.func32 rfl rfl rfl rfl fun F os tape output => ?_
  refine go 200 ?_
  conv => whnf
  refine BrM.dec (fun h1 => ?_) (fun h1 => ?_)
  · refine go 200 ?_
    conv => whnf
    refine BrM.dec (fun h2 => ?_) (fun h2 => ?_)
    · refine go 200 ?_
      conv => whnf
      refine Nx.ret [] Try.func32 rfl rfl ?_
      exact ⟨by simp [oneV, Note.right, h1, h2], rfl⟩
    · refine go 200 ?_
      conv => whnf
      refine Nx.ret [] Try.func32 rfl rfl ?_
      exact ⟨by simp [oneV, Note.right, h2], rfl⟩
  · refine go 200 ?_
    conv => whnf
    refine Nx.ret [] Try.func32 rfl rfl ?_
    exact ⟨by simp [oneV, Note.right, h1], rfl⟩

/-- The first place of a number in a list; -1: none. -/
def ix (l : List Int) (x : Int) : Int := if x ∈ l then (l.idxOf x : Int) else -1
theorem ix_nonneg (l : List Int) (x : Int) : 0 ≤ ix l x ↔ x ∈ l := by
  unfold ix; split <;> simp_all
theorem ix_hit {l : List Int} {x : Int} {k : Nat} (hk : k < l.length) (hn : x ∉ l.take k) (he : x = l[k]) : ix l x = k := by
  have hm : x ∈ l := he ▸ List.getElem_mem hk
  unfold ix
  rw [if_pos hm]
  have h1 : l = l.take k ++ l[k] :: l.drop (k + 1) := by rw [List.getElem_cons_drop, List.take_append_drop]
  have h2 : l.idxOf x = k := by
    rw [h1, List.idxOf_append, if_neg hn, ← he, List.idxOf_cons_self, List.length_take, Nat.min_eq_left (Nat.le_of_lt hk), Nat.zero_add]
  rw [h2]
theorem take_no {l : List Int} {x : Int} {k : Nat} (hk : k < l.length) (hn : x ∉ l.take k) (he : ¬ x = l[k]) : x ∉ l.take (k + 1) := by
  rw [List.take_succ_eq_append_getElem hk]
  intro h
  rcases List.mem_append.1 h with h | h
  · exact hn h
  · exact he (List.mem_singleton.1 h)

theorem IndexD_ok (S : SP) (A : Option Addr) (c : Nat) (l : List Int) (x : Int) (hl : l.length ≤ 2199023255488) (hs : Sees S A l.length 1 (ints l)) :
    FnOk Try.prog 36 [.slice A l.length c, .int .i64 x] [S] (fun v Q => v = .int .i64 (ix l x) ∧ Q = [S]) := by
  refine FnOk.start Try.func36 rfl rfl rfl rfl fun F os tape output => ?_
  refine go 200 ?_
  conv => whnf
  refine Nx.loop (X := Nat) (fun k => k ≤ l.length ∧ x ∉ l.take k) (fun k => l.length - k)
    (fun k => [(0, sl A l.length c), (1, iv x), (7, iv l.length), (8, iv k)]) (fun _ => []) [] (fun _ => [(0, S)]) 0 ⟨Nat.zero_le _, by simp⟩ ?_ ?_ ?_ ?_ ?_
  · repeat (first | exact subE.nil _ | refine subE.cons rfl rfl ?_ | refine subE.cons' rfl (fun _ => rfl) ?_)
  · repeat (first | exact subM.nil _ | refine subM.cons rfl rfl rfl ?_)
  · repeat (first | exact subB.nil _ | refine subB.cons rfl ?_)
  · repeat (first | exact subR.nil _ | refine subR.cons rfl rfl ?_)
  intro k ⟨hk, hno⟩ ih
  refine go 200 ?_
  conv => whnf
  refine BrM.dec (fun h1 => ?_) (fun h1 => ?_)
  · have hlt : k < l.length := by omega
    refine go 200 ?_
    conv => whnf
    refine Nx.idx 0 rfl rfl rfl Try.underlying40 rfl rfl rfl encI_len hs rfl rfl hlt fun b p hp => ?_
    refine go 200 ?_
    conv => whnf
    refine Nx.load1 0 rfl rfl rfl rfl (hp) rfl ?_
    refine go 200 ?_
    conv => whnf
    refine BrM.dec (fun h2 => ?_) (fun h2 => ?_)
    · refine go 200 ?_
      conv => whnf
      refine Nx.ret [0] Try.func36 rfl rfl ?_
      exact ⟨by rw [ix_hit hlt hno h2]; rfl, rfl⟩
    · refine go 200 ?_
      conv => whnf
      refine Ar.i64 (by omega) (by omega) ?_
      refine go 200 ?_
      conv => whnf
      refine (ih (k + 1) ⟨by omega, take_no hlt hno h2⟩ (by omega)).weak ?_ ?_ ?_ ?_
      · repeat (first | exact subE.nil _ | refine subE.cons rfl rfl ?_ | refine subE.cons' rfl (fun _ => rfl) ?_)
      · repeat (first | exact subM.nil _ | refine subM.cons rfl rfl rfl ?_)
      · repeat (first | exact subB.nil _ | refine subB.cons rfl ?_)
      · repeat (first | exact subR.nil _ | refine subR.cons rfl rfl ?_)
  · refine go 200 ?_
    conv => whnf
    refine Nx.ret [0] Try.func36 rfl rfl ?_
    have hx : k = l.length := by omega
    subst hx
    rw [List.take_length] at hno
    exact ⟨by unfold ix; rw [if_neg hno]; rfl, rfl⟩

theorem ContainsD_ok (S : SP) (A : Option Addr) (c : Nat) (l : List Int) (x : Int) (hl : l.length ≤ 2199023255488) (hs : Sees S A l.length 1 (ints l)) :
    FnOk Try.prog 33 [.slice A l.length c, .int .i64 x] [S] (fun v Q => v = .bool (decide (x ∈ l)) ∧ Q = [S]) := by
  refine FnOk.start Try.func33 rfl rfl rfl rfl fun F os tape output => ?_
  refine go 200 ?_
  conv => whnf
  refine Nx.call [0] [0] rfl rfl rfl rfl rfl (IndexD_ok S _ _ l x hl hs) rfl fun v Q hQ => ?_
  obtain ⟨rfl, rfl⟩ := hQ
  refine go 200 ?_
  conv => whnf
  refine Nx.ret [0] Try.func33 rfl rfl ?_
  refine ⟨?_, rfl⟩
  have := ix_nonneg l x
  show Value.bool _ = _
  congr 1
  exact decide_eq_decide.2 this

theorem Index_ok (S : SP) (A : Option Addr) (c : Nat) (l : List Int) (x : Int) (hl : l.length ≤ 2199023255488) (hs : Sees S A l.length 1 (ints l)) :
    FnOk Try.prog 37 [.slice A l.length c, .int .i64 x] [S] (fun v Q => v = .int .i64 (ix l x) ∧ Q = [S]) := by
  refine FnOk.start Try.func37 rfl rfl rfl rfl fun F os tape output => ?_
  refine go 200 ?_
  conv => whnf
  refine Nx.loop (X := Nat) (fun k => k ≤ l.length ∧ x ∉ l.take k) (fun k => l.length - k)
    (fun k => [(0, sl A l.length c), (1, iv x), (7, iv l.length), (8, iv k)]) (fun _ => []) [] (fun _ => [(0, S)]) 0 ⟨Nat.zero_le _, by simp⟩ ?_ ?_ ?_ ?_ ?_
  · repeat (first | exact subE.nil _ | refine subE.cons rfl rfl ?_ | refine subE.cons' rfl (fun _ => rfl) ?_)
  · repeat (first | exact subM.nil _ | refine subM.cons rfl rfl rfl ?_)
  · repeat (first | exact subB.nil _ | refine subB.cons rfl ?_)
  · repeat (first | exact subR.nil _ | refine subR.cons rfl rfl ?_)
  intro k ⟨hk, hno⟩ ih
  refine go 200 ?_
  conv => whnf
  refine BrM.dec (fun h1 => ?_) (fun h1 => ?_)
  · have hlt : k < l.length := by omega
    refine go 200 ?_
    conv => whnf
    refine Nx.idx 0 rfl rfl rfl Try.underlying39 rfl rfl rfl encI_len hs rfl rfl hlt fun b p hp => ?_
    refine go 200 ?_
    conv => whnf
    refine Nx.load1 0 rfl rfl rfl rfl (hp) rfl ?_
    refine go 200 ?_
    conv => whnf
    refine BrM.dec (fun h2 => ?_) (fun h2 => ?_)
    · refine go 200 ?_
      conv => whnf
      refine Nx.ret [0] Try.func37 rfl rfl ?_
      exact ⟨by rw [ix_hit hlt hno h2]; rfl, rfl⟩
    · refine go 200 ?_
      conv => whnf
      refine Ar.i64 (by omega) (by omega) ?_
      refine go 200 ?_
      conv => whnf
      refine (ih (k + 1) ⟨by omega, take_no hlt hno h2⟩ (by omega)).weak ?_ ?_ ?_ ?_
      · repeat (first | exact subE.nil _ | refine subE.cons rfl rfl ?_ | refine subE.cons' rfl (fun _ => rfl) ?_)
      · repeat (first | exact subM.nil _ | refine subM.cons rfl rfl rfl ?_)
      · repeat (first | exact subB.nil _ | refine subB.cons rfl ?_)
      · repeat (first | exact subR.nil _ | refine subR.cons rfl rfl ?_)
  · refine go 200 ?_
    conv => whnf
    refine Nx.ret [0] Try.func37 rfl rfl ?_
    have hx : k = l.length := by omega
    subst hx
    rw [List.take_length] at hno
    exact ⟨by unfold ix; rw [if_neg hno]; rfl, rfl⟩

theorem Contains_ok (S : SP) (A : Option Addr) (c : Nat) (l : List Int) (x : Int) (hl : l.length ≤ 2199023255488) (hs : Sees S A l.length 1 (ints l)) :
    FnOk Try.prog 34 [.slice A l.length c, .int .i64 x] [S] (fun v Q => v = .bool (decide (x ∈ l)) ∧ Q = [S]) := by
  refine FnOk.start Try.func34 rfl rfl rfl rfl fun F os tape output => ?_
  refine go 200 ?_
  conv => whnf
  refine Nx.call [0] [0] rfl rfl rfl rfl rfl (Index_ok S _ _ l x hl hs) rfl fun v Q hQ => ?_
  obtain ⟨rfl, rfl⟩ := hQ
  refine go 200 ?_
  conv => whnf
  refine Nx.ret [0] Try.func34 rfl rfl ?_
  exact ⟨congrArg Value.bool (decide_eq_decide.2 (ix_nonneg l x)), rfl⟩

/-! ### Of, At: what a test lets through -/
abbrev flt (p : Note → Bool) (l : List Note) (k : Nat) : List Note := (l.take k).filter p
theorem flt_yes {p : Note → Bool} {l : List Note} {k : Nat} (hk : k < l.length) (h : p l[k] = true) : flt p l (k + 1) = flt p l k ++ [l[k]] := by
  unfold flt; rw [List.take_succ_eq_append_getElem hk, List.filter_append]; simp only [List.filter_cons, h, if_true, List.filter_nil]
theorem flt_no {p : Note → Bool} {l : List Note} {k : Nat} (hk : k < l.length) (h : p l[k] = false) : flt p l (k + 1) = flt p l k := by
  unfold flt; rw [List.take_succ_eq_append_getElem hk, List.filter_append]; simp only [List.filter_cons, h, Bool.false_eq_true, if_false, List.filter_nil, List.append_nil]
theorem flt_le (p : Note → Bool) (l : List Note) (k : Nat) : (flt p l k).length ≤ k := Nat.le_trans (List.length_filter_le _ _) (List.length_take_le _ _)
theorem flt_all (p : Note → Bool) (l : List Note) : flt p l l.length = l.filter p := by simp [flt]
theorem notes_snoc (l : List Note) (x : Note) : notes (l ++ [x]) = notes l ++ x.enc := by simp [notes]

theorem Of_ok (S : SP) (A : Option Addr) (c : Nat) (l : List Note) (who : Int) (hl : l.length ≤ 2199023255488) (hs : Sees S A l.length 8 (notes l)) :
    FnOk Try.prog 17 [.slice A l.length c, .int .i64 who] [S] (fun v Q => ∃ A' c', v = .slice A' (l.filter fun n => decide (n.who = who)).length c' ∧ Q = [S, ownS 37 A' (l.filter fun n => decide (n.who = who)).length c' 8 (notes (l.filter fun n => decide (n.who = who)))]) := by
  refine FnOk.start Try.func17 rfl rfl rfl rfl fun F os tape output => ?_
  refine go 200 ?_
  conv => whnf
  refine Nx.give 1 (ownS 37 none 0 0 8 []) (own_nil _ _ _ _) ?_
  obtain ⟨f, hp⟩ : ∃ f : Note → Bool, f = fun n => decide (n.who = who) := ⟨_, rfl⟩
  rw [← hp]
  refine Nx.loop (X := Nat × Option Addr × Nat) (fun x => x.1 ≤ l.length) (fun x => l.length - x.1)
    (fun x => [(1, iv who), (5, sl x.2.1 (flt f l x.1).length x.2.2), (8, sl A l.length c), (9, iv l.length), (10, iv x.1)]) (fun _ => []) [] (fun x => [(0, S), (1, ownS 37 x.2.1 (flt f l x.1).length x.2.2 8 (notes (flt f l x.1)))])
    (0, none, 0) (Nat.zero_le _) ?_ ?_ ?_ ?_ ?_
  · repeat (first | exact subE.nil _ | refine subE.cons rfl rfl ?_ | refine subE.cons' rfl (fun _ => rfl) ?_)
  · repeat (first | exact subM.nil _ | refine subM.cons rfl rfl rfl ?_)
  · repeat (first | exact subB.nil _ | refine subB.cons rfl ?_)
  · repeat (first | exact subR.nil _ | refine subR.cons rfl rfl ?_)
  intro x hk ih
  refine go 200 ?_
  conv => whnf
  refine BrM.dec (fun h1 => ?_) (fun h1 => ?_)
  · have hlt : x.1 < l.length := by omega
    refine go 200 ?_
    conv => whnf
    refine Nx.idx 0 rfl rfl rfl Try.underlying22 rfl rfl rfl Note.enc_len hs rfl rfl hlt fun b p hq => ?_
    refine go 200 ?_
    conv => whnf
    refine Nx.load 0 rfl rfl rfl rfl hq rfl rfl ?_
    refine go 200 ?_
    conv => whnf
    have hle := flt_le f l x.1
    refine BrM.dec (fun h2 => ?_) (fun h2 => ?_)
    · refine go 200 ?_
      conv => whnf
      refine Nx.append 1 (sz := 8) (by_ := 64) (news := l[x.1].enc) rfl rfl rfl rfl rfl Try.underlying22 rfl rfl rfl rfl rfl (by unfold maxLen; omega) (by omega) fun A' c'' => ?_
      refine go 200 ?_
      conv => whnf
      refine Ar.i64 (by omega) (by omega) ?_
      refine go 200 ?_
      conv => whnf
      have e := flt_yes (p := f) hlt (by rw [hp]; simpa using h2)
      refine (ih (x.1 + 1, A', c'') (by simp; omega) (by simp; omega)).weak ?_ ?_ ?_ ?_
      · exact .cons rfl rfl (.cons rfl (by rw [e]; simp) (.cons rfl rfl (.cons rfl rfl (.cons rfl (by simp) (.nil _)))))
      · repeat (first | exact subM.nil _ | refine subM.cons rfl rfl rfl ?_)
      · repeat (first | exact subB.nil _ | refine subB.cons rfl ?_)
      · exact .cons rfl rfl (.cons rfl (by rw [e]; simp) (.nil _))
    · refine go 200 ?_
      conv => whnf
      refine Ar.i64 (by omega) (by omega) ?_
      refine go 200 ?_
      conv => whnf
      have e := flt_no (p := f) hlt (by rw [hp]; simpa using h2)
      refine (ih (x.1 + 1, x.2) (by simp; omega) (by simp; omega)).weak ?_ ?_ ?_ ?_
      · exact .cons rfl rfl (.cons rfl (by rw [e]) (.cons rfl rfl (.cons rfl rfl (.cons rfl (by simp) (.nil _)))))
      · repeat (first | exact subM.nil _ | refine subM.cons rfl rfl rfl ?_)
      · repeat (first | exact subB.nil _ | refine subB.cons rfl ?_)
      · exact .cons rfl rfl (.cons rfl (by rw [e]) (.nil _))
  · refine go 200 ?_
    conv => whnf
    refine Nx.ret [0, 1] Try.func17 rfl rfl ?_
    have hx : x.1 = l.length := by omega
    rw [hx, flt_all]
    exact ⟨_, _, rfl, rfl⟩

def atP (ring : Int) (ds : List Int) (n : Note) : Bool := decide (n.ring = ring) && (decide (ds = []) || decide (n.deed ∈ ds))
theorem At_ok (S T : SP) (A D : Option Addr) (c d : Nat) (l : List Note) (ds : List Int) (ring : Int) (hl : l.length ≤ 2199023255488) (hd : ds.length ≤ 2199023255488) (hs : Sees S A l.length 8 (notes l)) (ht : Sees T D ds.length 1 (ints ds)) :
    FnOk Try.prog 18 [.slice A l.length c, .int .i64 ring, .slice D ds.length d] [S, T] (fun v Q => ∃ A' c', v = .slice A' (l.filter (atP ring ds)).length c' ∧ Q = [S, T, ownS 37 A' (l.filter (atP ring ds)).length c' 8 (notes (l.filter (atP ring ds)))]) := by
  refine FnOk.start Try.func18 rfl rfl rfl rfl fun F os tape output => ?_
  refine go 200 ?_
  conv => whnf
  refine Nx.give 2 (ownS 37 none 0 0 8 []) (own_nil _ _ _ _) ?_
  obtain ⟨f, hp⟩ : ∃ f : Note → Bool, f = atP ring ds := ⟨_, rfl⟩
  rw [← hp]
  refine Nx.loop (X := Nat × Option Addr × Nat) (fun x => x.1 ≤ l.length) (fun x => l.length - x.1)
    (fun x => [(1, iv ring), (2, sl D ds.length d), (7, sl x.2.1 (flt f l x.1).length x.2.2), (10, sl A l.length c), (11, iv l.length), (12, iv x.1)]) (fun _ => []) [] (fun x => [(0, S), (1, T), (2, ownS 37 x.2.1 (flt f l x.1).length x.2.2 8 (notes (flt f l x.1)))])
    (0, none, 0) (Nat.zero_le _) ?_ ?_ ?_ ?_ ?_
  · repeat (first | exact subE.nil _ | refine subE.cons rfl rfl ?_ | refine subE.cons' rfl (fun _ => rfl) ?_)
  · repeat (first | exact subM.nil _ | refine subM.cons rfl rfl rfl ?_)
  · repeat (first | exact subB.nil _ | refine subB.cons rfl ?_)
  · repeat (first | exact subR.nil _ | refine subR.cons rfl rfl ?_)
  intro x hk ih
  refine go 200 ?_
  conv => whnf
  refine BrM.dec (fun h1 => ?_) (fun h1 => ?_)
  · have hlt : x.1 < l.length := by omega
    refine go 200 ?_
    conv => whnf
    refine Nx.idx 0 rfl rfl rfl Try.underlying22 rfl rfl rfl Note.enc_len hs rfl rfl hlt fun b p hq => ?_
    refine go 200 ?_
    conv => whnf
    refine Nx.load 0 rfl rfl rfl rfl hq rfl rfl ?_
    refine go 4 ?_
    conv => whnf
    refine Nx.joinR (E := [(1, iv ring), (2, sl D ds.length d), (7, sl x.2.1 (flt f l x.1).length x.2.2), (9, .c (.loc 9 0)), (10, sl A l.length c), (11, iv l.length), (12, iv x.1), (30, bv (f l[x.1]))]) (M := [(9, 37, l[x.1].enc.map .v)]) (B := []) (R := [(0, S), (1, T), (2, ownS 37 x.2.1 (flt f l x.1).length x.2.2 8 (notes (flt f l x.1)))]) (fun K => ?_) ?_
    · refine goR 200 ?_
      conv => whnf
      refine BrM.dec (fun h2 => ?_) (fun h2 => ?_)
      · refine goR 200 ?_
        conv => whnf
        refine BrM.dec (fun h3 => ?_) (fun h3 => ?_)
        · refine goR 200 ?_
          conv => whnf
          refine Nx.weak K ?_ ?_ ?_ ?_
          · have e : f l[x.1] = true := by rw [hp]; simp [atP, h2, List.eq_nil_of_length_eq_zero (by omega : ds.length = 0)]
            rw [e]
            repeat (first | exact subE.nil _ | refine subE.cons rfl rfl ?_ | refine subE.cons' rfl (fun _ => rfl) ?_)
          · repeat (first | exact subM.nil _ | refine subM.cons rfl rfl rfl ?_)
          · repeat (first | exact subB.nil _ | refine subB.cons rfl ?_)
          · repeat (first | exact subR.nil _ | refine subR.cons rfl rfl ?_)
        · refine goR 200 ?_
          conv => whnf
          have h3' : ds ≠ [] := fun e => h3 (by simp [e])
          refine Nx.call [1] [1] rfl rfl rfl rfl rfl (ContainsD_ok T _ _ ds l[x.1].deed hd ht) rfl fun v Q hQ => ?_
          obtain ⟨rfl, rfl⟩ := hQ
          refine goR 200 ?_
          conv => whnf
          refine Nx.weak K ?_ ?_ ?_ ?_
          · have e : f l[x.1] = decide (l[x.1].deed ∈ ds) := by rw [hp]; simp [atP, h2, h3']
            rw [e]
            repeat (first | exact subE.nil _ | refine subE.cons rfl rfl ?_ | refine subE.cons' rfl (fun _ => rfl) ?_)
          · repeat (first | exact subM.nil _ | refine subM.cons rfl rfl rfl ?_)
          · repeat (first | exact subB.nil _ | refine subB.cons rfl ?_)
          · repeat (first | exact subR.nil _ | refine subR.cons rfl rfl ?_)
      · refine goR 200 ?_
        conv => whnf
        refine Nx.weak K ?_ ?_ ?_ ?_
        · have e : f l[x.1] = false := by rw [hp]; simp [atP, h2]
          rw [e]
          repeat (first | exact subE.nil _ | refine subE.cons rfl rfl ?_ | refine subE.cons' rfl (fun _ => rfl) ?_)
        · repeat (first | exact subM.nil _ | refine subM.cons rfl rfl rfl ?_)
        · repeat (first | exact subB.nil _ | refine subB.cons rfl ?_)
        · repeat (first | exact subR.nil _ | refine subR.cons rfl rfl ?_)
    · have hle := flt_le f l x.1
      refine go 200 ?_
      conv => whnf
      refine BrM.mk (fun h2 => ?_) (fun h2 => ?_)
      · refine go 200 ?_
        conv => whnf
        refine Nx.append 2 (sz := 8) (by_ := 64) (news := l[x.1].enc) rfl rfl rfl rfl rfl Try.underlying22 rfl rfl rfl rfl rfl (by unfold maxLen; omega) (by omega) fun A' c'' => ?_
        refine go 200 ?_
        conv => whnf
        refine Ar.i64 (by omega) (by omega) ?_
        refine go 200 ?_
        conv => whnf
        have e := flt_yes (p := f) hlt h2
        refine (ih (x.1 + 1, A', c'') (by simp; omega) (by simp; omega)).weak ?_ ?_ ?_ ?_
        · exact .cons rfl rfl (.cons rfl rfl (.cons rfl (by rw [e]; simp) (.cons rfl rfl (.cons rfl rfl (.cons rfl (by simp) (.nil _))))))
        · repeat (first | exact subM.nil _ | refine subM.cons rfl rfl rfl ?_)
        · repeat (first | exact subB.nil _ | refine subB.cons rfl ?_)
        · exact .cons rfl rfl (.cons rfl rfl (.cons rfl (by rw [e]; simp) (.nil _)))
      · refine go 200 ?_
        conv => whnf
        refine Ar.i64 (by omega) (by omega) ?_
        refine go 200 ?_
        conv => whnf
        have e := flt_no (p := f) hlt h2
        refine (ih (x.1 + 1, x.2) (by simp; omega) (by simp; omega)).weak ?_ ?_ ?_ ?_
        · exact .cons rfl rfl (.cons rfl rfl (.cons rfl (by rw [e]) (.cons rfl rfl (.cons rfl rfl (.cons rfl (by simp) (.nil _))))))
        · repeat (first | exact subM.nil _ | refine subM.cons rfl rfl rfl ?_)
        · repeat (first | exact subB.nil _ | refine subB.cons rfl ?_)
        · exact .cons rfl rfl (.cons rfl rfl (.cons rfl (by rw [e]) (.nil _)))
  · refine go 200 ?_
    conv => whnf
    refine Nx.ret [0, 1, 2] Try.func18 rfl rfl ?_
    have hx : x.1 = l.length := by omega
    rw [hx, flt_all]
    exact ⟨_, _, rfl, rfl⟩
end Go.Proofs.Ytnnhgopibbdlkaa
