/- Events, Calls, Cursor, Rising. -/
import Derived.Test.YtnnhgopibbdlkaaTrH
namespace Go.Proofs.Ytnnhgopibbdlkaa
open Go.RowKit
attribute [local irreducible] Nx Ar

structure Ev where
  key : Int
  val : Int
  deriving DecidableEq
def Ev.enc (x : Ev) : List Value := [.int .i64 x.key, .int .i64 x.val]
theorem Ev.enc_len (x : Ev) : x.enc.length = 2 := rfl
abbrev evs (l : List Ev) : List Value := l.flatMap Ev.enc
def Note.ev (n : Note) : Ev := ⟨n.key, n.val⟩
abbrev mapTo {α : Type} (f : Note → α) (l : List Note) (k : Nat) : List α := (l.take k).map f
theorem mapTo_succ {α : Type} {f : Note → α} {l : List Note} {k : Nat} (hk : k < l.length) : mapTo f l (k + 1) = mapTo f l k ++ [f l[k]] := by
  unfold mapTo; rw [List.take_succ_eq_append_getElem hk, List.map_append]; rfl
theorem mapTo_len {α : Type} {f : Note → α} {l : List Note} {k : Nat} (hk : k ≤ l.length) : (mapTo f l k).length = k := by
  simp [Nat.min_eq_left hk]
theorem mapTo_all {α : Type} (f : Note → α) (l : List Note) : mapTo f l l.length = l.map f := by simp [mapTo]
def ofAt (who ring deed : Int) (l : List Note) : List Note := (l.filter fun n => decide (n.who = who)).filter (atP ring [deed])
theorem ofAt_len (who ring deed : Int) (l : List Note) : (ofAt who ring deed l).length ≤ l.length :=
  Nat.le_trans (List.length_filter_le _ _) (List.length_filter_le _ _)

theorem Events_ok (S : SP) (A : Option Addr) (c : Nat) (l : List Note) (who ring : Int) (hl : l.length ≤ 2199023255488) (hs : Sees S A l.length 8 (notes l)) :
    FnOk Try.prog 26 [.slice A l.length c, .int .i64 who, .int .i64 ring] [S] (fun v Q => ∃ A' c', v = .slice A' ((ofAt who ring 2 l).map Note.ev).length c' ∧ Q = [S, ownS 34 A' ((ofAt who ring 2 l).map Note.ev).length c' 2 (evs ((ofAt who ring 2 l).map Note.ev))]) := by
  refine FnOk.start Try.func26 rfl rfl rfl rfl fun F os tape output => ?_
  refine go 200 ?_
  conv => whnf
  refine Nx.call [0] [0,1] rfl rfl rfl rfl rfl (Of_ok S _ _ l who hl hs) rfl fun v Q hQ => ?_
  obtain ⟨A1, c1, rfl, rfl⟩ := hQ
  have hm1 := List.length_filter_le (fun n : Note => decide (n.who = who)) l
  have hm := ofAt_len who ring 2 l
  unfold ofAt at hm ⊢
  generalize l.filter (fun n => decide (n.who = who)) = m1 at hm hm1
  refine go 200 ?_
  conv => whnf
  intro b14
  refine go 200 ?_
  conv => whnf
  refine Nx.out 14 rfl rfl rfl rfl ?_
  refine Nx.call [1,14] [1,14,2] rfl rfl rfl rfl rfl (At_ok _ _ _ _ _ _ m1 [2] ring (by omega) (by simp) (ownS_sees 37 A1 m1.length c1 8 (notes m1)) (blk_sees b14 1 1 32 [.int .i64 2] rfl)) rfl fun v Q hQ => ?_
  obtain ⟨A2, c2, rfl, rfl⟩ := hQ
  generalize m1.filter (atP ring [2]) = m at hm
  refine go 200 ?_
  conv => whnf
  refine Nx.give 3 (ownS 34 none 0 0 2 []) (own_nil _ _ _ _) ?_
  refine Nx.loop (X := KSt) (fun x => x.k ≤ m.length) (fun x => m.length - x.k)
    (fun x => [(7, sl x.B (mapTo Note.ev m x.k).length x.d), (15, sl A2 m.length c2), (16, iv m.length), (17, iv x.k)]) (fun _ => []) [] (fun x => [(0, S), (2, ownS 37 A2 m.length c2 8 (notes m)), (3, ownS 34 x.B (mapTo Note.ev m x.k).length x.d 2 (evs (mapTo Note.ev m x.k)))])
    ⟨0, none, 0⟩ (Nat.zero_le _) ?_ ?_ ?_ ?_ ?_
  · repeat (first | exact subE.nil _ | refine subE.cons rfl rfl ?_ | refine subE.cons' rfl (fun _ => rfl) ?_)
  · repeat (first | exact subM.nil _ | refine subM.cons rfl rfl rfl ?_)
  · repeat (first | exact subB.nil _ | refine subB.cons rfl ?_)
  · repeat (first | exact subR.nil _ | refine subR.cons rfl rfl ?_)
  intro x hk ih
  have hlen := mapTo_len (f := Note.ev) hk
  refine go 200 ?_
  conv => whnf
  refine BrM.dec (fun h1 => ?_) (fun h1 => ?_)
  · have hlt : x.k < m.length := by omega
    have hsu := mapTo_succ (f := Note.ev) hlt
    refine go 200 ?_
    conv => whnf
    refine Nx.idx 2 rfl rfl rfl Try.underlying22 rfl rfl rfl Note.enc_len (ownS_sees 37 A2 m.length c2 8 (notes m)) rfl rfl hlt fun b p hq => ?_
    refine go 200 ?_
    conv => whnf
    refine Nx.load 2 rfl rfl rfl rfl hq rfl rfl ?_
    refine go 200 ?_
    conv => whnf
    refine Nx.append 3 (sz := 2) (by_ := 16) (news := (m[x.k].ev).enc) rfl rfl rfl rfl rfl Try.underlying55 rfl rfl rfl rfl rfl (by unfold maxLen; omega) (by omega) fun A' c'' => ?_
    refine go 200 ?_
    conv => whnf
    refine Ar.i64 (by omega) (by omega) ?_
    refine go 200 ?_
    conv => whnf
    refine (ih ⟨x.k + 1, A', c''⟩ (by show x.k + 1 ≤ _; omega) (by show m.length - (x.k + 1) < _; omega)).weak ?_ ?_ ?_ ?_
    · exact .cons rfl (by rw [hsu]; simp) (.cons rfl rfl (.cons rfl rfl (.cons rfl (by simp) (.nil _))))
    · repeat (first | exact subM.nil _ | refine subM.cons rfl rfl rfl ?_)
    · repeat (first | exact subB.nil _ | refine subB.cons rfl ?_)
    · exact .cons rfl rfl (.cons rfl rfl (.cons rfl (by rw [hsu]; simp) (.nil _)))
  · refine go 200 ?_
    conv => whnf
    refine Nx.ret [0, 3] Try.func26 rfl rfl ?_
    have hx : x.k = m.length := by omega
    rw [hx, mapTo_all]
    exact ⟨_, _, rfl, rfl⟩

def codesTo (l : List Note) : List Int := (l.filter fun n => decide (n.deed = 4)).map Note.code
abbrev codesK (l : List Note) (k : Nat) : List Int := codesTo (l.take k)
theorem codesK_yes {l : List Note} {k : Nat} (hk : k < l.length) (h : l[k].deed = 4) : codesK l (k + 1) = codesK l k ++ [l[k].code] := by
  unfold codesK codesTo; rw [List.take_succ_eq_append_getElem hk, List.filter_append, List.map_append]; simp only [List.filter_cons, h, decide_true, decide_false, if_true, List.filter_nil, List.map_cons, List.map_nil, Bool.false_eq_true, if_false, List.append_nil]
theorem codesK_no {l : List Note} {k : Nat} (hk : k < l.length) (h : ¬ l[k].deed = 4) : codesK l (k + 1) = codesK l k := by
  unfold codesK codesTo; rw [List.take_succ_eq_append_getElem hk, List.filter_append, List.map_append]; simp only [List.filter_cons, h, decide_true, decide_false, if_true, List.filter_nil, List.map_cons, List.map_nil, Bool.false_eq_true, if_false, List.append_nil]
theorem codesK_le (l : List Note) (k : Nat) : (codesK l k).length ≤ k := by
  unfold codesK codesTo
  rw [List.length_map]
  exact Nat.le_trans (List.length_filter_le _ _) (List.length_take_le _ _)
theorem codesK_all (l : List Note) : codesK l l.length = codesTo l := by simp [codesK]

theorem Calls_ok (S : SP) (A : Option Addr) (c : Nat) (l : List Note) (who : Int) (hl : l.length ≤ 2199023255488) (hs : Sees S A l.length 8 (notes l)) :
    FnOk Try.prog 27 [.slice A l.length c, .int .i64 who] [S] (fun v Q => ∃ A' c', v = .slice A' (codesTo (l.filter fun n => decide (n.who = who))).length c' ∧ Q = [S, ownS 35 A' (codesTo (l.filter fun n => decide (n.who = who))).length c' 1 (ints (codesTo (l.filter fun n => decide (n.who = who))))]) := by
  refine FnOk.start Try.func27 rfl rfl rfl rfl fun F os tape output => ?_
  refine go 200 ?_
  conv => whnf
  refine Nx.call [0] [0,1] rfl rfl rfl rfl rfl (Of_ok S _ _ l who hl hs) rfl fun v Q hQ => ?_
  obtain ⟨A1, c1, rfl, rfl⟩ := hQ
  have hm := List.length_filter_le (fun n : Note => decide (n.who = who)) l
  generalize l.filter (fun n => decide (n.who = who)) = m at hm
  refine go 200 ?_
  conv => whnf
  refine Nx.give 3 (ownS 35 none 0 0 1 []) (own_nil _ _ _ _) ?_
  refine Nx.loop (X := KSt) (fun x => x.k ≤ m.length) (fun x => m.length - x.k)
    (fun x => [(5, sl x.B (codesK m x.k).length x.d), (10, sl A1 m.length c1), (11, iv m.length), (12, iv x.k)]) (fun _ => []) [] (fun x => [(0, S), (1, ownS 37 A1 m.length c1 8 (notes m)), (3, ownS 35 x.B (codesK m x.k).length x.d 1 (ints (codesK m x.k)))])
    ⟨0, none, 0⟩ (Nat.zero_le _) ?_ ?_ ?_ ?_ ?_
  · repeat (first | exact subE.nil _ | refine subE.cons rfl rfl ?_ | refine subE.cons' rfl (fun _ => rfl) ?_)
  · repeat (first | exact subM.nil _ | refine subM.cons rfl rfl rfl ?_)
  · repeat (first | exact subB.nil _ | refine subB.cons rfl ?_)
  · repeat (first | exact subR.nil _ | refine subR.cons rfl rfl ?_)
  intro x hk ih
  have hlen := codesK_le m x.k
  refine go 200 ?_
  conv => whnf
  refine BrM.dec (fun h1 => ?_) (fun h1 => ?_)
  · have hlt : x.k < m.length := by omega
    refine go 200 ?_
    conv => whnf
    refine Nx.idx 1 rfl rfl rfl Try.underlying22 rfl rfl rfl Note.enc_len (ownS_sees 37 A1 m.length c1 8 (notes m)) rfl rfl hlt fun b p hq => ?_
    refine go 200 ?_
    conv => whnf
    refine Nx.load 1 rfl rfl rfl rfl hq rfl rfl ?_
    refine go 200 ?_
    conv => whnf
    refine BrM.dec (fun h2 => ?_) (fun h2 => ?_)
    · have hsu := codesK_yes hlt h2
      refine go 200 ?_
      conv => whnf
      refine Nx.append 3 (sz := 1) (by_ := 8) (news := (encI m[x.k].code)) rfl rfl rfl rfl rfl Try.underlying57 rfl rfl rfl rfl rfl (by unfold maxLen; omega) (by omega) fun A' c'' => ?_
      refine go 200 ?_
      conv => whnf
      refine Ar.i64 (by omega) (by omega) ?_
      refine go 200 ?_
      conv => whnf
      refine (ih ⟨x.k + 1, A', c''⟩ (by show x.k + 1 ≤ _; omega) (by show m.length - (x.k + 1) < _; omega)).weak ?_ ?_ ?_ ?_
      · exact .cons rfl (by rw [hsu]; simp) (.cons rfl rfl (.cons rfl rfl (.cons rfl (by simp) (.nil _))))
      · repeat (first | exact subM.nil _ | refine subM.cons rfl rfl rfl ?_)
      · repeat (first | exact subB.nil _ | refine subB.cons rfl ?_)
      · exact .cons rfl rfl (.cons rfl rfl (.cons rfl (by rw [hsu]; simp) (.nil _)))
    · have hsu := codesK_no hlt h2
      refine go 200 ?_
      conv => whnf
      refine Ar.i64 (by omega) (by omega) ?_
      refine go 200 ?_
      conv => whnf
      refine (ih ⟨x.k + 1, x.B, x.d⟩ (by show x.k + 1 ≤ _; omega) (by show m.length - (x.k + 1) < _; omega)).weak ?_ ?_ ?_ ?_
      · exact .cons rfl (by rw [hsu]) (.cons rfl rfl (.cons rfl rfl (.cons rfl (by simp) (.nil _))))
      · repeat (first | exact subM.nil _ | refine subM.cons rfl rfl rfl ?_)
      · repeat (first | exact subB.nil _ | refine subB.cons rfl ?_)
      · exact .cons rfl rfl (.cons rfl rfl (.cons rfl (by rw [hsu]) (.nil _)))
  · refine go 200 ?_
    conv => whnf
    refine Nx.ret [0, 3] Try.func27 rfl rfl ?_
    have hx : x.k = m.length := by omega
    rw [hx, codesK_all]
    exact ⟨_, _, rfl, rfl⟩

def lastSeq (l : List Note) : Int := match l.getLast? with
  | none => -1
  | some n => n.seq
theorem Cursor_ok (S : SP) (A : Option Addr) (c : Nat) (l : List Note) (who ring : Int) (hl : l.length ≤ 2199023255488) (hs : Sees S A l.length 8 (notes l)) :
    FnOk Try.prog 28 [.slice A l.length c, .int .i64 who, .int .i64 ring] [S] (fun v Q => v = .int .i64 (lastSeq (ofAt who ring 3 l)) ∧ Q = [S]) := by
  refine FnOk.start Try.func28 rfl rfl rfl rfl fun F os tape output => ?_
  refine go 200 ?_
  conv => whnf
  refine Nx.call [0] [0,1] rfl rfl rfl rfl rfl (Of_ok S _ _ l who hl hs) rfl fun v Q hQ => ?_
  obtain ⟨A1, c1, rfl, rfl⟩ := hQ
  have hm1 := List.length_filter_le (fun n : Note => decide (n.who = who)) l
  have hm := ofAt_len who ring 3 l
  unfold ofAt at hm ⊢
  generalize l.filter (fun n => decide (n.who = who)) = m1 at hm hm1
  refine go 200 ?_
  conv => whnf
  intro b14
  refine go 200 ?_
  conv => whnf
  refine Nx.out 12 rfl rfl rfl rfl ?_
  refine Nx.call [1,12] [1,12,2] rfl rfl rfl rfl rfl (At_ok _ _ _ _ _ _ m1 [3] ring (by omega) (by simp) (ownS_sees 37 A1 m1.length c1 8 (notes m1)) (blk_sees b14 1 1 32 [.int .i64 3] rfl)) rfl fun v Q hQ => ?_
  obtain ⟨A2, c2, rfl, rfl⟩ := hQ
  generalize m1.filter (atP ring [3]) = m at hm
  refine go 200 ?_
  conv => whnf
  refine BrM.dec (fun h1 => ?_) (fun h1 => ?_)
  · refine go 200 ?_
    conv => whnf
    refine Nx.ret [0] Try.func28 rfl rfl ?_
    have e : m = [] := List.eq_nil_of_length_eq_zero (by omega)
    rw [e]
    exact ⟨rfl, rfl⟩
  · refine go 200 ?_
    conv => whnf
    refine Ar.i64 (by omega) (by omega) ?_
    refine go 200 ?_
    conv => whnf
    have hlt : m.length - 1 < m.length := by omega
    refine Nx.idx 2 rfl rfl rfl Try.underlying22 rfl rfl rfl Note.enc_len (ownS_sees 37 A2 m.length c2 8 (notes m)) rfl (by omega) hlt fun b p hq => ?_
    refine go 200 ?_
    conv => whnf
    refine Nx.load1 2 rfl rfl rfl rfl (SeesAt.sub hq 4 rfl) rfl ?_
    refine go 200 ?_
    conv => whnf
    refine Nx.ret [0] Try.func28 rfl rfl ?_
    have e : m.getLast? = some m[m.length - 1] := by rw [List.getLast?_eq_getElem?, List.getElem?_eq_getElem hlt]
    unfold lastSeq
    rw [e]
    exact ⟨rfl, rfl⟩

def risingL : List Note → Int → Bool
  | [], _ => true
  | n :: r, i => if n.seq = i ∧ i ≤ 4611686018427387904 then risingL r (i + 1) else false
theorem risingL_at {l : List Note} {k : Nat} (hk : k < l.length) (i : Int) : risingL (l.drop k) i = if l[k].seq = i ∧ i ≤ 4611686018427387904 then risingL (l.drop (k + 1)) (i + 1) else false := by
  rw [← List.getElem_cons_drop hk, risingL]
structure RiSt where
  k : Nat
  i : Int
theorem Rising_ok (S : SP) (A : Option Addr) (c : Nat) (l : List Note) (who ring i0 : Int) (h63 : -9223372036854775808 ≤ i0) (hl : l.length ≤ 2199023255488) (hs : Sees S A l.length 8 (notes l)) :
    FnOk Try.prog 29 [.slice A l.length c, .int .i64 who, .int .i64 ring, .int .i64 i0] [S] (fun v Q => v = .bool (risingL (ofAt who ring 2 l) i0) ∧ Q = [S]) := by
  refine FnOk.start Try.func29 rfl rfl rfl rfl fun F os tape output => ?_
  refine go 200 ?_
  conv => whnf
  refine Nx.call [0] [0,1] rfl rfl rfl rfl rfl (Of_ok S _ _ l who hl hs) rfl fun v Q hQ => ?_
  obtain ⟨A1, c1, rfl, rfl⟩ := hQ
  have hm1 := List.length_filter_le (fun n : Note => decide (n.who = who)) l
  have hm := ofAt_len who ring 2 l
  unfold ofAt at hm ⊢
  generalize l.filter (fun n => decide (n.who = who)) = m1 at hm hm1
  refine go 200 ?_
  conv => whnf
  intro b14
  refine go 200 ?_
  conv => whnf
  refine Nx.out 15 rfl rfl rfl rfl ?_
  refine Nx.call [1,15] [1,15,2] rfl rfl rfl rfl rfl (At_ok _ _ _ _ _ _ m1 [2] ring (by omega) (by simp) (ownS_sees 37 A1 m1.length c1 8 (notes m1)) (blk_sees b14 1 1 32 [.int .i64 2] rfl)) rfl fun v Q hQ => ?_
  obtain ⟨A2, c2, rfl, rfl⟩ := hQ
  generalize m1.filter (atP ring [2]) = m at hm
  refine go 200 ?_
  conv => whnf
  refine Nx.loop (X := RiSt) (fun x => x.k ≤ m.length ∧ -9223372036854775808 ≤ x.i ∧ risingL (m.drop x.k) x.i = risingL m i0) (fun x => m.length - x.k)
    (fun x => [(3, iv x.i), (16, sl A2 m.length c2), (17, iv m.length), (18, iv x.k)]) (fun _ => []) [] (fun x => [(0, S), (2, ownS 37 A2 m.length c2 8 (notes m))])
    ⟨0, i0⟩ ⟨Nat.zero_le _, h63, rfl⟩ ?_ ?_ ?_ ?_ ?_
  · repeat (first | exact subE.nil _ | refine subE.cons rfl rfl ?_ | refine subE.cons' rfl (fun _ => rfl) ?_)
  · repeat (first | exact subM.nil _ | refine subM.cons rfl rfl rfl ?_)
  · repeat (first | exact subB.nil _ | refine subB.cons rfl ?_)
  · repeat (first | exact subR.nil _ | refine subR.cons rfl rfl ?_)
  intro x ⟨hk, hi, he⟩ ih
  refine go 200 ?_
  conv => whnf
  refine BrM.dec (fun h1 => ?_) (fun h1 => ?_)
  · have hlt : x.k < m.length := by omega
    have hj := risingL_at hlt x.i
    refine go 200 ?_
    conv => whnf
    refine Nx.idx 2 rfl rfl rfl Try.underlying22 rfl rfl rfl Note.enc_len (ownS_sees 37 A2 m.length c2 8 (notes m)) rfl rfl hlt fun b p hq => ?_
    refine go 200 ?_
    conv => whnf
    refine Nx.load 2 rfl rfl rfl rfl hq rfl rfl ?_
    refine go 200 ?_
    conv => whnf
    refine BrM.dec (fun h2 => ?_) (fun h2 => ?_)
    · rw [if_neg (fun h => h2 h.1)] at hj
      refine go 200 ?_
      conv => whnf
      refine Nx.ret [0] Try.func29 rfl rfl ?_
      rw [← he, hj]
      exact ⟨rfl, rfl⟩
    · refine go 200 ?_
      conv => whnf
      refine BrM.dec (fun h3 => ?_) (fun h3 => ?_)
      · rw [if_neg (fun h => by omega)] at hj
        refine go 200 ?_
        conv => whnf
        refine Nx.ret [0] Try.func29 rfl rfl ?_
        rw [← he, hj]
        exact ⟨rfl, rfl⟩
      · rw [if_pos ⟨by omega, by omega⟩] at hj
        refine go 200 ?_
        conv => whnf
        refine Ar.i64 (by omega) (by omega) ?_
        refine go 200 ?_
        conv => whnf
        refine Ar.i64 (by omega) (by omega) ?_
        refine go 200 ?_
        conv => whnf
        refine (ih ⟨x.k + 1, x.i + 1⟩ ⟨by show x.k + 1 ≤ _; omega, by show _ ≤ x.i + 1; omega, by rw [← he, hj]⟩ (by show m.length - (x.k + 1) < _; omega)).weak ?_ ?_ ?_ ?_
        · exact .cons rfl rfl (.cons rfl rfl (.cons rfl rfl (.cons rfl (by simp) (.nil _))))
        · repeat (first | exact subM.nil _ | refine subM.cons rfl rfl rfl ?_)
        · repeat (first | exact subB.nil _ | refine subB.cons rfl ?_)
        · repeat (first | exact subR.nil _ | refine subR.cons rfl rfl ?_)
  · refine go 200 ?_
    conv => whnf
    refine Nx.ret [0] Try.func29 rfl rfl ?_
    have hx : x.k = m.length := by omega
    rw [← he, hx, List.drop_length]
    exact ⟨rfl, rfl⟩
end Go.Proofs.Ytnnhgopibbdlkaa
