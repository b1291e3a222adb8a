/- Spans: join, Shown, Length. -/
import Derived.Test.YtnnhgopibbdlkaaTrA
import Derived.KernelRfl
namespace Go.Proofs.Ytnnhgopibbdlkaa
open Go.RowKit
attribute [local irreducible] Nx Ar

structure Span where
  lo : Int
  hi : Int
  deriving DecidableEq
def Span.enc (s : Span) : List Value := [.int .i64 s.lo, .int .i64 s.hi]
theorem Span.enc_len (s : Span) : s.enc.length = 2 := rfl
abbrev spans (l : List Span) : List Value := l.flatMap Span.enc
theorem spans_snoc (l : List Span) (x : Span) : spans (l ++ [x]) = spans l ++ x.enc := by simp [spans]
def Span.ok (s : Span) : Prop := 0 ≤ s.lo ∧ s.lo ≤ s.hi ∧ s.hi ≤ 4611686018427387904

def joinL : List Span → Span → List Span
  | [], s => [s]
  | x :: r, s => if x.hi < s.lo - 1 then x :: joinL r s else if s.hi < x.lo - 1 then s :: joinL r x else joinL r ⟨min s.lo x.lo, max s.hi x.hi⟩
theorem joinL_len : ∀ (l : List Span) (s : Span), (joinL l s).length ≤ l.length + 1
  | [], _ => by simp [joinL]
  | x :: r, s => by
    unfold joinL
    split
    · have := joinL_len r s; simp; omega
    · split
      · have := joinL_len r x; simp; omega
      · have := joinL_len r ⟨min s.lo x.lo, max s.hi x.hi⟩; simp; omega
theorem joinL_at {l : List Span} {k : Nat} (hk : k < l.length) (s : Span) : joinL (l.drop k) s = if l[k].hi < s.lo - 1 then l[k] :: joinL (l.drop (k + 1)) s else if s.hi < l[k].lo - 1 then s :: joinL (l.drop (k + 1)) l[k] else joinL (l.drop (k + 1)) ⟨min s.lo l[k].lo, max s.hi l[k].hi⟩ := by
  rw [← List.getElem_cons_drop hk, joinL]

structure JoinSt where
  k : Nat
  B : Option Addr
  d : Nat
  out : List Span
  t : Span
structure JoinI (l : List Span) (s : Span) (x : JoinSt) : Prop where
  k : x.k ≤ l.length
  t : x.t.ok
  len : x.out.length ≤ x.k
  eq : x.out ++ joinL (l.drop x.k) x.t = joinL l s

theorem join_ok (S : SP) (A : Option Addr) (c : Nat) (l : List Span) (s : Span) (hl : l.length ≤ 2199023255488) (hok : ∀ x ∈ l, x.ok) (hs : s.ok) (hsee : Sees S A l.length 2 (spans l)) :
    FnOk Try.prog 31 [.slice A l.length c, .agg s.enc.toArray] [S] (fun v Q => ∃ A' c', v = .slice A' (joinL l s).length c' ∧ Q = [S, ownS 29 A' (joinL l s).length c' 2 (spans (joinL l s))]) := by
  refine FnOk.start Try.func31 rfl rfl rfl rfl fun F os tape output => ?_
  refine go 200 ?_
  conv => whnf
  refine Nx.give 1 (ownS 29 none 0 0 2 []) (own_nil _ _ _ _) ?_
  refine Nx.loop (JoinI l s) (fun x => l.length - x.k)
    (fun x => [(3, .c (.loc 3 0)), (5, sl x.B x.out.length x.d), (8, sl A l.length c), (9, iv l.length), (10, iv x.k)]) (fun x => [(3, 29, x.t.enc.map .v)]) [] (fun x => [(0, S), (1, ownS 29 x.B x.out.length x.d 2 (spans x.out))])
    ⟨0, none, 0, [], s⟩ ⟨Nat.zero_le _, hs, Nat.zero_le _, by simp⟩ ?_ ?_ ?_ ?_ ?_
  · repeat (first | exact subE.nil _ | refine subE.cons rfl rfl ?_ | refine subE.cons' rfl (fun _ => rfl) ?_)
  · repeat (first | exact subM.nil _ | refine subM.cons rfl rfl rfl ?_)
  · repeat (first | exact subB.nil _ | refine subB.cons rfl ?_)
  · repeat (first | exact subR.nil _ | refine subR.cons rfl rfl ?_)
  intro x hI ih
  have hk := hI.k
  have hlen := hI.len
  have heq := hI.eq
  obtain ⟨ta, tb, tc⟩ := hI.t
  refine go 200 ?_
  conv => whnf
  refine BrM.dec (fun h1 => ?_) (fun h1 => ?_)
  · have hlt : x.k < l.length := by omega
    obtain ⟨xa, xb, xc⟩ := hok _ (List.getElem_mem hlt)
    have hj := joinL_at hlt x.t
    refine go 200 ?_
    conv => whnf
    refine Nx.idx 0 rfl rfl rfl Try.underlying26 rfl rfl rfl Span.enc_len hsee rfl rfl hlt fun b p hq => ?_
    refine go 200 ?_
    conv => whnf
    refine Nx.load 0 rfl rfl rfl rfl hq rfl rfl ?_
    refine go 200 ?_
    conv => whnf
    refine Ar.i64 (by omega) (by omega) ?_
    refine go 200 ?_
    conv => whnf
    refine BrM.dec (fun h2 => ?_) (fun h2 => ?_)
    · refine go 200 ?_
      conv => whnf
      rw [if_pos h2] at hj
      refine Nx.append 1 (sz := 2) (by_ := 16) (news := l[x.k].enc) rfl rfl rfl rfl rfl Try.underlying26 rfl rfl rfl rfl rfl (by unfold maxLen; omega) (by omega) fun A' c'' => ?_
      refine go 200 ?_
      conv => whnf
      refine Ar.i64 (by omega) (by omega) ?_
      refine go 200 ?_
      conv => whnf
      refine (ih ⟨x.k + 1, A', c'', x.out ++ [l[x.k]], x.t⟩ ⟨by show x.k + 1 ≤ _; omega, ⟨ta, tb, tc⟩, by simp; omega, by rw [← heq, hj]; simp⟩ (by show l.length - (x.k + 1) < _; omega)).weak ?_ ?_ ?_ ?_
      · exact .cons rfl rfl (.cons rfl (by simp) (.cons rfl rfl (.cons rfl rfl (.cons rfl (by simp) (.nil _)))))
      · repeat (first | exact subM.nil _ | refine subM.cons rfl rfl rfl ?_)
      · repeat (first | exact subB.nil _ | refine subB.cons rfl ?_)
      · exact .cons rfl rfl (.cons rfl (by simp) (.nil _))
    · rw [if_neg h2] at hj
      refine go 200 ?_
      conv => whnf
      refine Ar.i64 (by omega) (by omega) ?_
      refine go 200 ?_
      conv => whnf
      refine BrM.dec (fun h3 => ?_) (fun h3 => ?_)
      · rw [if_pos h3] at hj
        refine go 200 ?_
        conv => whnf
        refine Nx.bind (l := 3) (fun b3 => ?_) rfl
        refine Nx.bind (l := 7) (fun b7 => ?_) rfl
        refine Nx.drawn0 [] [.pure 0, .held 1, .held 4, .ex 2 true, .ex 3 true, .pure 5, .ex 6 false] rfl (by kernel_rfl) rfl (by kernel_rfl) rfl ?_ rfl ?_
        · repeat (first | exact subB.nil _ | refine subB.cons rfl ?_)
        refine Nx.runP (n := 200) rfl ?_ ?_
        · repeat (first | exact subB.nil _ | refine subB.cons rfl ?_)
        conv => whnf
        refine Nx.keepN [] rfl ?_ ?_ rfl ?_
        · repeat (first | exact subB.nil _ | refine subB.cons rfl ?_)
        · repeat (first | exact subM.nil _ | refine subM.cons rfl rfl rfl ?_)
        refine Nx.runP (n := 200) rfl ?_ ?_
        · repeat (first | exact subB.nil _ | refine subB.cons rfl ?_)
        conv => whnf
        refine Nx.append 1 (sz := 2) (by_ := 16) (news := x.t.enc) rfl rfl rfl rfl rfl Try.underlying26 rfl rfl rfl rfl rfl (by unfold maxLen; omega) (by omega) fun A' c'' => ?_
        refine Nx.keepN [] rfl ?_ ?_ rfl ?_
        · repeat (first | exact subB.nil _ | refine subB.cons rfl ?_)
        · repeat (first | exact subM.nil _ | refine subM.cons rfl rfl rfl ?_)
        refine Nx.runP (n := 200) rfl ?_ ?_
        · repeat (first | exact subB.nil _ | refine subB.cons rfl ?_)
        conv => whnf
        refine Nx.late ?_
        refine Nx.runP (n := 200) rfl ?_ ?_
        · repeat (first | exact subB.nil _ | refine subB.cons rfl ?_)
        conv => whnf
        refine go 200 ?_
        conv => whnf
        refine Ar.i64 (by omega) (by omega) ?_
        refine go 200 ?_
        conv => whnf
        refine (ih ⟨x.k + 1, A', c'', x.out ++ [x.t], l[x.k]⟩ ⟨by show x.k + 1 ≤ _; omega, ⟨xa, xb, xc⟩, by simp; omega, by rw [← heq, hj]; simp⟩ (by show l.length - (x.k + 1) < _; omega)).weak ?_ ?_ ?_ ?_
        · exact .cons rfl rfl (.cons rfl (by simp) (.cons rfl rfl (.cons rfl rfl (.cons rfl (by simp) (.nil _)))))
        · repeat (first | exact subM.nil _ | refine subM.cons rfl rfl rfl ?_)
        · repeat (first | exact subB.nil _ | refine subB.cons rfl ?_)
        · exact .cons rfl rfl (.cons rfl (by simp) (.nil _))
      · rw [if_neg h3] at hj
        refine go 200 ?_
        conv => whnf
        refine Ar.i64 (by omega) (by omega) ?_
        refine go 200 ?_
        conv => whnf
        refine (ih ⟨x.k + 1, x.B, x.d, x.out, ⟨min x.t.lo l[x.k].lo, max x.t.hi l[x.k].hi⟩⟩ ⟨by show x.k + 1 ≤ _; omega, ⟨by show 0 ≤ min _ _; omega, by show min _ _ ≤ max _ _; omega, by show max _ _ ≤ _; omega⟩, by show x.out.length ≤ x.k + 1; omega, by rw [← heq, hj]⟩ (by show l.length - (x.k + 1) < _; omega)).weak ?_ ?_ ?_ ?_
        · exact .cons rfl rfl (.cons rfl rfl (.cons rfl rfl (.cons rfl rfl (.cons rfl (by simp) (.nil _)))))
        · repeat (first | exact subM.nil _ | refine subM.cons rfl rfl rfl ?_)
        · repeat (first | exact subB.nil _ | refine subB.cons rfl ?_)
        · repeat (first | exact subR.nil _ | refine subR.cons rfl rfl ?_)
  · refine go 200 ?_
    conv => whnf
    have hkl : x.k = l.length := by omega
    rw [hkl, List.drop_length] at heq
    refine Nx.append 1 (sz := 2) (by_ := 16) (news := x.t.enc) rfl rfl rfl rfl rfl Try.underlying26 rfl rfl rfl rfl rfl (by unfold maxLen; omega) (by omega) fun A' c'' => ?_
    refine go 200 ?_
    conv => whnf
    refine Nx.ret [0, 1] Try.func31 rfl rfl ?_
    rw [← heq, joinL]
    exact ⟨A', c'', by simp [oneV], by simp⟩

theorem blk_sees (b n sz : Nat) (t : TypeId) (cs : List Value) (h : cs.length = n * sz) : Sees (blk b (.cells cs.toArray t (0, 0))) (some ⟨b, 0, none⟩) n sz cs := fun r m d hs =>
  ⟨h, fun _ => ⟨b, 0, cs.toArray, t, (0, 0), rfl, PH.le_un_right d _ _ hs, fun j _ => by simp⟩⟩

def shownStep (acc : List Span) (n : Note) : List Span := if n.right then joinL acc ⟨n.lo, n.seq⟩ else acc
def shown (l : List Note) (ring : Int) : List Span := (l.filter (atP ring [1])).foldl shownStep []
theorem joinL_ok : ∀ (l : List Span) (s : Span), (∀ x ∈ l, x.ok) → s.ok → ∀ x ∈ joinL l s, x.ok
  | [], s, _, hs => by simp [joinL]; exact hs
  | y :: r, s, hl, hs => by
    have hy := hl y (by simp)
    have hr : ∀ x ∈ r, x.ok := fun x hx => hl x (by simp [hx])
    unfold joinL
    split
    · intro x hx
      rcases List.mem_cons.1 hx with rfl | hx
      · exact hy
      · exact joinL_ok r s hr hs x hx
    · split
      · intro x hx
        rcases List.mem_cons.1 hx with rfl | hx
        · exact hs
        · exact joinL_ok r y hr hy x hx
      · refine joinL_ok r _ hr ?_
        obtain ⟨a, b, c⟩ := hs
        obtain ⟨d, e, f⟩ := hy
        exact ⟨by show 0 ≤ min _ _; omega, by show min _ _ ≤ max _ _; omega, by show max _ _ ≤ _; omega⟩
theorem right_span {n : Note} (h : n.right = true) : Span.ok ⟨n.lo, n.seq⟩ := by
  simp [Note.right] at h
  exact ⟨h.1.1, h.1.2, h.2⟩
theorem shown_inv : ∀ (l : List Note) (acc : List Span), (∀ x ∈ acc, x.ok) → (∀ x ∈ l.foldl shownStep acc, x.ok) ∧ (l.foldl shownStep acc).length ≤ acc.length + l.length
  | [], acc, h => ⟨h, by simp⟩
  | n :: r, acc, h => by
    simp only [List.foldl_cons]
    have h1 : ∀ x ∈ shownStep acc n, x.ok := by
      unfold shownStep
      split
      · rename_i hn; exact joinL_ok acc _ h (right_span hn)
      · exact h
    have h2 : (shownStep acc n).length ≤ acc.length + 1 := by
      unfold shownStep
      split
      · exact joinL_len _ _
      · omega
    obtain ⟨a, b⟩ := shown_inv r (shownStep acc n) h1
    exact ⟨a, by simp; omega⟩
abbrev shownTo (l : List Note) (k : Nat) : List Span := (l.take k).foldl shownStep []
theorem shownTo_succ {l : List Note} {k : Nat} (hk : k < l.length) : shownTo l (k + 1) = shownStep (shownTo l k) l[k] := by
  unfold shownTo; rw [List.take_succ_eq_append_getElem hk, List.foldl_append]; rfl
theorem shownTo_ok (l : List Note) (k : Nat) : ∀ x ∈ shownTo l k, x.ok := (shown_inv (l.take k) [] (by simp)).1
theorem shownTo_len (l : List Note) (k : Nat) : (shownTo l k).length ≤ k := by
  have := (shown_inv (l.take k) [] (by simp)).2
  have h2 := List.length_take_le k l
  simp at this
  unfold shownTo
  omega

structure ShSt where
  k : Nat
  B : Option Addr
  d : Nat

theorem Shown_ok (S : SP) (A : Option Addr) (c : Nat) (l : List Note) (ring : Int) (hl : l.length ≤ 2199023255488) (hs : Sees S A l.length 8 (notes l)) :
    FnOk Try.prog 12 [.slice A l.length c, .int .i64 ring] [S] (fun v Q => ∃ A' c', v = .slice A' (shown l ring).length c' ∧ Q = [S, ownS 29 A' (shown l ring).length c' 2 (spans (shown l ring))]) := by
  refine FnOk.start Try.func12 rfl rfl rfl rfl fun F os tape output => ?_
  refine go 200 ?_
  conv => whnf
  intro b10
  refine go 200 ?_
  conv => whnf
  refine Nx.out 10 rfl rfl rfl rfl ?_
  refine Nx.call [0,10] [0,10,1] rfl rfl rfl rfl rfl (At_ok S _ _ _ _ _ l [1] ring hl (by simp) hs (blk_sees b10 1 1 32 [.int .i64 1] rfl)) rfl fun v Q hQ => ?_
  obtain ⟨A1, c1, rfl, rfl⟩ := hQ
  have hm := List.length_filter_le (atP ring [1]) l
  unfold shown
  generalize hmm : l.filter (atP ring [1]) = m at hm
  refine Nx.give 2 (ownS 29 none 0 0 2 []) (own_nil _ _ _ _) ?_
  refine go 200 ?_
  conv => whnf
  refine Nx.loop (X := ShSt) (fun x => x.k ≤ m.length) (fun x => m.length - x.k)
    (fun x => [(5, sl x.B (shownTo m x.k).length x.d), (11, sl A1 m.length c1), (12, iv m.length), (13, iv x.k)]) (fun _ => []) [] (fun x => [(0, S), (1, ownS 37 A1 m.length c1 8 (notes m)), (2, ownS 29 x.B (shownTo m x.k).length x.d 2 (spans (shownTo m x.k)))])
    ⟨0, none, 0⟩ (Nat.zero_le _) ?_ ?_ ?_ ?_ ?_
  · repeat (first | exact subE.nil _ | refine subE.cons rfl rfl ?_ | refine subE.cons' rfl (fun _ => rfl) ?_)
  · repeat (first | exact subM.nil _ | refine subM.cons rfl rfl rfl ?_)
  · repeat (first | exact subB.nil _ | refine subB.cons rfl ?_)
  · repeat (first | exact subR.nil _ | refine subR.cons rfl rfl ?_)
  intro x hk ih
  have hsl := shownTo_len m x.k
  refine go 200 ?_
  conv => whnf
  refine BrM.dec (fun h1 => ?_) (fun h1 => ?_)
  · have hlt : x.k < m.length := by omega
    have hsu := shownTo_succ hlt
    refine go 200 ?_
    conv => whnf
    refine Nx.idx 1 rfl rfl rfl Try.underlying22 rfl rfl rfl Note.enc_len (ownS_sees 37 A1 m.length c1 8 (notes m)) rfl rfl hlt fun b p hq => ?_
    refine go 200 ?_
    conv => whnf
    refine Nx.load 1 rfl rfl rfl rfl hq rfl rfl ?_
    refine go 200 ?_
    conv => whnf
    refine Nx.call [] [] rfl rfl rfl rfl rfl (right_ok m[x.k]) rfl fun v Q hQ => ?_
    obtain ⟨rfl, rfl⟩ := hQ
    refine go 200 ?_
    conv => whnf
    refine BrM.mk (fun h2 => ?_) (fun h2 => ?_)
    · refine go 200 ?_
      conv => whnf
      rw [shownStep, if_pos h2] at hsu
      refine Nx.call [2] [3,2] rfl rfl rfl rfl rfl (join_ok _ _ _ (shownTo m x.k) ⟨m[x.k].lo, m[x.k].seq⟩ (by omega) (shownTo_ok _ _) (right_span h2) (ownS_sees 29 x.B (shownTo m x.k).length x.d 2 (spans (shownTo m x.k)))) rfl fun v Q hQ => ?_
      obtain ⟨A', c'', rfl, rfl⟩ := hQ
      refine go 200 ?_
      conv => whnf
      refine Ar.i64 (by omega) (by omega) ?_
      refine go 200 ?_
      conv => whnf
      refine (ih ⟨x.k + 1, A', c''⟩ (by show x.k + 1 ≤ _; omega) (by show m.length - (x.k + 1) < _; omega)).weak ?_ ?_ ?_ ?_
      · exact .cons rfl (by rw [hsu]; rfl) (.cons rfl rfl (.cons rfl rfl (.cons rfl (by simp) (.nil _))))
      · repeat (first | exact subM.nil _ | refine subM.cons rfl rfl rfl ?_)
      · repeat (first | exact subB.nil _ | refine subB.cons rfl ?_)
      · exact .cons rfl rfl (.cons rfl rfl (.cons rfl (by rw [hsu]) (.nil _)))
    · refine go 200 ?_
      conv => whnf
      rw [shownStep, if_neg (by rw [h2]; simp)] at hsu
      refine Ar.i64 (by omega) (by omega) ?_
      refine go 200 ?_
      conv => whnf
      refine (ih ⟨x.k + 1, x.B, x.d⟩ (by show x.k + 1 ≤ _; omega) (by show m.length - (x.k + 1) < _; omega)).weak ?_ ?_ ?_ ?_
      · exact .cons rfl (by rw [hsu]) (.cons rfl rfl (.cons rfl rfl (.cons rfl (by simp) (.nil _))))
      · repeat (first | exact subM.nil _ | refine subM.cons rfl rfl rfl ?_)
      · repeat (first | exact subB.nil _ | refine subB.cons rfl ?_)
      · exact .cons rfl rfl (.cons rfl rfl (.cons rfl (by rw [hsu]) (.nil _)))
  · refine go 200 ?_
    conv => whnf
    refine Nx.ret [0, 2] Try.func12 rfl rfl ?_
    have hx : x.k = m.length := by omega
    have e : shownTo m x.k = m.foldl shownStep [] := by rw [hx]; simp [shownTo]
    rw [e]
    exact ⟨_, _, rfl, rfl⟩
end Go.Proofs.Ytnnhgopibbdlkaa
