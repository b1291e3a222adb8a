/- Once and TraceOnce. -/
import Derived.Test.YtnnhgopibbdlkaaTrJ
import Derived.Test.YtnnhgopibbdlkaaSxl
namespace Go.Proofs.Ytnnhgopibbdlkaa
open Go.RowKit
attribute [local irreducible] Nx Ar

def inP (ws : List Int) (n : Note) : Bool := decide (n.who ∈ ws)
abbrev seqs (ws : List Int) (m : List Note) : List Int := (m.filter (inP ws)).map Note.seq
abbrev seqsTo (ws : List Int) (m : List Note) (k : Nat) : List Int := seqs ws (m.take k)
theorem seqsTo_yes {ws : List Int} {m : List Note} {k : Nat} (hk : k < m.length) (h : m[k].who ∈ ws) : seqsTo ws m (k + 1) = seqsTo ws m k ++ [m[k].seq] := by
  unfold seqsTo seqs; rw [List.take_succ_eq_append_getElem hk, List.filter_append, List.map_append]; simp only [List.filter_cons, inP, h, decide_true, if_true, List.filter_nil, List.map_cons, List.map_nil]
theorem seqsTo_no {ws : List Int} {m : List Note} {k : Nat} (hk : k < m.length) (h : ¬ m[k].who ∈ ws) : seqsTo ws m (k + 1) = seqsTo ws m k := by
  unfold seqsTo seqs; rw [List.take_succ_eq_append_getElem hk, List.filter_append, List.map_append]; simp only [List.filter_cons, inP, h, decide_false, Bool.false_eq_true, if_false, List.filter_nil, List.map_nil, List.append_nil]
theorem seqsTo_pre (ws : List Int) (m : List Note) (k : Nat) (h : (seqs ws m).Nodup) : (seqsTo ws m k).Nodup :=
  List.Nodup.sublist (((List.take_sublist k m).filter _).map _) h
theorem nodup_snoc (s : List Int) (q : Int) : (s ++ [q]).Nodup ↔ s.Nodup ∧ q ∉ s := by
  rw [List.nodup_append]
  constructor
  · intro ⟨h1, _, h3⟩
    exact ⟨h1, fun h => h3 q h q (by simp) rfl⟩
  · intro ⟨h1, h2⟩
    exact ⟨h1, by simp, fun a ha b hb => by rw [List.mem_singleton.1 hb]; intro e; subst e; exact h2 ha⟩

structure OnSt where
  k : Nat
  f : List (Int × Value)
structure OnI (ws : List Int) (m : List Note) (x : OnSt) : Prop where
  k : x.k ≤ m.length
  nd : (seqsTo ws m x.k).Nodup
  f : ∀ q, mget x.f q = if q ∈ seqsTo ws m x.k then some (.int .i64 1) else none

theorem Once_ok (S T : SP) (A D : Option Addr) (c d : Nat) (l : List Note) (ws : List Int) (ring : Int) (hl : l.length ≤ 1000000) (hw : ws.length ≤ 1000000) (hs : Sees S A l.length 8 (notes l)) (ht : Sees T D ws.length 1 (ints ws)) :
    FnOk Try.prog 22 [.slice A l.length c, .int .i64 ring, .slice D ws.length d] [S, T] (fun v Q => v = .bool (decide ((seqs ws (l.filter (atP ring [2]))).Nodup)) ∧ Q = [S, T]) := by
  refine FnOk.start Try.func22 rfl rfl rfl rfl fun F os tape output => ?_
  refine go 200 ?_
  conv => whnf
  refine Nx.makeMap 5 .i64 rfl rfl fun b => ?_
  refine go 200 ?_
  conv => whnf
  intro b13
  refine go 200 ?_
  conv => whnf
  refine Nx.out 13 rfl rfl rfl rfl ?_
  refine Nx.call [0,13] [0,13,2] rfl rfl rfl rfl rfl (At_ok S _ _ _ _ _ l [2] ring hl (by simp) hs (blk_sees b13 1 1 32 [.int .i64 2] rfl)) rfl fun v Q hQ => ?_
  obtain ⟨A1, c1, rfl, rfl⟩ := hQ
  have hm := List.length_filter_le (atP ring [2]) l
  generalize l.filter (atP ring [2]) = m at hm
  refine go 200 ?_
  conv => whnf
  refine Nx.loop (OnI ws m) (fun x => m.length - x.k)
    (fun x => [(2, sl D ws.length d), (7, .c (.v (.map (some b)))), (14, sl A1 m.length c1), (15, iv m.length), (16, iv x.k)]) (fun _ => []) [] (fun x => [(0, S), (1, T), (2, ownS 37 A1 m.length c1 8 (notes m)), (5, ownM .i64 b x.f)])
    ⟨0, []⟩ ⟨Nat.zero_le _, List.nodup_nil, fun q => rfl⟩ ?_ ?_ ?_ ?_ ?_
  · repeat (first | exact subE.nil _ | refine subE.cons rfl rfl ?_ | refine subE.cons' rfl (fun _ => rfl) ?_)
  · repeat (first | exact subM.nil _ | refine subM.cons rfl rfl rfl ?_)
  · repeat (first | exact subB.nil _ | refine subB.cons rfl ?_)
  · repeat (first | exact subR.nil _ | refine subR.cons rfl rfl ?_)
  intro x hI ih
  have hk := hI.k
  refine go 200 ?_
  conv => whnf
  refine BrM.dec (fun h1 => ?_) (fun h1 => ?_)
  · have hlt : x.k < m.length := by omega
    refine go 200 ?_
    conv => whnf
    refine Nx.idx 2 rfl rfl rfl Try.underlying22 rfl rfl rfl Note.enc_len (ownS_sees 37 A1 m.length c1 8 (notes m)) rfl rfl hlt fun b p hq => ?_
    refine go 200 ?_
    conv => whnf
    refine Nx.load 2 rfl rfl rfl rfl hq rfl rfl ?_
    refine go 200 ?_
    conv => whnf
    refine Nx.call [1] [1] rfl rfl rfl rfl rfl (Contains_ok T _ _ ws m[x.k].who hw ht) rfl fun v Q hQ => ?_
    obtain ⟨rfl, rfl⟩ := hQ
    refine go 200 ?_
    conv => whnf
    refine BrM.dec (fun h2 => ?_) (fun h2 => ?_)
    · have hsu := seqsTo_yes hlt h2
      refine go 200 ?_
      conv => whnf
      by_cases h3 : m[x.k].seq ∈ seqsTo ws m x.k
      · refine Nx.lookup 5 (v := .int .i64 1) rfl rfl rfl Try.underlying64 Try.underlying2 rfl rfl rfl (by rw [hI.f, if_pos h3]; rfl) ?_
        refine go 200 ?_
        conv => whnf
        refine Ar.i64 (by omega) (by omega) ?_
        refine go 200 ?_
        conv => whnf
        refine Nx.mapPut 5 rfl rfl rfl rfl Try.underlying64 Try.underlying2 rfl rfl ?_
        refine go 200 ?_
        conv => whnf
        refine Nx.lookup 5 (v := .int .i64 2) rfl rfl rfl Try.underlying64 Try.underlying2 rfl rfl rfl (by rw [mget_mput, if_pos rfl]; rfl) ?_
        refine go 200 ?_
        conv => whnf
        refine go 200 ?_
        conv => whnf
        refine Nx.ret [0, 1] Try.func22 rfl rfl ?_
        have hn : ¬ (seqs ws m).Nodup := fun h => by
          have := seqsTo_pre ws m (x.k + 1) h
          rw [hsu, nodup_snoc] at this
          exact this.2 h3
        exact ⟨by rw [decide_eq_false hn]; rfl, rfl⟩
      · refine Nx.lookup 5 (v := .int .i64 0) rfl rfl rfl Try.underlying64 Try.underlying2 rfl rfl rfl (by rw [hI.f, if_neg h3]; rfl) ?_
        refine go 200 ?_
        conv => whnf
        refine Ar.i64 (by omega) (by omega) ?_
        refine go 200 ?_
        conv => whnf
        refine Nx.mapPut 5 rfl rfl rfl rfl Try.underlying64 Try.underlying2 rfl rfl ?_
        refine go 200 ?_
        conv => whnf
        refine Nx.lookup 5 (v := .int .i64 1) rfl rfl rfl Try.underlying64 Try.underlying2 rfl rfl rfl (by rw [mget_mput, if_pos rfl]; rfl) ?_
        refine go 200 ?_
        conv => whnf
        refine go 200 ?_
        conv => whnf
        refine Ar.i64 (by omega) (by omega) ?_
        refine go 200 ?_
        conv => whnf
        refine (ih ⟨x.k + 1, mput x.f m[x.k].seq (.int .i64 1)⟩ ⟨by show x.k + 1 ≤ _; omega, by show (seqsTo ws m (x.k + 1)).Nodup; rw [hsu, nodup_snoc]; exact ⟨hI.nd, h3⟩, fun q => ?_⟩ (by show m.length - (x.k + 1) < _; omega)).weak ?_ ?_ ?_ ?_
        · show mget (mput x.f _ _) q = if q ∈ seqsTo ws m (x.k + 1) then _ else _
          rw [mget_mput, hI.f, hsu]
          by_cases h4 : q = m[x.k].seq
          · rw [if_pos h4, if_pos (by rw [h4]; simp)]
          · rw [if_neg h4]
            by_cases h5 : q ∈ seqsTo ws m x.k
            · rw [if_pos h5, if_pos (List.mem_append_left _ h5)]
            · rw [if_neg h5, if_neg (fun h => by rcases List.mem_append.1 h with h | h; exact h5 h; exact h4 (List.mem_singleton.1 h))]
        · exact .cons rfl rfl (.cons rfl rfl (.cons rfl rfl (.cons rfl rfl (.cons rfl (by simp) (.nil _)))))
        · repeat (first | exact subM.nil _ | refine subM.cons rfl rfl rfl ?_)
        · repeat (first | exact subB.nil _ | refine subB.cons rfl ?_)
        · repeat (first | exact subR.nil _ | refine subR.cons rfl rfl ?_)
    · have hsu := seqsTo_no hlt h2
      refine go 200 ?_
      conv => whnf
      refine Ar.i64 (by omega) (by omega) ?_
      refine go 200 ?_
      conv => whnf
      refine (ih ⟨x.k + 1, x.f⟩ ⟨by show x.k + 1 ≤ _; omega, by show (seqsTo ws m (x.k + 1)).Nodup; rw [hsu]; exact hI.nd, by show ∀ q, mget x.f q = if q ∈ seqsTo ws m (x.k + 1) then _ else _; rw [hsu]; exact hI.f⟩ (by show m.length - (x.k + 1) < _; omega)).weak ?_ ?_ ?_ ?_
      · exact .cons rfl rfl (.cons rfl rfl (.cons rfl rfl (.cons rfl rfl (.cons rfl (by simp) (.nil _)))))
      · repeat (first | exact subM.nil _ | refine subM.cons rfl rfl rfl ?_)
      · repeat (first | exact subB.nil _ | refine subB.cons rfl ?_)
      · repeat (first | exact subR.nil _ | refine subR.cons rfl rfl ?_)
  · refine go 200 ?_
    conv => whnf
    refine Nx.ret [0, 1] Try.func22 rfl rfl ?_
    have hx : x.k = m.length := by omega
    have hn := hI.nd
    rw [hx, seqsTo, List.take_length] at hn
    exact ⟨by rw [decide_eq_true hn]; rfl, rfl⟩
end Go.Proofs.Ytnnhgopibbdlkaa
