/- TraceOnce: its walk and its law. -/
import Derived.Test.YtnnhgopibbdlkaaTrL
namespace Go.Proofs.Ytnnhgopibbdlkaa
open Go.RowKit
attribute [local irreducible] Nx Ar

theorem own_cap {e : TypeId} {A : Option Addr} {n c sz : Nat} {cells : List Value} (r h : PH) (hs : ownS e A n c sz cells r h) : n ≤ c := by
  rcases hs.2 with ⟨_, h0, h1⟩ | ⟨b, cur, h1, h2, h3, h4, h5, h6⟩
  · omega
  · exact h3
theorem han_all (l : List Note) (ring deed : Int) : l.filter (hanP (-1) ring deed) = l.filter (atP ring [deed]) := by
  apply List.filter_congr
  intro n _
  simp [hanP, atP]

structure Tw where
  k : Nat
  o : Bool
structure TwI (ws : List Int) (m : List Note) (x : Tw) : Prop where
  k : x.k ≤ m.length
  o : x.o = decide (seqsTo ws m x.k).Nodup
structure Tw2I (ws : List Int) (m : List Note) (i : Nat) (n : Note) (x : Tw) : Prop where
  k : x.k ≤ i
  o : x.o = (decide (seqsTo ws m i).Nodup && !decide (n.who ∈ ws ∧ n.seq ∈ seqsTo ws m x.k))

theorem TraceOnce_ok (S T : SP) (A D : Option Addr) (c d : Nat) (l : List Note) (ws : List Int) (ring : Int) (hs : Sees S A l.length 8 (notes l)) (ht : Sees T D ws.length 1 (ints ws)) :
    FnOk Try.prog 6 [.slice A l.length c, .int .i64 ring, .slice D ws.length d] [S, T] (fun v Q => v = .bool true ∧ Q = [S, T]) := by
  refine FnOk.start Try.func6 rfl rfl rfl rfl fun F os tape output => ?_
  refine go 200 ?_
  conv => whnf
  refine Nx.call [0] [0] rfl rfl rfl rfl rfl (small_ok S A c l.length) rfl fun v Q hQ => ?_
  obtain ⟨rfl, rfl⟩ := hQ
  by_cases h0 : l.length ≤ 120
  · have hl : l.length ≤ 1000000 := by omega
    rw [decide_eq_true h0]
    refine go 200 ?_
    conv => whnf
    refine go 200 ?_
    conv => whnf
    refine BrM.dec (fun h1 => ?_) (fun h1 => ?_)
    · refine go 200 ?_
      conv => whnf
      refine Nx.call [] [] rfl rfl rfl rfl rfl (awake_ok) rfl fun v Q hQ => ?_
      obtain ⟨rfl, rfl⟩ := hQ
      refine go 200 ?_
      conv => whnf
      refine Nx.ret [0, 1] Try.func6 rfl rfl ?_
      exact ⟨rfl, rfl⟩
    · have hw : ws.length ≤ 1000000 := by omega
      refine go 200 ?_
      conv => whnf
      refine Nx.call [0] [0,2] rfl rfl rfl rfl rfl (Handled_ok S _ _ l (-1) ring 2 hl hs) rfl fun v Q hQ => ?_
      simp only [han_all] at hQ
      obtain ⟨m, hm⟩ : ∃ m, m = l.filter (atP ring [2]) := ⟨_, rfl⟩
      have hml : m.length ≤ l.length := by rw [hm]; exact List.length_filter_le _ _
      simp only [← hm] at hQ
      obtain ⟨A1, c1, rfl, rfl⟩ := hQ
      refine go 200 ?_
      conv => whnf
      refine Nx.fact 2 rfl own_cap fun hcap => ?_
      refine Nx.loop (TwI ws m) (fun x => m.length - x.k)
        (fun x => [(0, sl A l.length c), (1, iv ring), (2, sl D ws.length d), (7, sl A1 m.length c1), (8, bv x.o), (25, sl A1 m.length c1), (26, iv m.length), (27, iv x.k)]) (fun _ => []) [] (fun _ => [(0, S), (1, T), (2, ownS 37 A1 m.length c1 8 (notes m))])
        ⟨0, true⟩ ⟨Nat.zero_le _, rfl⟩ ?_ ?_ ?_ ?_ ?_
      · repeat (first | exact subE.nil _ | refine subE.cons rfl rfl ?_ | refine subE.cons' rfl (fun _ => rfl) ?_)
      · repeat (first | exact subM.nil _ | refine subM.cons rfl rfl rfl ?_)
      · repeat (first | exact subB.nil _ | refine subB.cons rfl ?_)
      · repeat (first | exact subR.nil _ | refine subR.cons rfl rfl ?_)
      intro x hI ih
      have hk := hI.k
      refine go 200 ?_
      conv => whnf
      refine BrM.dec (fun hb => ?_) (fun hb => ?_)
      · have hlt : x.k < m.length := by omega
        refine go 200 ?_
        conv => whnf
        refine Nx.idx 2 rfl rfl rfl Try.underlying22 rfl rfl rfl Note.enc_len (ownS_sees 37 A1 m.length c1 8 (notes m)) rfl rfl hlt fun b p hq => ?_
        refine go 200 ?_
        conv => whnf
        refine Nx.load 2 rfl rfl rfl rfl hq rfl rfl ?_
        refine go 200 ?_
        conv => whnf
        refine Nx.reslice (l := 0) (h := x.k) (m := c1) rfl rfl Try.underlying22 rfl rfl rfl rfl rfl (fun h => by cases h) (Nat.zero_le _) (by omega) (Nat.le_refl _) ?_
        refine go 200 ?_
        conv => whnf
        have hsee := Sees.cutOf (l := 0) (h := x.k) (m := c1) Note.enc_len (ownS_sees 37 A1 m.length c1 8 (notes m)) (Nat.zero_le _) hk (by omega)
        rw [List.drop_zero, Nat.sub_zero] at hsee
        have hz : (x.k : Nat) - 0 = x.k := rfl
        rw [hz]
        have htl : (m.take x.k).length = x.k := by simp; omega
        refine Nx.loop (Tw2I ws m x.k m[x.k]) (fun y => x.k - y.k)
          (fun y => [(0, sl A l.length c), (1, iv ring), (2, sl D ws.length d), (7, sl A1 m.length c1), (8, bv y.o), (10, .c (.loc 10 0)), (25, sl A1 m.length c1), (26, iv m.length), (27, iv x.k), (34, sl (resl A1 0 c1 8) x.k (c1 - 0)), (35, iv x.k), (36, iv y.k)]) (fun _ => [(10, 37, m[x.k].enc.map .v)]) [] (fun _ => [(0, S), (1, T), (2, ownS 37 A1 m.length c1 8 (notes m))])
          ⟨0, x.o⟩ ⟨Nat.zero_le _, by simp [hI.o, seqsTo, seqs]⟩ ?_ ?_ ?_ ?_ ?_
        · repeat (first | exact subE.nil _ | refine subE.cons rfl rfl ?_ | refine subE.cons' rfl (fun _ => rfl) ?_)
        · repeat (first | exact subM.nil _ | refine subM.cons rfl rfl rfl ?_)
        · repeat (first | exact subB.nil _ | refine subB.cons rfl ?_)
        · repeat (first | exact subR.nil _ | refine subR.cons rfl rfl ?_)
        intro y hJ ih2
        have hk2 := hJ.k
        have ho := hJ.o
        refine go 200 ?_
        conv => whnf
        refine BrM.dec (fun hb2 => ?_) (fun hb2 => ?_)
        · have hlt2 : y.k < (m.take x.k).length := by omega
          have hlt3 : y.k < m.length := by omega
          have hget : (m.take x.k)[y.k] = m[y.k] := List.getElem_take
          refine go 200 ?_
          conv => whnf
          refine Nx.idx 2 rfl rfl rfl Try.underlying22 rfl rfl rfl Note.enc_len hsee htl.symm rfl hlt2 fun b p hq2 => ?_
          rw [hget] at hq2
          refine go 200 ?_
          conv => whnf
          refine Nx.load 2 rfl rfl rfl rfl hq2 rfl rfl ?_
          refine go 200 ?_
          conv => whnf
          have no : ¬ (m[x.k].seq = m[y.k].seq ∧ m[x.k].who ∈ ws ∧ m[y.k].who ∈ ws) → (y.o = (decide (seqsTo ws m x.k).Nodup && !decide (m[x.k].who ∈ ws ∧ m[x.k].seq ∈ seqsTo ws m (y.k + 1)))) := by
            intro hno
            rw [ho]
            congr 2
            rw [decide_eq_decide]
            by_cases h9 : m[y.k].who ∈ ws
            · rw [seqsTo_yes hlt3 h9]
              constructor
              · intro ⟨h1, h2⟩
                exact ⟨h1, List.mem_append_left _ h2⟩
              · intro ⟨h1, h2⟩
                rcases List.mem_append.1 h2 with h2 | h2
                · exact ⟨h1, h2⟩
                · exact absurd ⟨List.mem_singleton.1 h2, h1, h9⟩ hno
            · rw [seqsTo_no hlt3 h9]
          refine BrM.dec (fun h3 => ?_) (fun h3 => ?_)
          · refine go 200 ?_
            conv => whnf
            refine Nx.call [1] [1] rfl rfl rfl rfl rfl (in_ok T _ _ ws m[x.k].who hw ht) rfl fun v Q hQ => ?_
            obtain ⟨rfl, rfl⟩ := hQ
            refine go 200 ?_
            conv => whnf
            refine BrM.dec (fun h4 => ?_) (fun h4 => ?_)
            · refine go 200 ?_
              conv => whnf
              refine Nx.call [1] [1] rfl rfl rfl rfl rfl (in_ok T _ _ ws m[y.k].who hw ht) rfl fun v Q hQ => ?_
              obtain ⟨rfl, rfl⟩ := hQ
              refine go 200 ?_
              conv => whnf
              refine BrM.dec (fun h5 => ?_) (fun h5 => ?_)
              · refine go 200 ?_
                conv => whnf
                refine Ar.i64 (by omega) (by omega) ?_
                refine go 200 ?_
                conv => whnf
                refine (ih2 ⟨y.k + 1, false⟩ ⟨by show y.k + 1 ≤ _; omega, ?_⟩ (by show x.k - (y.k + 1) < _; omega)).weak ?_ ?_ ?_ ?_
                · show false = (_ && !decide (_ ∧ _ ∈ seqsTo ws m (y.k + 1)))
                  have hin : m[x.k].seq ∈ seqsTo ws m (y.k + 1) := by rw [seqsTo_yes hlt3 h5, h3]; simp
                  rw [decide_eq_true (p := _ ∧ _) ⟨h4, hin⟩]
                  simp
                · repeat (first | exact subE.nil _ | refine subE.cons rfl rfl ?_ | refine subE.cons' rfl (fun _ => rfl) ?_)
                · repeat (first | exact subM.nil _ | refine subM.cons rfl rfl rfl ?_)
                · repeat (first | exact subB.nil _ | refine subB.cons rfl ?_)
                · repeat (first | exact subR.nil _ | refine subR.cons rfl rfl ?_)
              · refine go 200 ?_
                conv => whnf
                refine Ar.i64 (by omega) (by omega) ?_
                refine go 200 ?_
                conv => whnf
                refine (ih2 ⟨y.k + 1, y.o⟩ ⟨by show y.k + 1 ≤ _; omega, no (fun h => h5 h.2.2)⟩ (by show x.k - (y.k + 1) < _; omega)).weak ?_ ?_ ?_ ?_
                · repeat (first | exact subE.nil _ | refine subE.cons rfl rfl ?_ | refine subE.cons' rfl (fun _ => rfl) ?_)
                · repeat (first | exact subM.nil _ | refine subM.cons rfl rfl rfl ?_)
                · repeat (first | exact subB.nil _ | refine subB.cons rfl ?_)
                · repeat (first | exact subR.nil _ | refine subR.cons rfl rfl ?_)
            · refine go 200 ?_
              conv => whnf
              refine Ar.i64 (by omega) (by omega) ?_
              refine go 200 ?_
              conv => whnf
              refine (ih2 ⟨y.k + 1, y.o⟩ ⟨by show y.k + 1 ≤ _; omega, no (fun h => h4 h.2.1)⟩ (by show x.k - (y.k + 1) < _; omega)).weak ?_ ?_ ?_ ?_
              · repeat (first | exact subE.nil _ | refine subE.cons rfl rfl ?_ | refine subE.cons' rfl (fun _ => rfl) ?_)
              · repeat (first | exact subM.nil _ | refine subM.cons rfl rfl rfl ?_)
              · repeat (first | exact subB.nil _ | refine subB.cons rfl ?_)
              · repeat (first | exact subR.nil _ | refine subR.cons rfl rfl ?_)
          · refine go 200 ?_
            conv => whnf
            refine Ar.i64 (by omega) (by omega) ?_
            refine go 200 ?_
            conv => whnf
            refine (ih2 ⟨y.k + 1, y.o⟩ ⟨by show y.k + 1 ≤ _; omega, no (fun h => h3 h.1)⟩ (by show x.k - (y.k + 1) < _; omega)).weak ?_ ?_ ?_ ?_
            · repeat (first | exact subE.nil _ | refine subE.cons rfl rfl ?_ | refine subE.cons' rfl (fun _ => rfl) ?_)
            · repeat (first | exact subM.nil _ | refine subM.cons rfl rfl rfl ?_)
            · repeat (first | exact subB.nil _ | refine subB.cons rfl ?_)
            · repeat (first | exact subR.nil _ | refine subR.cons rfl rfl ?_)
        · have hy : y.k = x.k := by omega
          have key : y.o = decide (seqsTo ws m (x.k + 1)).Nodup := by
            rw [ho, hy]
            by_cases h9 : m[x.k].who ∈ ws
            · rw [seqsTo_yes hlt h9, Bool.eq_iff_iff]
              simp only [Bool.and_eq_true, decide_eq_true_eq, Bool.not_eq_true', decide_eq_false_iff_not]
              rw [nodup_snoc]
              constructor
              · intro ⟨h1, h2⟩
                exact ⟨h1, fun h => h2 ⟨h9, h⟩⟩
              · intro ⟨h1, h2⟩
                exact ⟨h1, fun h => h2 h.2⟩
            · rw [seqsTo_no hlt h9, Bool.eq_iff_iff]
              simp [h9]
          refine go 200 ?_
          conv => whnf
          refine Ar.i64 (by omega) (by omega) ?_
          refine go 200 ?_
          conv => whnf
          refine (ih ⟨x.k + 1, y.o⟩ ⟨by show x.k + 1 ≤ _; omega, key⟩ (by show m.length - (x.k + 1) < _; omega)).weak ?_ ?_ ?_ ?_
          · repeat (first | exact subE.nil _ | refine subE.cons rfl rfl ?_ | refine subE.cons' rfl (fun _ => rfl) ?_)
          · repeat (first | exact subM.nil _ | refine subM.cons rfl rfl rfl ?_)
          · repeat (first | exact subB.nil _ | refine subB.cons rfl ?_)
          · repeat (first | exact subR.nil _ | refine subR.cons rfl rfl ?_)
      · have hx : x.k = m.length := by omega
        have ho := hI.o
        rw [hx, seqsTo, List.take_length] at ho
        refine go 200 ?_
        conv => whnf
        refine Nx.call [] [] rfl rfl rfl rfl rfl (awake_ok) rfl fun v Q hQ => ?_
        obtain ⟨rfl, rfl⟩ := hQ
        refine go 200 ?_
        conv => whnf
        refine go 200 ?_
        conv => whnf
        refine Nx.call [0,1] [0,1] rfl rfl rfl rfl rfl (Once_ok S T _ _ _ _ l ws ring hl hw hs ht) rfl fun v Q hQ => ?_
        rw [← hm, ← ho] at hQ
        obtain ⟨rfl, rfl⟩ := hQ
        refine go 200 ?_
        conv => whnf
        refine Nx.ret [0, 1] Try.func6 rfl rfl ?_
        exact ⟨by simp [oneV], rfl⟩
  · rw [decide_eq_false h0]
    refine go 200 ?_
    conv => whnf
    refine go 200 ?_
    conv => whnf
    refine Nx.call [] [] rfl rfl rfl rfl rfl (awake_ok) rfl fun v Q hQ => ?_
    obtain ⟨rfl, rfl⟩ := hQ
    refine go 200 ?_
    conv => whnf
    refine Nx.ret [0, 1] Try.func6 rfl rfl ?_
    exact ⟨rfl, rfl⟩
end Go.Proofs.Ytnnhgopibbdlkaa
