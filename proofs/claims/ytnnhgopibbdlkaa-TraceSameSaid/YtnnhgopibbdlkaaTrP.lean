/- Same. -/
import Derived.Test.YtnnhgopibbdlkaaTrJ
import Derived.Test.YtnnhgopibbdlkaaSxm
namespace Go.Proofs.Ytnnhgopibbdlkaa
open Go.RowKit
attribute [local irreducible] Nx Ar

abbrev ofW (w : Int) (l : List Note) : List Note := l.filter fun n => decide (n.who = w)
abbrev sameL (l m : List Note) : Prop := l.length = m.length ∧ ∀ n ∈ l, ofW n.who l = ofW n.who m

theorem Same_ok (S T : SP) (A D : Option Addr) (c d : Nat) (l m : List Note) (hl : l.length ≤ 2199023255488) (hs : Sees S A l.length 8 (notes l)) (ht : Sees T D m.length 8 (notes m)) :
    FnOk Try.prog 25 [.slice A l.length c, .slice D m.length d] [S, T] (fun v Q => v = .bool (decide (sameL l m)) ∧ Q = [S, T]) := by
  refine FnOk.start Try.func25 rfl rfl rfl rfl fun F os tape output => ?_
  refine go 200 ?_
  conv => whnf
  refine BrM.dec (fun h0 => ?_) (fun h0 => ?_)
  · refine go 200 ?_
    conv => whnf
    refine Nx.ret [0, 1] Try.func25 rfl rfl ?_
    have hne : ¬ sameL l m := fun h => h0 (by rw [h.1])
    exact ⟨by rw [decide_eq_false hne]; rfl, rfl⟩
  · have hlen : l.length = m.length := by omega
    refine go 200 ?_
    conv => whnf
    refine Nx.loop (X := BhSt) (fun x => x.k ≤ l.length ∧ ∀ n ∈ l.take x.k, ofW n.who l = ofW n.who m) (fun x => l.length - x.k)
      (fun x => [(0, sl A l.length c), (1, sl D m.length d), (12, sl A l.length c), (13, iv l.length), (14, iv x.k)]) (fun _ => []) [] (fun _ => [(0, S), (1, T)])
      ⟨0⟩ ⟨Nat.zero_le _, by simp⟩ ?_ ?_ ?_ ?_ ?_
    · repeat (first | exact subE.nil _ | refine subE.cons rfl rfl ?_ | refine subE.cons' rfl (fun _ => rfl) ?_)
    · repeat (first | exact subM.nil _ | refine subM.cons rfl rfl rfl ?_)
    · repeat (first | exact subB.nil _ | refine subB.cons rfl ?_)
    · repeat (first | exact subR.nil _ | refine subR.cons rfl rfl ?_)
    intro x ⟨hk, he⟩ ih
    refine go 200 ?_
    conv => whnf
    refine BrM.dec (fun h1 => ?_) (fun h1 => ?_)
    · have hlt : x.k < l.length := by omega
      refine go 200 ?_
      conv => whnf
      refine Nx.idx 0 rfl rfl rfl Try.underlying22 rfl rfl rfl Note.enc_len hs rfl rfl hlt fun b p hq => ?_
      refine go 200 ?_
      conv => whnf
      refine Nx.load 0 rfl rfl rfl rfl hq rfl rfl ?_
      refine go 4 ?_
      conv => whnf
      refine Nx.bind (l := 6) (fun b6 => ?_) rfl
      refine go 200 ?_
      conv => whnf
      refine Nx.drawn0 [] [.pure 0, .pure 1, .held 2, .pure 4, .pure 5, .held 6, .ex 3 true, .ex 7 true, .ex 8 true, .pure 9] rfl (by kernel_rfl) rfl (by kernel_rfl) rfl ?_ rfl ?_
      · repeat (first | exact subB.nil _ | refine subB.cons rfl ?_)
      refine Nx.runP (n := 200) rfl ?_ ?_
      · repeat (first | exact subB.nil _ | refine subB.cons rfl ?_)
      conv => whnf
      refine Nx.call [0] [0,2] rfl rfl rfl rfl rfl (Of_ok S _ _ l l[x.k].who hl hs) rfl fun v Q hQ => ?_
      obtain ⟨A2, c2, rfl, rfl⟩ := hQ
      refine Nx.keepN [] rfl ?_ ?_ rfl ?_
      · repeat (first | exact subB.nil _ | refine subB.cons rfl ?_)
      · repeat (first | exact subM.nil _ | refine subM.cons rfl rfl rfl ?_)
      refine Nx.runP (n := 200) rfl ?_ ?_
      · repeat (first | exact subB.nil _ | refine subB.cons rfl ?_)
      conv => whnf
      refine Nx.call [1] [1,3] rfl rfl rfl rfl rfl (Of_ok T _ _ m l[x.k].who (by omega) ht) rfl fun v Q hQ => ?_
      obtain ⟨A3, c3, rfl, rfl⟩ := hQ
      refine Nx.keepN [] rfl ?_ ?_ rfl ?_
      · repeat (first | exact subB.nil _ | refine subB.cons rfl ?_)
      · repeat (first | exact subM.nil _ | refine subM.cons rfl rfl rfl ?_)
      refine Nx.runP (n := 200) rfl ?_ ?_
      · repeat (first | exact subB.nil _ | refine subB.cons rfl ?_)
      conv => whnf
      have hf1 := List.length_filter_le (fun n : Note => decide (n.who = l[x.k].who)) l
      refine Nx.call [2,3] [2,3] rfl rfl rfl rfl rfl (Equal_ok _ _ _ _ _ _ (ofW l[x.k].who l) (ofW l[x.k].who m) (Nat.le_trans hf1 hl) (ownS_sees 37 A2 _ c2 8 _) (ownS_sees 37 A3 _ c3 8 _)) rfl fun v Q hQ => ?_
      by_cases h2 : ofW l[x.k].who l = ofW l[x.k].who m
      · rw [decide_eq_true h2] at hQ
        obtain ⟨rfl, rfl⟩ := hQ
        refine Nx.keepN [] rfl ?_ ?_ rfl ?_
        · repeat (first | exact subB.nil _ | refine subB.cons rfl ?_)
        · repeat (first | exact subM.nil _ | refine subM.cons rfl rfl rfl ?_)
        refine Nx.runP (n := 200) rfl ?_ ?_
        · repeat (first | exact subB.nil _ | refine subB.cons rfl ?_)
        conv => whnf
        refine go 200 ?_
        conv => whnf
        refine go 200 ?_
        conv => whnf
        refine Ar.i64 (by omega) (by omega) ?_
        refine go 200 ?_
        conv => whnf
        refine (ih ⟨x.k + 1⟩ ⟨by show x.k + 1 ≤ _; omega, ?_⟩ (by show l.length - (x.k + 1) < _; omega)).weak ?_ ?_ ?_ ?_
        · show ∀ n ∈ l.take (x.k + 1), _
          rw [List.take_succ_eq_append_getElem hlt]
          intro n hn
          rcases List.mem_append.1 hn with hn | hn
          · exact he n hn
          · rw [List.mem_singleton.1 hn]; exact h2
        · exact .cons rfl rfl (.cons rfl rfl (.cons rfl rfl (.cons rfl rfl (.cons rfl (by simp) (.nil _)))))
        · repeat (first | exact subM.nil _ | refine subM.cons rfl rfl rfl ?_)
        · repeat (first | exact subB.nil _ | refine subB.cons rfl ?_)
        · repeat (first | exact subR.nil _ | refine subR.cons rfl rfl ?_)
      · rw [decide_eq_false h2] at hQ
        obtain ⟨rfl, rfl⟩ := hQ
        refine Nx.keepN [] rfl ?_ ?_ rfl ?_
        · repeat (first | exact subB.nil _ | refine subB.cons rfl ?_)
        · repeat (first | exact subM.nil _ | refine subM.cons rfl rfl rfl ?_)
        refine Nx.runP (n := 200) rfl ?_ ?_
        · repeat (first | exact subB.nil _ | refine subB.cons rfl ?_)
        conv => whnf
        refine go 200 ?_
        conv => whnf
        refine go 200 ?_
        conv => whnf
        refine Nx.ret [0, 1] Try.func25 rfl rfl ?_
        have hne : ¬ sameL l m := fun h => h2 (h.2 _ (List.getElem_mem hlt))
        exact ⟨by rw [decide_eq_false hne]; rfl, rfl⟩
    · refine go 200 ?_
      conv => whnf
      refine Nx.ret [0, 1] Try.func25 rfl rfl ?_
      have hx : x.k = l.length := by omega
      rw [hx, List.take_length] at he
      have hy : sameL l m := ⟨hlen, he⟩
      exact ⟨by rw [decide_eq_true hy]; rfl, rfl⟩
end Go.Proofs.Ytnnhgopibbdlkaa
