/- What an actor handled: Handled, Events, Calls, Cursor, Rising. -/
import Derived.Test.YtnnhgopibbdlkaaTrE
namespace Go.Proofs.Ytnnhgopibbdlkaa
open Go.RowKit
attribute [local irreducible] Nx Ar

def hanP (who ring deed : Int) (n : Note) : Bool := (decide (who < 0) || decide (n.who = who)) && decide (n.ring = ring) && decide (n.deed = deed)
structure KSt where
  k : Nat
  B : Option Addr
  d : Nat

theorem Handled_ok (S : SP) (A : Option Addr) (c : Nat) (l : List Note) (who ring deed : Int) (hl : l.length ≤ 2199023255488) (hs : Sees S A l.length 8 (notes l)) :
    FnOk Try.prog 20 [.slice A l.length c, .int .i64 who, .int .i64 ring, .int .i64 deed] [S] (fun v Q => ∃ A' c', v = .slice A' (l.filter (hanP who ring deed)).length c' ∧ Q = [S, ownS 37 A' (l.filter (hanP who ring deed)).length c' 8 (notes (l.filter (hanP who ring deed)))]) := by
  refine FnOk.start Try.func20 rfl rfl rfl rfl fun F os tape output => ?_
  refine go 200 ?_
  conv => whnf
  refine Nx.give 1 (ownS 37 none 0 0 8 []) (own_nil _ _ _ _) ?_
  obtain ⟨f, hp⟩ : ∃ f : Note → Bool, f = hanP who ring deed := ⟨_, rfl⟩
  rw [← hp]
  refine Nx.loop (X := KSt) (fun x => x.k ≤ l.length) (fun x => l.length - x.k)
    (fun x => [(0, sl A l.length c), (1, iv who), (2, iv ring), (3, iv deed), (9, sl x.B (flt f l x.k).length x.d), (10, iv x.k)]) (fun _ => []) [] (fun x => [(0, S), (1, ownS 37 x.B (flt f l x.k).length x.d 8 (notes (flt f l x.k)))])
    ⟨0, none, 0⟩ (Nat.zero_le _) ?_ ?_ ?_ ?_ ?_
  · repeat (first | exact subE.nil _ | refine subE.cons rfl rfl ?_ | refine subE.cons' rfl (fun _ => rfl) ?_)
  · repeat (first | exact subM.nil _ | refine subM.cons rfl rfl rfl ?_)
  · repeat (first | exact subB.nil _ | refine subB.cons rfl ?_)
  · repeat (first | exact subR.nil _ | refine subR.cons rfl rfl ?_)
  intro x hk ih
  have hle := flt_le f l x.k
  refine go 200 ?_
  conv => whnf
  refine BrM.dec (fun h1 => ?_) (fun h1 => ?_)
  · have hlt : x.k < l.length := by omega
    refine go 5 ?_
    conv => whnf
    refine Nx.joinR (E := [(0, sl A l.length c), (1, iv who), (2, iv ring), (3, iv deed), (9, sl x.B (flt f l x.k).length x.d), (10, iv x.k), (45, bv (f l[x.k]))]) (M := []) (B := []) (R := [(0, S), (1, ownS 37 x.B (flt f l x.k).length x.d 8 (notes (flt f l x.k)))]) (fun K => ?_) ?_
    · refine goR 200 ?_
      conv => whnf
      refine BrM.dec (fun h2 => ?_) (fun h2 => ?_)
      · refine goR 200 ?_
        conv => whnf
        refine Nx.idx 0 rfl rfl rfl Try.underlying22 rfl rfl rfl Note.enc_len hs rfl rfl hlt fun b p hq1 => ?_
        refine goR 200 ?_
        conv => whnf
        refine Nx.load1 0 rfl rfl rfl rfl (SeesAt.sub hq1 1 rfl) rfl ?_
        refine goR 200 ?_
        conv => whnf
        refine BrM.dec (fun h3 => ?_) (fun h3 => ?_)
        · refine goR 200 ?_
          conv => whnf
          refine Nx.idx 0 rfl rfl rfl Try.underlying22 rfl rfl rfl Note.enc_len hs rfl rfl hlt fun b p hq2 => ?_
          refine goR 200 ?_
          conv => whnf
          refine Nx.load1 0 rfl rfl rfl rfl (SeesAt.sub hq2 2 rfl) rfl ?_
          refine goR 200 ?_
          conv => whnf
          refine Nx.weak K ?_ ?_ ?_ ?_
          · have e : f l[x.k] = decide (l[x.k].deed = deed) := by rw [hp]; simp [hanP, h2, h3]
            rw [e]
            repeat (first | exact subE.nil _ | refine subE.cons rfl rfl ?_ | refine subE.cons' rfl (fun _ => rfl) ?_)
          · repeat (first | exact subM.nil _ | refine subM.cons rfl rfl rfl ?_)
          · repeat (first | exact subB.nil _ | refine subB.cons rfl ?_)
          · repeat (first | exact subR.nil _ | refine subR.cons rfl rfl ?_)
        · refine goR 200 ?_
          conv => whnf
          refine Nx.weak K ?_ ?_ ?_ ?_
          · have e : f l[x.k] = false := by rw [hp]; simp [hanP, h3]
            rw [e]
            repeat (first | exact subE.nil _ | refine subE.cons rfl rfl ?_ | refine subE.cons' rfl (fun _ => rfl) ?_)
          · repeat (first | exact subM.nil _ | refine subM.cons rfl rfl rfl ?_)
          · repeat (first | exact subB.nil _ | refine subB.cons rfl ?_)
          · repeat (first | exact subR.nil _ | refine subR.cons rfl rfl ?_)
      · refine goR 200 ?_
        conv => whnf
        refine Nx.idx 0 rfl rfl rfl Try.underlying22 rfl rfl rfl Note.enc_len hs rfl rfl hlt fun b p hq0 => ?_
        refine goR 200 ?_
        conv => whnf
        refine Nx.load1 0 rfl rfl rfl rfl (SeesAt.sub hq0 0 rfl) rfl ?_
        refine goR 200 ?_
        conv => whnf
        refine BrM.dec (fun h4 => ?_) (fun h4 => ?_)
        · refine goR 200 ?_
          conv => whnf
          refine Nx.idx 0 rfl rfl rfl Try.underlying22 rfl rfl rfl Note.enc_len hs rfl rfl hlt fun b p hq1 => ?_
          refine goR 200 ?_
          conv => whnf
          refine Nx.load1 0 rfl rfl rfl rfl (SeesAt.sub hq1 1 rfl) rfl ?_
          refine goR 200 ?_
          conv => whnf
          refine BrM.dec (fun h3 => ?_) (fun h3 => ?_)
          · refine goR 200 ?_
            conv => whnf
            refine Nx.idx 0 rfl rfl rfl Try.underlying22 rfl rfl rfl Note.enc_len hs rfl rfl hlt fun b p hq2 => ?_
            refine goR 200 ?_
            conv => whnf
            refine Nx.load1 0 rfl rfl rfl rfl (SeesAt.sub hq2 2 rfl) rfl ?_
            refine goR 200 ?_
            conv => whnf
            refine Nx.weak K ?_ ?_ ?_ ?_
            · have e : f l[x.k] = decide (l[x.k].deed = deed) := by rw [hp]; simp [hanP, h4, h3]
              rw [e]
              repeat (first | exact subE.nil _ | refine subE.cons rfl rfl ?_ | refine subE.cons' rfl (fun _ => rfl) ?_)
            · repeat (first | exact subM.nil _ | refine subM.cons rfl rfl rfl ?_)
            · repeat (first | exact subB.nil _ | refine subB.cons rfl ?_)
            · repeat (first | exact subR.nil _ | refine subR.cons rfl rfl ?_)
          · refine goR 200 ?_
            conv => whnf
            refine Nx.weak K ?_ ?_ ?_ ?_
            · have e : f l[x.k] = false := by rw [hp]; simp [hanP, h3]
              rw [e]
              repeat (first | exact subE.nil _ | refine subE.cons rfl rfl ?_ | refine subE.cons' rfl (fun _ => rfl) ?_)
            · repeat (first | exact subM.nil _ | refine subM.cons rfl rfl rfl ?_)
            · repeat (first | exact subB.nil _ | refine subB.cons rfl ?_)
            · repeat (first | exact subR.nil _ | refine subR.cons rfl rfl ?_)
        · refine goR 200 ?_
          conv => whnf
          refine Nx.weak K ?_ ?_ ?_ ?_
          · have e : f l[x.k] = false := by rw [hp]; simp [hanP, h2, h4]
            rw [e]
            repeat (first | exact subE.nil _ | refine subE.cons rfl rfl ?_ | refine subE.cons' rfl (fun _ => rfl) ?_)
          · repeat (first | exact subM.nil _ | refine subM.cons rfl rfl rfl ?_)
          · repeat (first | exact subB.nil _ | refine subB.cons rfl ?_)
          · repeat (first | exact subR.nil _ | refine subR.cons rfl rfl ?_)
    · refine go 200 ?_
      conv => whnf
      refine BrM.mk (fun h2 => ?_) (fun h2 => ?_)
      · refine go 200 ?_
        conv => whnf
        refine Nx.idx 0 rfl rfl rfl Try.underlying22 rfl rfl rfl Note.enc_len hs rfl rfl hlt fun b p hq => ?_
        refine go 200 ?_
        conv => whnf
        refine Nx.load 0 rfl rfl rfl rfl hq rfl rfl ?_
        refine go 200 ?_
        conv => whnf
        refine Nx.append 1 (sz := 8) (by_ := 64) (news := l[x.k].enc) rfl rfl rfl rfl rfl Try.underlying22 rfl rfl rfl rfl rfl (by unfold maxLen; omega) (by omega) fun A' c'' => ?_
        refine go 200 ?_
        conv => whnf
        refine Ar.i64 (by omega) (by omega) ?_
        refine go 200 ?_
        conv => whnf
        have e := flt_yes (p := f) hlt h2
        refine (ih ⟨x.k + 1, A', c''⟩ (by show x.k + 1 ≤ _; omega) (by show l.length - (x.k + 1) < _; omega)).weak ?_ ?_ ?_ ?_
        · exact .cons rfl rfl (.cons rfl rfl (.cons rfl rfl (.cons rfl rfl (.cons rfl (by rw [e]; simp) (.cons rfl (by simp) (.nil _))))))
        · repeat (first | exact subM.nil _ | refine subM.cons rfl rfl rfl ?_)
        · repeat (first | exact subB.nil _ | refine subB.cons rfl ?_)
        · exact .cons rfl rfl (.cons rfl (by rw [e]; simp) (.nil _))
      · refine go 200 ?_
        conv => whnf
        refine Ar.i64 (by omega) (by omega) ?_
        refine go 200 ?_
        conv => whnf
        have e := flt_no (p := f) hlt h2
        refine (ih ⟨x.k + 1, x.B, x.d⟩ (by show x.k + 1 ≤ _; omega) (by show l.length - (x.k + 1) < _; omega)).weak ?_ ?_ ?_ ?_
        · exact .cons rfl rfl (.cons rfl rfl (.cons rfl rfl (.cons rfl rfl (.cons rfl (by rw [e]) (.cons rfl (by simp) (.nil _))))))
        · repeat (first | exact subM.nil _ | refine subM.cons rfl rfl rfl ?_)
        · repeat (first | exact subB.nil _ | refine subB.cons rfl ?_)
        · exact .cons rfl rfl (.cons rfl (by rw [e]) (.nil _))
  · refine go 200 ?_
    conv => whnf
    refine Nx.ret [0, 1] Try.func20 rfl rfl ?_
    have hx : x.k = l.length := by omega
    rw [hx, flt_all]
    exact ⟨_, _, rfl, rfl⟩
end Go.Proofs.Ytnnhgopibbdlkaa
