/- How the document prints a line. -/
import Derived.Test.YtkfnbpbhcnekiaaGreatDoorMd
set_option linter.unusedSimpArgs false
set_option linter.unusedVariables false
/- How the document reads a line: the fields in their order; Parse. -/
namespace Go.Proofs.YtkfnbpbhcnekiaaGreatDoor
open Go.RowKit Go.Lib
attribute [local irreducible] Nx Ar BrM
set_option maxRecDepth 20000
set_option maxHeartbeats 2000000

structure WdX where
  i : Nat
  de : Int
  wh : Int
  ri : Int
  nn : Int
  tm : Int
  wy : Way
  ws : List Str
  W : Option Addr
  wc : Nat
abbrev WdX.o (x : WdX) : Ln := ⟨x.de, x.wh, x.ri, x.nn, x.tm, x.wy, [], []⟩
structure WdI (f : Str) (r : Option Ln) (x : WdX) : Prop where
  i : x.i ≤ f.length
  e : r = readF x.o x.ws (f.drop x.i)
  l : x.ws.length ≤ 1000000
  s : ∀ w ∈ x.ws, w.length ≤ 1000000
  c : x.ws.length ≤ x.wc
  z : 107 ∈ f.drop x.i → x.ri = 0
theorem putN_nil (de wh ri nn tm : Int) (wy : Way) (ch : UInt8) (n : Int) : ∃ de' wh' ri' nn' tm' wy', putN ⟨de, wh, ri, nn, tm, wy, [], []⟩ ch n = ⟨de', wh', ri', nn', tm', wy', [], []⟩ ∧ (ch ≠ 114 → ri' = ri) := by
  unfold putN
  split
  · exact ⟨_, _, _, _, _, _, rfl, fun _ => rfl⟩
  · split
    · rename_i h
      exact ⟨_, _, _, _, _, _, rfl, fun h' => absurd h h'⟩
    · split
      · exact ⟨_, _, _, _, _, _, rfl, fun _ => rfl⟩
      · exact ⟨_, _, _, _, _, _, rfl, fun _ => rfl⟩
theorem rd_tail {W : Option Addr} {wc : Nat} {s : Str} {r : List Str} (hc : (s :: r).length ≤ wc) : ∀ r' h, rdS W (s :: r).length 1 (strs (s :: r)) r' h → rdS (resl W 1 wc 1) r.length 1 (strs r) r' h := fun r' h hs => by
  have := rdS_part (l := 1) (n := (s :: r).length) (ws := s :: r) (by simp) rfl hc r' h hs
  exact this
theorem words_ok (k : Nat) (hk : k < 17) (W : Option Addr) (wc : Nat) (ws : List Str) (hl : ws.length ≤ 1000000) (hs : ∀ w ∈ ws, w.length ≤ 1000000) (hc : ws.length ≤ wc) :
    FnOk Tryz.prog 50 [.int .i64 k, .slice W ws.length wc] [rdS W ws.length 1 (strs ws)] (RfPost (readF { Ln.zero with deed := k } ws (shape k))) := by
  have hrk : 114 ∈ shape k → 107 ∉ shape k := (by decide : ∀ k < 17, 114 ∈ shape k → 107 ∉ shape k) k hk
  have hk1 : ∀ i < 5, (shape k)[i]? = some 107 → 107 ∉ (shape k).drop (i + 1) := (by decide : ∀ k < 17, ∀ i < 5, (shape k)[i]? = some 107 → 107 ∉ (shape k).drop (i + 1)) k hk
  have hfl : (shape k).length ≤ 4 := (by decide : ∀ k < 17, (shape k).length ≤ 4) k hk
  obtain ⟨r, hrd⟩ : ∃ r, r = readF { Ln.zero with deed := k } ws (shape k) := ⟨_, rfl⟩
  rw [← hrd]
  refine FnOk.start Tryz.func50 rfl rfl rfl rfl fun F os tape output => ?_
  refine Nx.give 3 (ownS 3 none 0 0 1 []) (own_nil _ _ _ _) ?_
  refine Nx.give 4 (ownS 72 none 0 0 2 []) (own_nil _ _ _ _) ?_
  refine go 200 ?_
  conv => whnf
  repeat' (first
    | ((with_reducible refine atBr ?_); (first | refine BrM.t rfl ?_ | refine BrM.f rfl ?_ | refine BrM.dec (fun _ => ?_) (fun _ => ?_) | refine BrM.mk (fun _ => ?_) (fun _ => ?_)) <;> conv => whnf)
    | ((with_reducible refine atAr ?_); refine Ar.i64 (by omega) (by omega) ?_; conv => whnf)
    | ((with_reducible refine (atCall 33) ?_); refine Nx.call [] [] rfl rfl rfl rfl rfl ((Shape_ok k hk)) rfl fun v Q hQ => ?_; obtain ⟨rfl, rfl⟩ := hQ)
    | ((with_reducible refine atOps ?_); refine go 200 ?_; conv => whnf)
    | ((with_reducible refine atPlan ?_); refine Nx.runP (n := 200) rfl (by repeat (first | exact subB.nil _ | refine subB.cons rfl ?_)) ?_; conv => whnf)
    | ((with_reducible refine atAftL ?_); refine Nx.late ?_)
    | ((fail_if_success (with_reducible refine atRet ?_)); (fail_if_success (with_reducible refine atLoop ?_)); (fail_if_success (with_reducible refine atIn ?_)); (fail_if_success (with_reducible refine atDrawn ?_)); (fail_if_success (with_reducible refine atEnd ?_)); (with_reducible refine atRun ?_); refine go 200 ?_; conv => whnf))
  generalize hf : shape k = f at hrd hfl hrk hk1 ⊢
  have hsz : (⟨f.toArray⟩ : ByteArray).size = f.length := by simp [ByteArray.size]
  refine Nx.loop (X := WdX) (WdI f r) (fun x => f.length - x.i)
    (fun x => [(1, sl x.W x.ws.length x.wc), (4, .c (.loc 4 0)), (5, iv 0), (6, .c (.loc 6 0)), (7, sv f), (8, iv x.i)]) (fun x => [(6, 44, (lnE x.de x.wh x.ri x.nn x.tm x.wy 0 none 0 0 none 0).map .v), (4, 44, (lnC Ln.zero none 0 none 0).map .v)]) [] (fun x => [(0, rdS x.W x.ws.length 1 (strs x.ws)), (3, ownS 3 none 0 0 1 []), (4, ownS 72 none 0 0 2 [])]) ⟨0, k, 0, 0, 0, 0, ⟨0, 0, 0⟩, ws, W, wc⟩ ⟨Nat.zero_le _, hrd, hl, hs, hc, fun _ => rfl⟩ ?_ ?_ ?_ ?_ ?_
  · repeat (first | exact subE.nil _ | refine subE.cons rfl rfl ?_ | refine subE.cons' rfl (fun _ => rfl) ?_)
  · repeat (first | exact subM.nil _ | refine subM.cons rfl rfl rfl ?_)
  · repeat (first | exact subB.nil _ | refine subB.cons rfl ?_)
  · repeat (first | exact subR.nil _ | refine subR.cons rfl rfl ?_)
  clear hf hrd hl hs hc
  intro x hx ih
  obtain ⟨hi, he, hl, hs, hc, hz⟩ := hx
  by_cases hlt : x.i < f.length
  · rw [List.drop_eq_getElem_cons hlt] at he
    have hb : byteAt f x.i = (f[x.i]).toNat := byteAt_nat hlt
    generalize hch : f[x.i] = ch at he hb
    have hq : ∀ n : Nat, n < 256 → ((ch.toNat : Int) = n ↔ ch = UInt8.ofNat n) := fun n hn => byte_eq hn
    by_cases h97 : ch = 97
    · subst h97
      have hb : byteAt f x.i = 97 := hb
      have hA := restA_ok (rdS x.W x.ws.length 1 (strs x.ws)) x.o x.W x.wc x.ws (rdS_sees _ _ _ _) rfl rfl hl hs (f.drop (x.i + 1))
      rw [← he] at hA
      repeat' (first
        | ((with_reducible refine atBr ?_); refine BrM.yes (by omega) ?_; conv => whnf)
        | ((with_reducible refine atBr ?_); (first | refine BrM.t rfl ?_ | refine BrM.f rfl ?_ | refine BrM.dec (fun _ => ?_) (fun _ => ?_) | refine BrM.mk (fun _ => ?_) (fun _ => ?_)) <;> conv => whnf)
        | ((with_reducible refine atAr ?_); refine Ar.i64 (by omega) (by omega) ?_; conv => whnf)
        | ((with_reducible refine atIndex ?_); refine Nx.sidx rfl rfl rfl Tryz.underlying9 rfl (by omega) (by omega) ?_)
        | ((with_reducible refine atDrawn ?_); refine Nx.bind (l := 4) (fun _ => ?_) rfl; refine Nx.bind (l := 6) (fun _ => ?_) rfl; refine Nx.drawn0 [] [.held 0, .pure 1, .pure 2, .pure 3, .pure 4, .ex 5 false, .pure 6, .pure 7, .ex 8 false, .pure 9] rfl (by kernel_rfl) rfl (by kernel_rfl) rfl (by repeat (first | exact subB.nil _ | refine subB.cons rfl ?_)) rfl ?_)
        | ((with_reducible refine atHoIndex ?_); refine Nx.hoSidx rfl rfl rfl Tryz.underlying9 rfl (by omega) (by omega) ?_)
        | ((with_reducible refine atOps ?_); refine go 200 ?_; conv => whnf)
        | ((with_reducible refine atPlan ?_); refine Nx.runP (n := 200) rfl (by repeat (first | exact subB.nil _ | refine subB.cons rfl ?_)) ?_; conv => whnf)
        | ((with_reducible refine atAftL ?_); refine Nx.late ?_)
        | ((fail_if_success (with_reducible refine atRet ?_)); (fail_if_success (with_reducible refine atLoop ?_)); (fail_if_success (with_reducible refine atIn ?_)); (fail_if_success (with_reducible refine atDrawn ?_)); (fail_if_success (with_reducible refine atEnd ?_)); (with_reducible refine atRun ?_); refine go 200 ?_; conv => whnf))
      rw [hb]
      refine Nx.call [0] [3,4] rfl rfl rfl rfl rfl (hA) rfl fun v Q hQ => ?_
      obtain ⟨o', A', B', c', d', e', rfl, rfl, hm⟩ := hQ
      repeat' (first
        | ((with_reducible refine atBr ?_); (first | refine BrM.t rfl ?_ | refine BrM.f rfl ?_ | refine BrM.dec (fun _ => ?_) (fun _ => ?_) | refine BrM.mk (fun _ => ?_) (fun _ => ?_)) <;> conv => whnf)
        | ((with_reducible refine atAr ?_); refine Ar.i64 (by omega) (by omega) ?_; conv => whnf)
        | ((with_reducible refine atRet ?_); refine Nx.ret [3,4] Tryz.func50 rfl rfl ?_; (exact ⟨o', A', B', c', d', e', rfl, rfl, hm⟩))
        | ((with_reducible refine atOps ?_); refine go 200 ?_; conv => whnf)
        | ((with_reducible refine atPlan ?_); refine Nx.runP (n := 200) rfl (by repeat (first | exact subB.nil _ | refine subB.cons rfl ?_)) ?_; conv => whnf)
        | ((with_reducible refine atAftL ?_); refine Nx.late ?_)
        | ((fail_if_success (with_reducible refine atRet ?_)); (fail_if_success (with_reducible refine atLoop ?_)); (fail_if_success (with_reducible refine atIn ?_)); (fail_if_success (with_reducible refine atDrawn ?_)); (fail_if_success (with_reducible refine atEnd ?_)); (with_reducible refine atRun ?_); refine go 200 ?_; conv => whnf))
    by_cases h101 : ch = 101
    · subst h101
      have hb : byteAt f x.i = 101 := hb
      have hA := restE_ok (rdS x.W x.ws.length 1 (strs x.ws)) x.o x.W x.wc x.ws (rdS_sees _ _ _ _) rfl rfl hl hs (f.drop (x.i + 1))
      rw [← he] at hA
      repeat' (first
        | ((with_reducible refine atBr ?_); refine BrM.yes (by omega) ?_; conv => whnf)
        | ((with_reducible refine atBr ?_); refine BrM.not (by omega) ?_; conv => whnf)
        | ((with_reducible refine atBr ?_); (first | refine BrM.t rfl ?_ | refine BrM.f rfl ?_ | refine BrM.dec (fun _ => ?_) (fun _ => ?_) | refine BrM.mk (fun _ => ?_) (fun _ => ?_)) <;> conv => whnf)
        | ((with_reducible refine atAr ?_); refine Ar.i64 (by omega) (by omega) ?_; conv => whnf)
        | ((with_reducible refine atIndex ?_); refine Nx.sidx rfl rfl rfl Tryz.underlying9 rfl (by omega) (by omega) ?_)
        | ((with_reducible refine atDrawn ?_); refine Nx.bind (l := 4) (fun _ => ?_) rfl; refine Nx.bind (l := 6) (fun _ => ?_) rfl; refine Nx.drawn0 [] [.held 0, .pure 1, .pure 2, .pure 3, .pure 4, .ex 5 false, .pure 6, .pure 7, .ex 8 false, .pure 9] rfl (by kernel_rfl) rfl (by kernel_rfl) rfl (by repeat (first | exact subB.nil _ | refine subB.cons rfl ?_)) rfl ?_)
        | ((with_reducible refine atHoIndex ?_); refine Nx.hoSidx rfl rfl rfl Tryz.underlying9 rfl (by omega) (by omega) ?_)
        | ((with_reducible refine atOps ?_); refine go 200 ?_; conv => whnf)
        | ((with_reducible refine atPlan ?_); refine Nx.runP (n := 200) rfl (by repeat (first | exact subB.nil _ | refine subB.cons rfl ?_)) ?_; conv => whnf)
        | ((with_reducible refine atAftL ?_); refine Nx.late ?_)
        | ((fail_if_success (with_reducible refine atRet ?_)); (fail_if_success (with_reducible refine atLoop ?_)); (fail_if_success (with_reducible refine atIn ?_)); (fail_if_success (with_reducible refine atDrawn ?_)); (fail_if_success (with_reducible refine atEnd ?_)); (with_reducible refine atRun ?_); refine go 200 ?_; conv => whnf))
      rw [hb]
      refine Nx.call [0] [3,4] rfl rfl rfl rfl rfl (hA) rfl fun v Q hQ => ?_
      obtain ⟨o', A', B', c', d', e', rfl, rfl, hm⟩ := hQ
      repeat' (first
        | ((with_reducible refine atBr ?_); (first | refine BrM.t rfl ?_ | refine BrM.f rfl ?_ | refine BrM.dec (fun _ => ?_) (fun _ => ?_) | refine BrM.mk (fun _ => ?_) (fun _ => ?_)) <;> conv => whnf)
        | ((with_reducible refine atAr ?_); refine Ar.i64 (by omega) (by omega) ?_; conv => whnf)
        | ((with_reducible refine atRet ?_); refine Nx.ret [3,4] Tryz.func50 rfl rfl ?_; (exact ⟨o', A', B', c', d', e', rfl, rfl, hm⟩))
        | ((with_reducible refine atOps ?_); refine go 200 ?_; conv => whnf)
        | ((with_reducible refine atPlan ?_); refine Nx.runP (n := 200) rfl (by repeat (first | exact subB.nil _ | refine subB.cons rfl ?_)) ?_; conv => whnf)
        | ((with_reducible refine atAftL ?_); refine Nx.late ?_)
        | ((fail_if_success (with_reducible refine atRet ?_)); (fail_if_success (with_reducible refine atLoop ?_)); (fail_if_success (with_reducible refine atIn ?_)); (fail_if_success (with_reducible refine atDrawn ?_)); (fail_if_success (with_reducible refine atEnd ?_)); (with_reducible refine atRun ?_); refine go 200 ?_; conv => whnf))
    have i97 : ¬ byteAt f x.i = 97 := fun h => h97 ((hq 97 (by omega)).1 (by omega))
    have i101 : ¬ byteAt f x.i = 101 := fun h => h101 ((hq 101 (by omega)).1 (by omega))
    rcases hws : x.ws with _ | ⟨s, w1⟩
    · rw [hws] at he
      have he : r = none := by rw [he]; unfold readF; rw [if_neg h97, if_neg h101]
      have no := RfPost.no he x.o none none 0 0
      repeat' (first
        | ((with_reducible refine atBr ?_); refine BrM.not (by omega) ?_; conv => whnf)
        | ((with_reducible refine atBr ?_); refine BrM.yes (by omega) ?_; conv => whnf)
        | ((with_reducible refine atBr ?_); (first | refine BrM.t rfl ?_ | refine BrM.f rfl ?_ | refine BrM.dec (fun _ => ?_) (fun _ => ?_) | refine BrM.mk (fun _ => ?_) (fun _ => ?_)) <;> conv => whnf)
        | ((with_reducible refine atAr ?_); refine Ar.i64 (by omega) (by omega) ?_; conv => whnf)
        | ((with_reducible refine atIndex ?_); refine Nx.sidx rfl rfl rfl Tryz.underlying9 rfl (by omega) (by omega) ?_)
        | ((with_reducible refine atRet ?_); refine Nx.ret [3,4] Tryz.func50 rfl rfl ?_; (exact no))
        | ((with_reducible refine atOps ?_); refine go 200 ?_; conv => whnf)
        | ((with_reducible refine atPlan ?_); refine Nx.runP (n := 200) rfl (by repeat (first | exact subB.nil _ | refine subB.cons rfl ?_)) ?_; conv => whnf)
        | ((with_reducible refine atAftL ?_); refine Nx.late ?_)
        | ((fail_if_success (with_reducible refine atRet ?_)); (fail_if_success (with_reducible refine atLoop ?_)); (fail_if_success (with_reducible refine atIn ?_)); (fail_if_success (with_reducible refine atDrawn ?_)); (fail_if_success (with_reducible refine atEnd ?_)); (with_reducible refine atRun ?_); refine go 200 ?_; conv => whnf))
    · rw [hws] at he hl hs hc
      have hln : (s :: w1).length = w1.length + 1 := rfl
      have hsl := hs s List.mem_cons_self
      have hl1 : w1.length ≤ 1000000 := by omega
      have hs1 : ∀ w ∈ w1, w.length ≤ 1000000 := fun w hw => hs w (List.mem_cons_of_mem _ hw)
      have hsee : Sees (rdS x.W (s :: w1).length 1 (strs (s :: w1))) x.W (s :: w1).length 1 ((s :: w1).flatMap fun w => [str w]) := by rw [strs_flat]; exact rdS_sees _ _ _ _
      have hmem : ch ∈ f := by rw [← hch]; exact List.getElem_mem hlt
      have hz1 : 107 ∈ f.drop (x.i + 1) → x.ri = 0 := fun h => hz (by rw [List.drop_eq_getElem_cons hlt]; exact List.mem_cons_of_mem _ h)
      have hmu : f.length - (x.i + 1) < f.length - x.i := by omega
      have no := fun (h : r = none) => RfPost.no h x.o none none 0 0
      by_cases h107 : ch = 107
      · subst h107
        have hb : byteAt f x.i = 107 := hb
        have hr0 : x.ri = 0 := hz (by rw [List.drop_eq_getElem_cons hlt, hch]; exact List.mem_cons_self)
        rw [readF_k] at he
        have hR : readK s = if s = ringL.getD 0 [] then some 0 else if s = ringL.getD 1 [] then some 1 else none := rfl
        simp only [List.headD_cons, List.tail_cons] at he
        by_cases k0 : s = ringL.getD 0 []
        · rw [if_pos k0] at hR
          rw [hR] at he
          have n1 : ¬ s = ringL.getD 1 [] := by rw [k0]; decide
          repeat' (first
            | ((with_reducible refine atBr ?_); refine BrM.not (by omega) ?_; conv => whnf)
            | ((with_reducible refine atBr ?_); refine BrM.yes (by omega) ?_; conv => whnf)
            | ((with_reducible refine atBr ?_); refine BrM.not (fun h => h (tl_eq k0)) ?_; conv => whnf)
            | ((with_reducible refine atBr ?_); refine BrM.not (fun h => n1 (toList_eq h)) ?_; conv => whnf)
            | ((with_reducible refine atAr ?_); refine Ar.to (k := .i64) (((x.i+1:Nat):Int)) (by omega) ⟨by omega, by omega⟩ ?_; conv => whnf)
            | ((with_reducible refine atBr ?_); (first | refine BrM.t rfl ?_ | refine BrM.f rfl ?_ | refine BrM.dec (fun _ => ?_) (fun _ => ?_) | refine BrM.mk (fun _ => ?_) (fun _ => ?_)) <;> conv => whnf)
            | ((with_reducible refine atAr ?_); refine Ar.i64 (by omega) (by omega) ?_; conv => whnf)
            | ((with_reducible refine atIndex ?_); refine Nx.sidx rfl rfl rfl Tryz.underlying9 rfl (by omega) (by omega) ?_)
            | ((with_reducible refine atIdx ?_); refine Nx.idx 0 (j := 0) rfl rfl rfl Tryz.underlying56 rfl rfl rfl one_len hsee rfl (by omega) (by omega) fun _ _ _ => ?_)
            | ((with_reducible refine atLoad ?_); first | (refine Nx.load1 0 rfl rfl rfl rfl (SeesAt.sub (by assumption) _ rfl) rfl ?_) | (refine Nx.load1 0 rfl rfl rfl rfl (by assumption) rfl ?_) | (refine Nx.load 0 rfl rfl rfl rfl (by assumption) rfl rfl ?_))
            | ((with_reducible refine atSlice ?_); refine Nx.reslice (l := 1) (h := (w1.length+1)) (m := x.wc) rfl rfl Tryz.underlying56 rfl rfl (rfl) (rfl) (rfl) (by simp) (by omega) (by omega) (by omega) ?_)
            | ((with_reducible refine atOps ?_); refine go 200 ?_; conv => whnf)
            | ((with_reducible refine atPlan ?_); refine Nx.runP (n := 200) rfl (by repeat (first | exact subB.nil _ | refine subB.cons rfl ?_)) ?_; conv => whnf)
            | ((with_reducible refine atAftL ?_); refine Nx.late ?_)
            | ((fail_if_success (with_reducible refine atRet ?_)); (fail_if_success (with_reducible refine atLoop ?_)); (fail_if_success (with_reducible refine atIn ?_)); (fail_if_success (with_reducible refine atDrawn ?_)); (fail_if_success (with_reducible refine atEnd ?_)); (with_reducible refine atRun ?_); refine go 200 ?_; conv => whnf))
          refine Nx.turn [0] [0] [rdS (resl x.W 1 x.wc 1) w1.length 1 (strs w1)] rfl (fun r' h hs => ?_) ?_
          · obtain ⟨r1, h1, h2, a1, a2, a3, a4, a5, a6⟩ := hs
            exact ⟨r1, h1, h2, a1, a2, a3, a4, rd_tail hc _ _ a5, a6⟩
          refine (ih ⟨x.i + 1, x.de, x.wh, x.ri, x.nn, x.tm, x.wy, w1, resl x.W 1 x.wc 1, x.wc - 1⟩ ⟨hlt, by rw [he, WdX.o, hr0], hl1, hs1, by show w1.length ≤ x.wc - 1; omega, hz1⟩ hmu).weak ?_ ?_ ?_ ?_
          · repeat (first | exact subE.nil _ | refine subE.cons rfl rfl ?_ | refine subE.cons' rfl (fun _ => rfl) ?_)
          · repeat (first | exact subM.nil _ | refine subM.cons rfl rfl rfl ?_)
          · repeat (first | exact subB.nil _ | refine subB.cons rfl ?_)
          · repeat (first | exact subR.nil _ | refine subR.cons rfl rfl ?_)
        rw [if_neg k0] at hR
        by_cases k1 : s = ringL.getD 1 []
        · rw [if_pos k1] at hR
          rw [hR] at he
          repeat' (first
            | ((with_reducible refine atBr ?_); refine BrM.not (by omega) ?_; conv => whnf)
            | ((with_reducible refine atBr ?_); refine BrM.yes (by omega) ?_; conv => whnf)
            | ((with_reducible refine atBr ?_); refine BrM.yes (fun h => k0 (toList_eq h)) ?_; conv => whnf)
            | ((with_reducible refine atBr ?_); refine BrM.not (fun h => h (tl_eq k1)) ?_; conv => whnf)
            | ((with_reducible refine atBr ?_); refine BrM.yes (tl_eq k1) ?_; conv => whnf)
            | ((with_reducible refine atAr ?_); refine Ar.to (k := .i64) (((x.i+1:Nat):Int)) (by omega) ⟨by omega, by omega⟩ ?_; conv => whnf)
            | ((with_reducible refine atBr ?_); (first | refine BrM.t rfl ?_ | refine BrM.f rfl ?_ | refine BrM.dec (fun _ => ?_) (fun _ => ?_) | refine BrM.mk (fun _ => ?_) (fun _ => ?_)) <;> conv => whnf)
            | ((with_reducible refine atAr ?_); refine Ar.i64 (by omega) (by omega) ?_; conv => whnf)
            | ((with_reducible refine atIndex ?_); refine Nx.sidx rfl rfl rfl Tryz.underlying9 rfl (by omega) (by omega) ?_)
            | ((with_reducible refine atIdx ?_); refine Nx.idx 0 (j := 0) rfl rfl rfl Tryz.underlying56 rfl rfl rfl one_len hsee rfl (by omega) (by omega) fun _ _ _ => ?_)
            | ((with_reducible refine atLoad ?_); first | (refine Nx.load1 0 rfl rfl rfl rfl (SeesAt.sub (by assumption) _ rfl) rfl ?_) | (refine Nx.load1 0 rfl rfl rfl rfl (by assumption) rfl ?_) | (refine Nx.load 0 rfl rfl rfl rfl (by assumption) rfl rfl ?_))
            | ((with_reducible refine atSlice ?_); refine Nx.reslice (l := 1) (h := (w1.length+1)) (m := x.wc) rfl rfl Tryz.underlying56 rfl rfl (rfl) (rfl) (rfl) (by simp) (by omega) (by omega) (by omega) ?_)
            | ((with_reducible refine atOps ?_); refine go 200 ?_; conv => whnf)
            | ((with_reducible refine atPlan ?_); refine Nx.runP (n := 200) rfl (by repeat (first | exact subB.nil _ | refine subB.cons rfl ?_)) ?_; conv => whnf)
            | ((with_reducible refine atAftL ?_); refine Nx.late ?_)
            | ((fail_if_success (with_reducible refine atRet ?_)); (fail_if_success (with_reducible refine atLoop ?_)); (fail_if_success (with_reducible refine atIn ?_)); (fail_if_success (with_reducible refine atDrawn ?_)); (fail_if_success (with_reducible refine atEnd ?_)); (with_reducible refine atRun ?_); refine go 200 ?_; conv => whnf))
          refine Nx.turn [0] [0] [rdS (resl x.W 1 x.wc 1) w1.length 1 (strs w1)] rfl (fun r' h hs => ?_) ?_
          · obtain ⟨r1, h1, h2, a1, a2, a3, a4, a5, a6⟩ := hs
            exact ⟨r1, h1, h2, a1, a2, a3, a4, rd_tail hc _ _ a5, a6⟩
          refine (ih ⟨x.i + 1, x.de, x.wh, 1, x.nn, x.tm, x.wy, w1, resl x.W 1 x.wc 1, x.wc - 1⟩ ⟨hlt, by rw [he], hl1, hs1, by show w1.length ≤ x.wc - 1; omega, fun h => ?_⟩ hmu).weak ?_ ?_ ?_ ?_
          · exact absurd h (hk1 x.i (by omega) (by rw [List.getElem?_eq_getElem hlt, hch]))
          · repeat (first | exact subE.nil _ | refine subE.cons rfl rfl ?_ | refine subE.cons' rfl (fun _ => rfl) ?_)
          · repeat (first | exact subM.nil _ | refine subM.cons rfl rfl rfl ?_)
          · repeat (first | exact subB.nil _ | refine subB.cons rfl ?_)
          · repeat (first | exact subR.nil _ | refine subR.cons rfl rfl ?_)
        · rw [if_neg k1] at hR
          rw [hR] at he
          repeat' (first
            | ((with_reducible refine atBr ?_); refine BrM.not (by omega) ?_; conv => whnf)
            | ((with_reducible refine atBr ?_); refine BrM.yes (by omega) ?_; conv => whnf)
            | ((with_reducible refine atBr ?_); refine BrM.yes (fun h => k0 (toList_eq h)) ?_; conv => whnf)
            | ((with_reducible refine atBr ?_); refine BrM.yes (fun h => k1 (toList_eq h)) ?_; conv => whnf)
            | ((with_reducible refine atBr ?_); (first | refine BrM.t rfl ?_ | refine BrM.f rfl ?_ | refine BrM.dec (fun _ => ?_) (fun _ => ?_) | refine BrM.mk (fun _ => ?_) (fun _ => ?_)) <;> conv => whnf)
            | ((with_reducible refine atAr ?_); refine Ar.i64 (by omega) (by omega) ?_; conv => whnf)
            | ((with_reducible refine atIndex ?_); refine Nx.sidx rfl rfl rfl Tryz.underlying9 rfl (by omega) (by omega) ?_)
            | ((with_reducible refine atIdx ?_); refine Nx.idx 0 (j := 0) rfl rfl rfl Tryz.underlying56 rfl rfl rfl one_len hsee rfl (by omega) (by omega) fun _ _ _ => ?_)
            | ((with_reducible refine atLoad ?_); first | (refine Nx.load1 0 rfl rfl rfl rfl (SeesAt.sub (by assumption) _ rfl) rfl ?_) | (refine Nx.load1 0 rfl rfl rfl rfl (by assumption) rfl ?_) | (refine Nx.load 0 rfl rfl rfl rfl (by assumption) rfl rfl ?_))
            | ((with_reducible refine atSlice ?_); refine Nx.reslice (l := 1) (h := (w1.length+1)) (m := x.wc) rfl rfl Tryz.underlying56 rfl rfl (rfl) (rfl) (rfl) (by simp) (by omega) (by omega) (by omega) ?_)
            | ((with_reducible refine atRet ?_); refine Nx.ret [3,4] Tryz.func50 rfl rfl ?_; (exact no he))
            | ((with_reducible refine atOps ?_); refine go 200 ?_; conv => whnf)
            | ((with_reducible refine atPlan ?_); refine Nx.runP (n := 200) rfl (by repeat (first | exact subB.nil _ | refine subB.cons rfl ?_)) ?_; conv => whnf)
            | ((with_reducible refine atAftL ?_); refine Nx.late ?_)
            | ((fail_if_success (with_reducible refine atRet ?_)); (fail_if_success (with_reducible refine atLoop ?_)); (fail_if_success (with_reducible refine atIn ?_)); (fail_if_success (with_reducible refine atDrawn ?_)); (fail_if_success (with_reducible refine atEnd ?_)); (with_reducible refine atRun ?_); refine go 200 ?_; conv => whnf))
      have i107 : ¬ byteAt f x.i = 107 := fun h => h107 ((hq 107 (by omega)).1 (by omega))
      by_cases h119 : ch = 119
      · subst h119
        have hb : byteAt f x.i = 119 := hb
        rw [readF_w] at he
        simp only [List.headD_cons, List.tail_cons] at he
        repeat' (first
          | ((with_reducible refine atBr ?_); refine BrM.not (by omega) ?_; conv => whnf)
          | ((with_reducible refine atBr ?_); refine BrM.yes (by omega) ?_; conv => whnf)
          | ((with_reducible refine atBr ?_); (first | refine BrM.t rfl ?_ | refine BrM.f rfl ?_ | refine BrM.dec (fun _ => ?_) (fun _ => ?_) | refine BrM.mk (fun _ => ?_) (fun _ => ?_)) <;> conv => whnf)
          | ((with_reducible refine atAr ?_); refine Ar.i64 (by omega) (by omega) ?_; conv => whnf)
          | ((with_reducible refine atIndex ?_); refine Nx.sidx rfl rfl rfl Tryz.underlying9 rfl (by omega) (by omega) ?_)
          | ((with_reducible refine atIdx ?_); refine Nx.idx 0 (j := 0) rfl rfl rfl Tryz.underlying56 rfl rfl rfl one_len hsee rfl (by omega) (by omega) fun _ _ _ => ?_)
          | ((with_reducible refine atLoad ?_); first | (refine Nx.load1 0 rfl rfl rfl rfl (SeesAt.sub (by assumption) _ rfl) rfl ?_) | (refine Nx.load1 0 rfl rfl rfl rfl (by assumption) rfl ?_) | (refine Nx.load 0 rfl rfl rfl rfl (by assumption) rfl rfl ?_))
          | ((with_reducible refine atSlice ?_); refine Nx.reslice (l := 1) (h := (w1.length+1)) (m := x.wc) rfl rfl Tryz.underlying56 rfl rfl (rfl) (rfl) (rfl) (by simp) (by omega) (by omega) (by omega) ?_)
          | ((with_reducible refine atOps ?_); refine go 200 ?_; conv => whnf)
          | ((with_reducible refine atPlan ?_); refine Nx.runP (n := 200) rfl (by repeat (first | exact subB.nil _ | refine subB.cons rfl ?_)) ?_; conv => whnf)
          | ((with_reducible refine atAftL ?_); refine Nx.late ?_)
          | ((fail_if_success (with_reducible refine atRet ?_)); (fail_if_success (with_reducible refine atLoop ?_)); (fail_if_success (with_reducible refine atIn ?_)); (fail_if_success (with_reducible refine atDrawn ?_)); (fail_if_success (with_reducible refine atEnd ?_)); (with_reducible refine atRun ?_); refine go 200 ?_; conv => whnf))
        refine Nx.call [] [] rfl rfl rfl rfl rfl (readWay_ok s (by omega)) rfl fun v Q hQ => ?_
        obtain ⟨⟨wv, b, rfl, hw⟩, rfl⟩ := hQ
        cases hrw : readWay s with
        | none =>
          rw [hrw] at he hw
          subst hw
          repeat' (first
            | ((with_reducible refine atBr ?_); (first | refine BrM.t rfl ?_ | refine BrM.f rfl ?_ | refine BrM.dec (fun _ => ?_) (fun _ => ?_) | refine BrM.mk (fun _ => ?_) (fun _ => ?_)) <;> conv => whnf)
            | ((with_reducible refine atAr ?_); refine Ar.i64 (by omega) (by omega) ?_; conv => whnf)
            | ((with_reducible refine atRet ?_); refine Nx.ret [3,4] Tryz.func50 rfl rfl ?_; (exact no he))
            | ((with_reducible refine atOps ?_); refine go 200 ?_; conv => whnf)
            | ((with_reducible refine atPlan ?_); refine Nx.runP (n := 200) rfl (by repeat (first | exact subB.nil _ | refine subB.cons rfl ?_)) ?_; conv => whnf)
            | ((with_reducible refine atAftL ?_); refine Nx.late ?_)
            | ((fail_if_success (with_reducible refine atRet ?_)); (fail_if_success (with_reducible refine atLoop ?_)); (fail_if_success (with_reducible refine atIn ?_)); (fail_if_success (with_reducible refine atDrawn ?_)); (fail_if_success (with_reducible refine atEnd ?_)); (with_reducible refine atRun ?_); refine go 200 ?_; conv => whnf))
        | some w =>
          rw [hrw] at he hw
          obtain ⟨rfl, rfl⟩ := hw
          repeat' (first
            | ((with_reducible refine atAr ?_); refine Ar.to (k := .i64) (((x.i+1:Nat):Int)) (by omega) ⟨by omega, by omega⟩ ?_; conv => whnf)
            | ((with_reducible refine atBr ?_); (first | refine BrM.t rfl ?_ | refine BrM.f rfl ?_ | refine BrM.dec (fun _ => ?_) (fun _ => ?_) | refine BrM.mk (fun _ => ?_) (fun _ => ?_)) <;> conv => whnf)
            | ((with_reducible refine atAr ?_); refine Ar.i64 (by omega) (by omega) ?_; conv => whnf)
            | ((with_reducible refine atOps ?_); refine go 200 ?_; conv => whnf)
            | ((with_reducible refine atPlan ?_); refine Nx.runP (n := 200) rfl (by repeat (first | exact subB.nil _ | refine subB.cons rfl ?_)) ?_; conv => whnf)
            | ((with_reducible refine atAftL ?_); refine Nx.late ?_)
            | ((fail_if_success (with_reducible refine atRet ?_)); (fail_if_success (with_reducible refine atLoop ?_)); (fail_if_success (with_reducible refine atIn ?_)); (fail_if_success (with_reducible refine atDrawn ?_)); (fail_if_success (with_reducible refine atEnd ?_)); (with_reducible refine atRun ?_); refine go 200 ?_; conv => whnf))
          refine Nx.turn [0] [0] [rdS (resl x.W 1 x.wc 1) w1.length 1 (strs w1)] rfl (fun r' h hs => ?_) ?_
          · obtain ⟨r1, h1, h2, a1, a2, a3, a4, a5, a6⟩ := hs
            exact ⟨r1, h1, h2, a1, a2, a3, a4, rd_tail hc _ _ a5, a6⟩
          refine (ih ⟨x.i + 1, x.de, x.wh, x.ri, x.nn, x.tm, wv, w1, resl x.W 1 x.wc 1, x.wc - 1⟩ ⟨hlt, by rw [he], hl1, hs1, by show w1.length ≤ x.wc - 1; omega, hz1⟩ hmu).weak ?_ ?_ ?_ ?_
          · repeat (first | exact subE.nil _ | refine subE.cons rfl rfl ?_ | refine subE.cons' rfl (fun _ => rfl) ?_)
          · repeat (first | exact subM.nil _ | refine subM.cons rfl rfl rfl ?_)
          · repeat (first | exact subB.nil _ | refine subB.cons rfl ?_)
          · repeat (first | exact subR.nil _ | refine subR.cons rfl rfl ?_)
      have i119 : ¬ byteAt f x.i = 119 := fun h => h119 ((hq 119 (by omega)).1 (by omega))
      rw [readF_num h97 h101 h107 h119] at he
      simp only [List.headD_cons, List.tail_cons] at he
      obtain ⟨u, bu, hnu, huu⟩ := numV_ex s
      rw [huu] at he
      repeat' (first
        | ((with_reducible refine atBr ?_); refine BrM.not (by omega) ?_; conv => whnf)
        | ((with_reducible refine atBr ?_); refine BrM.yes (by omega) ?_; conv => whnf)
        | ((with_reducible refine atBr ?_); (first | refine BrM.t rfl ?_ | refine BrM.f rfl ?_ | refine BrM.dec (fun _ => ?_) (fun _ => ?_) | refine BrM.mk (fun _ => ?_) (fun _ => ?_)) <;> conv => whnf)
        | ((with_reducible refine atAr ?_); refine Ar.i64 (by omega) (by omega) ?_; conv => whnf)
        | ((with_reducible refine atIndex ?_); refine Nx.sidx rfl rfl rfl Tryz.underlying9 rfl (by omega) (by omega) ?_)
        | ((with_reducible refine atIdx ?_); refine Nx.idx 0 (j := 0) rfl rfl rfl Tryz.underlying56 rfl rfl rfl one_len hsee rfl (by omega) (by omega) fun _ _ _ => ?_)
        | ((with_reducible refine atLoad ?_); first | (refine Nx.load1 0 rfl rfl rfl rfl (SeesAt.sub (by assumption) _ rfl) rfl ?_) | (refine Nx.load1 0 rfl rfl rfl rfl (by assumption) rfl ?_) | (refine Nx.load 0 rfl rfl rfl rfl (by assumption) rfl rfl ?_))
        | ((with_reducible refine atSlice ?_); refine Nx.reslice (l := 1) (h := (w1.length+1)) (m := x.wc) rfl rfl Tryz.underlying56 rfl rfl (rfl) (rfl) (rfl) (by simp) (by omega) (by omega) (by omega) ?_)
        | ((with_reducible refine atOps ?_); refine go 200 ?_; conv => whnf)
        | ((with_reducible refine atPlan ?_); refine Nx.runP (n := 200) rfl (by repeat (first | exact subB.nil _ | refine subB.cons rfl ?_)) ?_; conv => whnf)
        | ((with_reducible refine atAftL ?_); refine Nx.late ?_)
        | ((fail_if_success (with_reducible refine atRet ?_)); (fail_if_success (with_reducible refine atLoop ?_)); (fail_if_success (with_reducible refine atIn ?_)); (fail_if_success (with_reducible refine atDrawn ?_)); (fail_if_success (with_reducible refine atEnd ?_)); (with_reducible refine atRun ?_); refine go 200 ?_; conv => whnf))
      refine Nx.call [] [] rfl rfl rfl rfl rfl (Number_ok s (by omega)) rfl fun v Q hQ => ?_
      obtain ⟨rfl, rfl⟩ := hQ
      rw [hnu]
      cases bu with
      | false =>
        repeat' (first
          | ((with_reducible refine atBr ?_); (first | refine BrM.t rfl ?_ | refine BrM.f rfl ?_ | refine BrM.dec (fun _ => ?_) (fun _ => ?_) | refine BrM.mk (fun _ => ?_) (fun _ => ?_)) <;> conv => whnf)
          | ((with_reducible refine atAr ?_); refine Ar.i64 (by omega) (by omega) ?_; conv => whnf)
          | ((with_reducible refine atRet ?_); refine Nx.ret [3,4] Tryz.func50 rfl rfl ?_; (exact no he))
          | ((with_reducible refine atOps ?_); refine go 200 ?_; conv => whnf)
          | ((with_reducible refine atPlan ?_); refine Nx.runP (n := 200) rfl (by repeat (first | exact subB.nil _ | refine subB.cons rfl ?_)) ?_; conv => whnf)
          | ((with_reducible refine atAftL ?_); refine Nx.late ?_)
          | ((fail_if_success (with_reducible refine atRet ?_)); (fail_if_success (with_reducible refine atLoop ?_)); (fail_if_success (with_reducible refine atIn ?_)); (fail_if_success (with_reducible refine atDrawn ?_)); (fail_if_success (with_reducible refine atEnd ?_)); (with_reducible refine atRun ?_); refine go 200 ?_; conv => whnf))
      | true =>
        obtain ⟨de', wh', ri', nn', tm', wy', hput, hri⟩ := putN_nil x.de x.wh x.ri x.nn x.tm x.wy ch u
        have hpo := put_ok x.o none none 0 0 ch u
        rw [WdX.o, hput] at hpo
        simp only [if_true] at he
        rw [WdX.o, hput] at he
        repeat' (first
          | ((with_reducible refine atBr ?_); (first | refine BrM.t rfl ?_ | refine BrM.f rfl ?_ | refine BrM.dec (fun _ => ?_) (fun _ => ?_) | refine BrM.mk (fun _ => ?_) (fun _ => ?_)) <;> conv => whnf)
          | ((with_reducible refine atAr ?_); refine Ar.i64 (by omega) (by omega) ?_; conv => whnf)
          | ((with_reducible refine atDrawn ?_); refine Nx.bind (l := 4) (fun _ => ?_) rfl; refine Nx.bind (l := 6) (fun _ => ?_) rfl; refine Nx.drawn0 [] [.held 0, .pure 1, .pure 2, .pure 3, .pure 4, .ex 5 true, .ex 6 false] rfl (by kernel_rfl) rfl (by kernel_rfl) rfl (by repeat (first | exact subB.nil _ | refine subB.cons rfl ?_)) rfl ?_)
          | ((with_reducible refine atHoIndex ?_); refine Nx.hoSidx rfl rfl rfl Tryz.underlying9 rfl (by omega) (by omega) ?_)
          | ((with_reducible refine atOps ?_); refine go 200 ?_; conv => whnf)
          | ((with_reducible refine atPlan ?_); refine Nx.runP (n := 200) rfl (by repeat (first | exact subB.nil _ | refine subB.cons rfl ?_)) ?_; conv => whnf)
          | ((with_reducible refine atAftL ?_); refine Nx.late ?_)
          | ((fail_if_success (with_reducible refine atRet ?_)); (fail_if_success (with_reducible refine atLoop ?_)); (fail_if_success (with_reducible refine atIn ?_)); (fail_if_success (with_reducible refine atDrawn ?_)); (fail_if_success (with_reducible refine atEnd ?_)); (with_reducible refine atRun ?_); refine go 200 ?_; conv => whnf))
        rw [hb]
        refine Nx.call [] [] rfl rfl rfl rfl rfl (hpo) rfl fun v Q hQ => ?_
        obtain ⟨rfl, rfl⟩ := hQ
        repeat' (first
          | ((with_reducible refine atAr ?_); refine Ar.to (k := .i64) (((x.i+1:Nat):Int)) (by omega) ⟨by omega, by omega⟩ ?_; conv => whnf)
          | ((with_reducible refine atBr ?_); (first | refine BrM.t rfl ?_ | refine BrM.f rfl ?_ | refine BrM.dec (fun _ => ?_) (fun _ => ?_) | refine BrM.mk (fun _ => ?_) (fun _ => ?_)) <;> conv => whnf)
          | ((with_reducible refine atAr ?_); refine Ar.i64 (by omega) (by omega) ?_; conv => whnf)
          | ((with_reducible refine atAftK ?_); refine Nx.keepN [] rfl (by repeat (first | exact subB.nil _ | refine subB.cons rfl ?_)) (by repeat (first | exact subM.nil _ | refine subM.cons rfl rfl rfl ?_)) rfl ?_)
          | ((with_reducible refine atOps ?_); refine go 200 ?_; conv => whnf)
          | ((with_reducible refine atPlan ?_); refine Nx.runP (n := 200) rfl (by repeat (first | exact subB.nil _ | refine subB.cons rfl ?_)) ?_; conv => whnf)
          | ((with_reducible refine atAftL ?_); refine Nx.late ?_)
          | ((fail_if_success (with_reducible refine atRet ?_)); (fail_if_success (with_reducible refine atLoop ?_)); (fail_if_success (with_reducible refine atIn ?_)); (fail_if_success (with_reducible refine atDrawn ?_)); (fail_if_success (with_reducible refine atEnd ?_)); (with_reducible refine atRun ?_); refine go 200 ?_; conv => whnf))
        refine Nx.turn [0] [0] [rdS (resl x.W 1 x.wc 1) w1.length 1 (strs w1)] rfl (fun r' h hs => ?_) ?_
        · obtain ⟨r1, h1, h2, a1, a2, a3, a4, a5, a6⟩ := hs
          exact ⟨r1, h1, h2, a1, a2, a3, a4, rd_tail hc _ _ a5, a6⟩
        refine (ih ⟨x.i + 1, de', wh', ri', nn', tm', wy', w1, resl x.W 1 x.wc 1, x.wc - 1⟩ ⟨hlt, he, hl1, hs1, by show w1.length ≤ x.wc - 1; omega, fun h => ?_⟩ hmu).weak ?_ ?_ ?_ ?_
        · by_cases h114 : ch = 114
          · exact absurd (List.mem_of_mem_drop h) (hrk (h114 ▸ hmem))
          · exact (hri h114).trans (hz1 h)
        · repeat (first | exact subE.nil _ | refine subE.cons rfl rfl ?_ | refine subE.cons' rfl (fun _ => rfl) ?_)
        · repeat (first | exact subM.nil _ | refine subM.cons rfl rfl rfl ?_)
        · repeat (first | exact subB.nil _ | refine subB.cons rfl ?_)
        · repeat (first | exact subR.nil _ | refine subR.cons rfl rfl ?_)
  · have hd : f.drop x.i = [] := List.drop_eq_nil_of_le (by omega)
    rw [hd, readF_end] at he
    by_cases hw : x.ws = []
    · rw [if_pos hw] at he
      have hwl : x.ws.length = 0 := by rw [hw]; rfl
      have yes := RfPost.yes he none none 0 0
      repeat' (first
        | ((with_reducible refine atBr ?_); refine BrM.not (by omega) ?_; conv => whnf)
        | ((with_reducible refine atBr ?_); (first | refine BrM.t rfl ?_ | refine BrM.f rfl ?_ | refine BrM.dec (fun _ => ?_) (fun _ => ?_) | refine BrM.mk (fun _ => ?_) (fun _ => ?_)) <;> conv => whnf)
        | ((with_reducible refine atAr ?_); refine Ar.i64 (by omega) (by omega) ?_; conv => whnf)
        | ((with_reducible refine atRet ?_); refine Nx.ret [3,4] Tryz.func50 rfl rfl ?_; (exact yes))
        | ((with_reducible refine atOps ?_); refine go 200 ?_; conv => whnf)
        | ((with_reducible refine atPlan ?_); refine Nx.runP (n := 200) rfl (by repeat (first | exact subB.nil _ | refine subB.cons rfl ?_)) ?_; conv => whnf)
        | ((with_reducible refine atAftL ?_); refine Nx.late ?_)
        | ((fail_if_success (with_reducible refine atRet ?_)); (fail_if_success (with_reducible refine atLoop ?_)); (fail_if_success (with_reducible refine atIn ?_)); (fail_if_success (with_reducible refine atDrawn ?_)); (fail_if_success (with_reducible refine atEnd ?_)); (with_reducible refine atRun ?_); refine go 200 ?_; conv => whnf))
    · rw [if_neg hw] at he
      have hwl : 0 < x.ws.length := List.length_pos_iff.2 hw
      have no := RfPost.no he x.o none none 0 0
      repeat' (first
        | ((with_reducible refine atBr ?_); refine BrM.not (by omega) ?_; conv => whnf)
        | ((with_reducible refine atBr ?_); refine BrM.yes (by omega) ?_; conv => whnf)
        | ((with_reducible refine atBr ?_); (first | refine BrM.t rfl ?_ | refine BrM.f rfl ?_ | refine BrM.dec (fun _ => ?_) (fun _ => ?_) | refine BrM.mk (fun _ => ?_) (fun _ => ?_)) <;> conv => whnf)
        | ((with_reducible refine atAr ?_); refine Ar.i64 (by omega) (by omega) ?_; conv => whnf)
        | ((with_reducible refine atRet ?_); refine Nx.ret [3,4] Tryz.func50 rfl rfl ?_; (exact no))
        | ((with_reducible refine atOps ?_); refine go 200 ?_; conv => whnf)
        | ((with_reducible refine atPlan ?_); refine Nx.runP (n := 200) rfl (by repeat (first | exact subB.nil _ | refine subB.cons rfl ?_)) ?_; conv => whnf)
        | ((with_reducible refine atAftL ?_); refine Nx.late ?_)
        | ((fail_if_success (with_reducible refine atRet ?_)); (fail_if_success (with_reducible refine atLoop ?_)); (fail_if_success (with_reducible refine atIn ?_)); (fail_if_success (with_reducible refine atDrawn ?_)); (fail_if_success (with_reducible refine atEnd ?_)); (with_reducible refine atRun ?_); refine go 200 ?_; conv => whnf))
/-- What the document's Parse comes to. -/
def PrPost (r : Except Int Ln) (v : Value) (Q : List SP) : Prop := ∃ (o : Ln) (A B : Option Addr) (c d : Nat) (e : Int), v = .tuple #[lnV o A c B d, .int .i64 e] ∧ Q = [ownS 3 A o.after.length c 1 (intsV o.after), ownS 72 B o.evs.length d 2 (evsV o.evs)] ∧ (match r with | .error x => e = x ∧ o = Ln.zero | .ok x => o = x ∧ e = 0)
theorem PrPost.bad {r : Except Int Ln} {e : Int} (h : r = .error e) : PrPost r (.tuple #[lnV Ln.zero none 0 none 0, .int .i64 e]) [ownS 3 none 0 0 1 [], ownS 72 none 0 0 2 []] := by
  subst h; exact ⟨Ln.zero, none, none, 0, 0, e, rfl, rfl, rfl, rfl⟩
theorem ParseR_ok (s : Str) (hs : s.length ≤ 900000) : FnOk Tryz.prog 19 [str s] [] (PrPost (parseA s)) := by
  have hsz : (⟨s.toArray⟩ : ByteArray).size = s.length := by simp [ByteArray.size]
  have bad := fun e (h : parseA s = .error e) => PrPost.bad h
  refine FnOk.start Tryz.func19 rfl rfl rfl rfl fun F os tape output => ?_
  refine Nx.give 3 (ownS 3 none 0 0 1 []) (own_nil _ _ _ _) ?_
  refine Nx.give 4 (ownS 72 none 0 0 2 []) (own_nil _ _ _ _) ?_
  refine go 200 ?_
  conv => whnf
  by_cases h4 : 4000 < s.length
  · have hp : parseA s = .error 7 := by unfold parseA; rw [if_pos h4]
    repeat' (first
      | ((with_reducible refine atBr ?_); refine BrM.yes (by omega) ?_; conv => whnf)
      | ((with_reducible refine atBr ?_); (first | refine BrM.t rfl ?_ | refine BrM.f rfl ?_ | refine BrM.dec (fun _ => ?_) (fun _ => ?_) | refine BrM.mk (fun _ => ?_) (fun _ => ?_)) <;> conv => whnf)
      | ((with_reducible refine atAr ?_); refine Ar.i64 (by omega) (by omega) ?_; conv => whnf)
      | ((with_reducible refine atRet ?_); refine Nx.ret [3,4] Tryz.func19 rfl rfl ?_; (exact bad 7 hp))
      | ((with_reducible refine atOps ?_); refine go 200 ?_; conv => whnf)
      | ((with_reducible refine atPlan ?_); refine Nx.runP (n := 200) rfl (by repeat (first | exact subB.nil _ | refine subB.cons rfl ?_)) ?_; conv => whnf)
      | ((with_reducible refine atAftL ?_); refine Nx.late ?_)
      | ((fail_if_success (with_reducible refine atRet ?_)); (fail_if_success (with_reducible refine atLoop ?_)); (fail_if_success (with_reducible refine atIn ?_)); (fail_if_success (with_reducible refine atDrawn ?_)); (fail_if_success (with_reducible refine atEnd ?_)); (with_reducible refine atRun ?_); refine go 200 ?_; conv => whnf))
  · have hl1 := split_le 32 s
    have hl2 := split_each 32 s
    obtain ⟨w, r, hwr⟩ : ∃ w r, splitC 32 s = w :: r := by
      cases h : splitC 32 s with
      | nil => exact absurd h (splitC_ne _ _)
      | cons w r => exact ⟨w, r, rfl⟩
    have hlen : (splitC 32 s).length = r.length + 1 := by rw [hwr]; rfl
    have hp : parseA s = match deedOf w with | none => .error 3 | some d => match readF { Ln.zero with deed := d } r (shape d) with | none => .error 6 | some o => .ok o := by
      unfold parseA; rw [if_neg h4, hwr]; rfl
    have hrw : ∀ x ∈ r, x.length ≤ 1000000 := fun x hx => by have := hl2 x (by rw [hwr]; exact List.mem_cons_of_mem _ hx); omega
    repeat' (first
      | ((with_reducible refine atBr ?_); refine BrM.not (by omega) ?_; conv => whnf)
      | ((with_reducible refine atBr ?_); (first | refine BrM.t rfl ?_ | refine BrM.f rfl ?_ | refine BrM.dec (fun _ => ?_) (fun _ => ?_) | refine BrM.mk (fun _ => ?_) (fun _ => ?_)) <;> conv => whnf)
      | ((with_reducible refine atAr ?_); refine Ar.i64 (by omega) (by omega) ?_; conv => whnf)
      | ((with_reducible refine (atCall 49) ?_); refine Nx.call [] [0] rfl rfl rfl rfl rfl ((SplitR_ok s 32 (by omega))) rfl fun v Q hQ => ?_; obtain ⟨A,d,rfl,rfl⟩ := hQ)
      | ((with_reducible refine atOps ?_); refine go 200 ?_; conv => whnf)
      | ((with_reducible refine atPlan ?_); refine Nx.runP (n := 200) rfl (by repeat (first | exact subB.nil _ | refine subB.cons rfl ?_)) ?_; conv => whnf)
      | ((with_reducible refine atAftL ?_); refine Nx.late ?_)
      | ((fail_if_success (with_reducible refine atRet ?_)); (fail_if_success (with_reducible refine atLoop ?_)); (fail_if_success (with_reducible refine atIn ?_)); (fail_if_success (with_reducible refine atDrawn ?_)); (fail_if_success (with_reducible refine atEnd ?_)); (with_reducible refine atRun ?_); refine go 200 ?_; conv => whnf))
    rw [hwr]
    refine Nx.fact 0 (p := (w :: r).length ≤ d ∧ d ≤ maxLen) rfl (fun r h hs => ownS_fit hs) fun ⟨hfit, _⟩ => ?_
    refine Nx.share 0 (rdS A (w :: r).length 1 (strs (w :: r))) rfl own_share ?_
    have hln : (w :: r).length = r.length + 1 := rfl
    have hsee : Sees (rdS A (w :: r).length 1 (strs (w :: r))) A (w :: r).length 1 ((w :: r).flatMap fun w => [str w]) := by rw [strs_flat]; exact rdS_sees _ _ _ _
    refine Nx.loop (X := Nat) (fun k => k ≤ 17 ∧ w ∉ wordL.take k) (fun k => 17 - k)
      (fun k => [(2, .c (.loc 2 0)), (3, iv 0), (4, sl A (w :: r).length d), (5, iv k)]) (fun _ => [(2, 44, (lnC Ln.zero none 0 none 0).map .v)]) [] (fun _ => [(0, rdS A (w :: r).length 1 (strs (w :: r))), (3, ownS 3 none 0 0 1 []), (4, ownS 72 none 0 0 2 [])]) 0 ⟨Nat.zero_le _, by simp⟩ ?_ ?_ ?_ ?_ ?_
    · repeat (first | exact subE.nil _ | refine subE.cons rfl rfl ?_ | refine subE.cons' rfl (fun _ => rfl) ?_)
    · repeat (first | exact subM.nil _ | refine subM.cons rfl rfl rfl ?_)
    · repeat (first | exact subB.nil _ | refine subB.cons rfl ?_)
    · repeat (first | exact subR.nil _ | refine subR.cons rfl rfl ?_)
    intro k ⟨hk, hno⟩ ih
    by_cases hlt : k < 17
    · have hlt' : k < wordL.length := hlt
      have hwk : word k = wordL[k] := by rw [word, List.getD_eq_getElem?_getD, List.getElem?_eq_getElem hlt']; rfl
      by_cases he : word k = w
      · have hd : deedOf w = some k := find_yes hlt' hno (hwk ▸ he)
        rw [hd] at hp
        simp only at hp
        repeat' (first
          | ((with_reducible refine atBr ?_); refine BrM.yes (by omega) ?_; conv => whnf)
          | ((with_reducible refine atBr ?_); refine BrM.yes (tl_eq he) ?_; conv => whnf)
          | ((with_reducible refine atBr ?_); (first | refine BrM.t rfl ?_ | refine BrM.f rfl ?_ | refine BrM.dec (fun _ => ?_) (fun _ => ?_) | refine BrM.mk (fun _ => ?_) (fun _ => ?_)) <;> conv => whnf)
          | ((with_reducible refine atAr ?_); refine Ar.i64 (by omega) (by omega) ?_; conv => whnf)
          | ((with_reducible refine atDrawn ?_); refine Nx.bind (l := 2) (fun _ => ?_) rfl; refine Nx.drawn0 [0] [.pure 0, .pure 2, .pure 3, .held 4, .ex 1 true, .pure 5] rfl (by kernel_rfl) rfl (by kernel_rfl) rfl (by repeat (first | exact subB.nil _ | refine subB.cons rfl ?_)) rfl ?_)
          | ((with_reducible refine (atCall 35) ?_); refine Nx.call [] [] rfl rfl rfl rfl rfl ((Word_ok k hlt)) rfl fun v Q hQ => ?_; obtain ⟨rfl, rfl⟩ := hQ)
          | ((with_reducible refine atAftK ?_); refine Nx.keepN [0] rfl (by repeat (first | exact subB.nil _ | refine subB.cons rfl ?_)) (by repeat (first | exact subM.nil _ | refine subM.cons rfl rfl rfl ?_)) rfl ?_)
          | ((with_reducible refine atHoIdx ?_); refine Nx.hoIdx 0 (j := 0) rfl rfl rfl Tryz.underlying56 rfl rfl rfl one_len hsee rfl (by omega) (by omega) fun _ _ _ => ?_)
          | ((with_reducible refine atHoLoad ?_); first | (refine Nx.hoLoad1 rfl rfl rfl rfl List.mem_cons_self (SeesAt.sub (by assumption) _ rfl) rfl ?_) | (refine Nx.hoLoad1 rfl rfl rfl rfl List.mem_cons_self (by assumption) rfl ?_) | (refine Nx.hoLoad rfl rfl rfl rfl List.mem_cons_self (by assumption) rfl rfl ?_) | (refine Nx.hoLoad1 rfl rfl rfl rfl (List.mem_cons_of_mem _ List.mem_cons_self) (SeesAt.sub (by assumption) _ rfl) rfl ?_) | (refine Nx.hoLoad1 rfl rfl rfl rfl (List.mem_cons_of_mem _ List.mem_cons_self) (by assumption) rfl ?_) | (refine Nx.hoLoad rfl rfl rfl rfl (List.mem_cons_of_mem _ List.mem_cons_self) (by assumption) rfl rfl ?_) | (refine Nx.hoLoad1 rfl rfl rfl rfl (List.mem_cons_of_mem _ (List.mem_cons_of_mem _ List.mem_cons_self)) (SeesAt.sub (by assumption) _ rfl) rfl ?_) | (refine Nx.hoLoad1 rfl rfl rfl rfl (List.mem_cons_of_mem _ (List.mem_cons_of_mem _ List.mem_cons_self)) (by assumption) rfl ?_) | (refine Nx.hoLoad rfl rfl rfl rfl (List.mem_cons_of_mem _ (List.mem_cons_of_mem _ List.mem_cons_self)) (by assumption) rfl rfl ?_) | (refine Nx.hoLoad1 rfl rfl rfl rfl (List.mem_cons_of_mem _ (List.mem_cons_of_mem _ (List.mem_cons_of_mem _ List.mem_cons_self))) (SeesAt.sub (by assumption) _ rfl) rfl ?_) | (refine Nx.hoLoad1 rfl rfl rfl rfl (List.mem_cons_of_mem _ (List.mem_cons_of_mem _ (List.mem_cons_of_mem _ List.mem_cons_self))) (by assumption) rfl ?_) | (refine Nx.hoLoad rfl rfl rfl rfl (List.mem_cons_of_mem _ (List.mem_cons_of_mem _ (List.mem_cons_of_mem _ List.mem_cons_self))) (by assumption) rfl rfl ?_))
          | ((with_reducible refine atSlice ?_); refine Nx.reslice (l := 1) (h := (r.length+1)) (m := d) rfl rfl Tryz.underlying56 rfl rfl (rfl) (rfl) (rfl) (by simp) (by omega) (by omega) (by omega) ?_)
          | ((with_reducible refine atOps ?_); refine go 200 ?_; conv => whnf)
          | ((with_reducible refine atPlan ?_); refine Nx.runP (n := 200) rfl (by repeat (first | exact subB.nil _ | refine subB.cons rfl ?_)) ?_; conv => whnf)
          | ((with_reducible refine atAftL ?_); refine Nx.late ?_)
          | ((fail_if_success (with_reducible refine atRet ?_)); (fail_if_success (with_reducible refine atLoop ?_)); (fail_if_success (with_reducible refine atIn ?_)); (fail_if_success (with_reducible refine atDrawn ?_)); (fail_if_success (with_reducible refine atEnd ?_)); (with_reducible refine atRun ?_); refine go 200 ?_; conv => whnf))
        refine Nx.turn [0] [0] [rdS (resl A 1 d 1) r.length 1 (strs r)] rfl (fun r' h hs => ?_) ?_
        · obtain ⟨r1, h1, h2, a1, a2, a3, a4, a5, a6⟩ := hs
          exact ⟨r1, h1, h2, a1, a2, a3, a4, rd_tail hfit _ _ a5, a6⟩
        refine Nx.call [0] [13,14] rfl rfl rfl rfl rfl (words_ok k hlt (resl A 1 d 1) (d - 1) r (by omega) hrw (by omega)) rfl fun v Q hQ => ?_
        obtain ⟨o', A', B', c', d', e', rfl, rfl, hm⟩ := hQ
        cases hrf : readF { Ln.zero with deed := (k : Int) } r (shape k) with
        | none =>
          rw [hrf] at hm hp
          subst hm
          repeat' (first
            | ((with_reducible refine atBr ?_); (first | refine BrM.t rfl ?_ | refine BrM.f rfl ?_ | refine BrM.dec (fun _ => ?_) (fun _ => ?_) | refine BrM.mk (fun _ => ?_) (fun _ => ?_)) <;> conv => whnf)
            | ((with_reducible refine atAr ?_); refine Ar.i64 (by omega) (by omega) ?_; conv => whnf)
            | ((with_reducible refine atRet ?_); refine Nx.ret [3,4] Tryz.func19 rfl rfl ?_; (exact bad 6 hp))
            | ((with_reducible refine atOps ?_); refine go 200 ?_; conv => whnf)
            | ((with_reducible refine atPlan ?_); refine Nx.runP (n := 200) rfl (by repeat (first | exact subB.nil _ | refine subB.cons rfl ?_)) ?_; conv => whnf)
            | ((with_reducible refine atAftL ?_); refine Nx.late ?_)
            | ((fail_if_success (with_reducible refine atRet ?_)); (fail_if_success (with_reducible refine atLoop ?_)); (fail_if_success (with_reducible refine atIn ?_)); (fail_if_success (with_reducible refine atDrawn ?_)); (fail_if_success (with_reducible refine atEnd ?_)); (with_reducible refine atRun ?_); refine go 200 ?_; conv => whnf))
        | some o =>
          rw [hrf] at hm hp
          obtain ⟨rfl, rfl⟩ := hm
          repeat' (first
            | ((with_reducible refine atBr ?_); (first | refine BrM.t rfl ?_ | refine BrM.f rfl ?_ | refine BrM.dec (fun _ => ?_) (fun _ => ?_) | refine BrM.mk (fun _ => ?_) (fun _ => ?_)) <;> conv => whnf)
            | ((with_reducible refine atAr ?_); refine Ar.i64 (by omega) (by omega) ?_; conv => whnf)
            | ((with_reducible refine atRet ?_); refine Nx.ret [13,14] Tryz.func19 rfl rfl ?_; (exact ⟨o', A', B', c', d', 0, rfl, rfl, by rw [hp]; exact ⟨rfl, rfl⟩⟩))
            | ((with_reducible refine atOps ?_); refine go 200 ?_; conv => whnf)
            | ((with_reducible refine atPlan ?_); refine Nx.runP (n := 200) rfl (by repeat (first | exact subB.nil _ | refine subB.cons rfl ?_)) ?_; conv => whnf)
            | ((with_reducible refine atAftL ?_); refine Nx.late ?_)
            | ((fail_if_success (with_reducible refine atRet ?_)); (fail_if_success (with_reducible refine atLoop ?_)); (fail_if_success (with_reducible refine atIn ?_)); (fail_if_success (with_reducible refine atDrawn ?_)); (fail_if_success (with_reducible refine atEnd ?_)); (with_reducible refine atRun ?_); refine go 200 ?_; conv => whnf))
      · have nx := not_take hlt' hno (fun h => he (hwk.trans (toList_eq h)))
        repeat' (first
          | ((with_reducible refine atBr ?_); refine BrM.yes (by omega) ?_; conv => whnf)
          | ((with_reducible refine atBr ?_); refine BrM.not (fun h => he (toList_eq h)) ?_; conv => whnf)
          | ((with_reducible refine atAr ?_); refine Ar.to (k := .i64) (((k+1:Nat):Int)) (by omega) ⟨by omega, by omega⟩ ?_; conv => whnf)
          | ((with_reducible refine atBr ?_); (first | refine BrM.t rfl ?_ | refine BrM.f rfl ?_ | refine BrM.dec (fun _ => ?_) (fun _ => ?_) | refine BrM.mk (fun _ => ?_) (fun _ => ?_)) <;> conv => whnf)
          | ((with_reducible refine atAr ?_); refine Ar.i64 (by omega) (by omega) ?_; conv => whnf)
          | ((with_reducible refine atDrawn ?_); refine Nx.bind (l := 2) (fun _ => ?_) rfl; refine Nx.drawn0 [0] [.pure 0, .pure 2, .pure 3, .held 4, .ex 1 true, .pure 5] rfl (by kernel_rfl) rfl (by kernel_rfl) rfl (by repeat (first | exact subB.nil _ | refine subB.cons rfl ?_)) rfl ?_)
          | ((with_reducible refine (atCall 35) ?_); refine Nx.call [] [] rfl rfl rfl rfl rfl ((Word_ok k hlt)) rfl fun v Q hQ => ?_; obtain ⟨rfl, rfl⟩ := hQ)
          | ((with_reducible refine atAftK ?_); refine Nx.keepN [0] rfl (by repeat (first | exact subB.nil _ | refine subB.cons rfl ?_)) (by repeat (first | exact subM.nil _ | refine subM.cons rfl rfl rfl ?_)) rfl ?_)
          | ((with_reducible refine atHoIdx ?_); refine Nx.hoIdx 0 (j := 0) rfl rfl rfl Tryz.underlying56 rfl rfl rfl one_len hsee rfl (by omega) (by omega) fun _ _ _ => ?_)
          | ((with_reducible refine atHoLoad ?_); first | (refine Nx.hoLoad1 rfl rfl rfl rfl List.mem_cons_self (SeesAt.sub (by assumption) _ rfl) rfl ?_) | (refine Nx.hoLoad1 rfl rfl rfl rfl List.mem_cons_self (by assumption) rfl ?_) | (refine Nx.hoLoad rfl rfl rfl rfl List.mem_cons_self (by assumption) rfl rfl ?_) | (refine Nx.hoLoad1 rfl rfl rfl rfl (List.mem_cons_of_mem _ List.mem_cons_self) (SeesAt.sub (by assumption) _ rfl) rfl ?_) | (refine Nx.hoLoad1 rfl rfl rfl rfl (List.mem_cons_of_mem _ List.mem_cons_self) (by assumption) rfl ?_) | (refine Nx.hoLoad rfl rfl rfl rfl (List.mem_cons_of_mem _ List.mem_cons_self) (by assumption) rfl rfl ?_) | (refine Nx.hoLoad1 rfl rfl rfl rfl (List.mem_cons_of_mem _ (List.mem_cons_of_mem _ List.mem_cons_self)) (SeesAt.sub (by assumption) _ rfl) rfl ?_) | (refine Nx.hoLoad1 rfl rfl rfl rfl (List.mem_cons_of_mem _ (List.mem_cons_of_mem _ List.mem_cons_self)) (by assumption) rfl ?_) | (refine Nx.hoLoad rfl rfl rfl rfl (List.mem_cons_of_mem _ (List.mem_cons_of_mem _ List.mem_cons_self)) (by assumption) rfl rfl ?_) | (refine Nx.hoLoad1 rfl rfl rfl rfl (List.mem_cons_of_mem _ (List.mem_cons_of_mem _ (List.mem_cons_of_mem _ List.mem_cons_self))) (SeesAt.sub (by assumption) _ rfl) rfl ?_) | (refine Nx.hoLoad1 rfl rfl rfl rfl (List.mem_cons_of_mem _ (List.mem_cons_of_mem _ (List.mem_cons_of_mem _ List.mem_cons_self))) (by assumption) rfl ?_) | (refine Nx.hoLoad rfl rfl rfl rfl (List.mem_cons_of_mem _ (List.mem_cons_of_mem _ (List.mem_cons_of_mem _ List.mem_cons_self))) (by assumption) rfl rfl ?_))
          | ((with_reducible refine atIn ?_); refine Nx.weak ((ih (k + 1) ⟨hlt, nx⟩ (by omega))) ?_ ?_ ?_ ?_ <;> (first | exact subM.nil _ | exact subB.nil _ | exact subR.nil _ | ((repeat (first | exact subE.nil _ | refine subE.cons rfl rfl ?_ | refine subE.cons' rfl (fun _ => rfl) ?_ | (refine subE.cons rfl ?_ ?_; · (simp; done)))); done) | ((repeat (first | exact subM.nil _ | refine subM.cons rfl rfl rfl ?_)); done) | ((repeat (first | exact subB.nil _ | refine subB.cons rfl ?_)); done) | ((repeat (first | exact subR.nil _ | refine subR.cons rfl rfl ?_)); done) | omega | (dsimp only; omega) | (skip) | skip))
          | ((with_reducible refine atOps ?_); refine go 200 ?_; conv => whnf)
          | ((with_reducible refine atPlan ?_); refine Nx.runP (n := 200) rfl (by repeat (first | exact subB.nil _ | refine subB.cons rfl ?_)) ?_; conv => whnf)
          | ((with_reducible refine atAftL ?_); refine Nx.late ?_)
          | ((fail_if_success (with_reducible refine atRet ?_)); (fail_if_success (with_reducible refine atLoop ?_)); (fail_if_success (with_reducible refine atIn ?_)); (fail_if_success (with_reducible refine atDrawn ?_)); (fail_if_success (with_reducible refine atEnd ?_)); (with_reducible refine atRun ?_); refine go 200 ?_; conv => whnf))
    · have hd : deedOf w = none := find_no (by
        rw [List.take_of_length_le (show wordL.length ≤ k by have : wordL.length = 17 := rfl; omega)] at hno
        exact hno)
      rw [hd] at hp
      repeat' (first
        | ((with_reducible refine atBr ?_); refine BrM.not (by omega) ?_; conv => whnf)
        | ((with_reducible refine atBr ?_); (first | refine BrM.t rfl ?_ | refine BrM.f rfl ?_ | refine BrM.dec (fun _ => ?_) (fun _ => ?_) | refine BrM.mk (fun _ => ?_) (fun _ => ?_)) <;> conv => whnf)
        | ((with_reducible refine atAr ?_); refine Ar.i64 (by omega) (by omega) ?_; conv => whnf)
        | ((with_reducible refine atRet ?_); refine Nx.ret [3,4] Tryz.func19 rfl rfl ?_; (exact bad 3 hp))
        | ((with_reducible refine atOps ?_); refine go 200 ?_; conv => whnf)
        | ((with_reducible refine atPlan ?_); refine Nx.runP (n := 200) rfl (by repeat (first | exact subB.nil _ | refine subB.cons rfl ?_)) ?_; conv => whnf)
        | ((with_reducible refine atAftL ?_); refine Nx.late ?_)
        | ((fail_if_success (with_reducible refine atRet ?_)); (fail_if_success (with_reducible refine atLoop ?_)); (fail_if_success (with_reducible refine atIn ?_)); (fail_if_success (with_reducible refine atDrawn ?_)); (fail_if_success (with_reducible refine atEnd ?_)); (with_reducible refine atRun ?_); refine go 200 ?_; conv => whnf))
end Go.Proofs.YtkfnbpbhcnekiaaGreatDoor

/- Are two lines one? -/
namespace Go.Proofs.YtkfnbpbhcnekiaaGreatDoor
open Go.RowKit Go.Lib
attribute [local irreducible] Nx Ar BrM
set_option maxRecDepth 20000
set_option maxHeartbeats 2000000

theorem ints_flat (l : List Int) : (l.flatMap fun n => [Value.int .i64 n]) = intsV l := by
  induction l with
  | nil => rfl
  | cons x l ih => simp [ih]
theorem int_len (n : Int) : ([Value.int .i64 n] : List Value).length = 1 := rfl
structure Ln.head (o p : Ln) : Prop where
  de : o.deed = p.deed
  wh : o.who = p.who
  ri : o.ring = p.ring
  nn : o.n = p.n
  tm : o.at_ = p.at_
  k : o.way.kind = p.way.kind
  t : o.way.tries = p.way.tries
  u : o.way.time = p.way.time
  a : o.after.length = p.after.length
  e : o.evs.length = p.evs.length
theorem Ln.eq_of {o p : Ln} (h : o.head p) (ha : o.after = p.after) (he : o.evs = p.evs) : o = p := by
  obtain ⟨a1, a2, a3, a4, a5, ⟨a6, a7, a8⟩, a9, a10⟩ := o
  obtain ⟨b1, b2, b3, b4, b5, ⟨b6, b7, b8⟩, b9, b10⟩ := p
  obtain ⟨h1, h2, h3, h4, h5, h6, h7, h8, _, _⟩ := h
  simp only at h1 h2 h3 h4 h5 h6 h7 h8 ha he
  subst h1 h2 h3 h4 h5 h6 h7 h8 ha he
  rfl
theorem part1 {t : TypeId} {cs : Array Value} {o : Nat} {v : Value} {w : World} (ht : aggOf Tryz.prog t = .one) (hv : cs[o]? = some v) : (part t cs o).run Tryz.prog w = .ok v w := by
  have h := aggOf_one ht w
  simp [part, h, Array.getD_eq_getD_getElem?, hv]
theorem eqInt (d : Nat) (t : TypeId) (w : World) (a b : Int) (ht : Tryz.prog.underlying t = some (.int .i64)) : (Op.equalIn (d + 1) t (.int .i64 a) (.int .i64 b)).run Tryz.prog w = .ok (a == b) w := run_equalIn_int w d t .i64 .i64 a b ht
theorem eq72d (d : Nat) (x y : Ev) (w : World) : (Op.equalIn (d + 2) 72 (.agg (evC x).toArray) (.agg (evC y).toArray)).run Tryz.prog w = .ok (decide (x = y)) w := by
  rw [run_equalIn_agg w (d + 1) 72 _ _ rfl (by kernel_rfl)]
  have hf : (Tryz.prog.fieldsOf 72).toList = [{ name := "Key", type := 2, offset := 0, embedded := false, tag := "", pkgPath := "", byteOffset := 0 }, { name := "Val", type := 2, offset := 1, embedded := false, tag := "", pkgPath := "", byteOffset := 8 }] := rfl
  rw [hf]
  have p : ∀ (s : Ev) (j : Nat) (v : Value), (evC s)[j]? = some v → (part 2 (evC s).toArray j).run Tryz.prog w = .ok v w := fun s j v hv => part1 rfl (by simpa using hv)
  simp only [Op.eqFields, Sem.run_bind, Sem.run_ite, p x 0 _ rfl, p y 0 _ rfl, p x 1 _ rfl, p y 1 _ rfl, Result.andThen_ok, eqInt d 2 w _ _ Tryz.underlying2, Sem.run_pure]
  obtain ⟨a, b⟩ := x
  obtain ⟨c, e⟩ := y
  by_cases h1 : a = c <;> by_cases h2 : b = e <;> simp [h1, h2]
theorem eq72 (x y : Ev) (w : World) : (Op.equalIn 10000 72 (.agg (evC x).toArray) (.agg (evC y).toArray)).run Tryz.prog w = .ok (decide (x = y)) w := eq72d 9998 x y w
theorem same_ok (S1 S2 S3 S4 : SP) (o p : Ln) (A B A' B' : Option Addr) (c d c' d' : Nat) (h1 : Sees S1 A o.after.length 1 (intsV o.after)) (h2 : Sees S2 B o.evs.length 2 (evsV o.evs)) (h3 : Sees S3 A' p.after.length 1 (intsV p.after)) (h4 : Sees S4 B' p.evs.length 2 (evsV p.evs))
    (l1 : o.after.length ≤ 1000000) (l2 : o.evs.length ≤ 1000000) :
    FnOk Tryz.prog 17 [lnV o A c B d, lnV p A' c' B' d'] [S1, S2, S3, S4] (fun v Q => v = .bool (decide (o = p)) ∧ Q = [S1, S2, S3, S4]) := by
  rw [← ints_flat] at h1 h3
  by_cases hh : o.head p
  · obtain ⟨g1, g2, g3, g4, g5, g6, g7, g8, g9, g10⟩ := hh
    have hh : o.head p := ⟨g1, g2, g3, g4, g5, g6, g7, g8, g9, g10⟩
    refine FnOk.start Tryz.func17 rfl rfl rfl rfl fun F os tape output => ?_
    refine go 200 ?_
    conv => whnf
    repeat' (first
      | ((with_reducible refine atBr ?_); refine BrM.not (by omega) ?_; conv => whnf)
      | ((with_reducible refine atBr ?_); (first | refine BrM.t rfl ?_ | refine BrM.f rfl ?_ | refine BrM.dec (fun _ => ?_) (fun _ => ?_) | refine BrM.mk (fun _ => ?_) (fun _ => ?_)) <;> conv => whnf)
      | ((with_reducible refine atAr ?_); refine Ar.i64 (by omega) (by omega) ?_; conv => whnf)
      | ((with_reducible refine atOps ?_); refine go 200 ?_; conv => whnf)
      | ((with_reducible refine atPlan ?_); refine Nx.runP (n := 200) rfl (by repeat (first | exact subB.nil _ | refine subB.cons rfl ?_)) ?_; conv => whnf)
      | ((with_reducible refine atAftL ?_); refine Nx.late ?_)
      | ((fail_if_success (with_reducible refine atRet ?_)); (fail_if_success (with_reducible refine atLoop ?_)); (fail_if_success (with_reducible refine atIn ?_)); (fail_if_success (with_reducible refine atDrawn ?_)); (fail_if_success (with_reducible refine atEnd ?_)); (with_reducible refine atRun ?_); refine go 200 ?_; conv => whnf))
    refine Nx.loop (X := Nat) (fun k => k ≤ o.after.length ∧ ∀ j (h : j < k) (h1 : j < o.after.length) (h2 : j < p.after.length), o.after[j] = p.after[j]) (fun k => o.after.length - k)
      (fun k => [(2, .c (.loc 2 0)), (3, .c (.loc 3 0)), (86, sl A o.after.length c), (87, iv o.after.length), (88, iv k)]) (fun _ => [(2, 37, (lnC o A c B d).map .v), (3, 44, (lnC p A' c' B' d').map .v)]) [] (fun _ => [(0, S1), (1, S2), (2, S3), (3, S4)]) 0 ⟨Nat.zero_le _, fun j h => absurd h (Nat.not_lt_zero _)⟩ ?_ ?_ ?_ ?_ ?_
    · repeat (first | exact subE.nil _ | refine subE.cons rfl rfl ?_ | refine subE.cons' rfl (fun _ => rfl) ?_)
    · repeat (first | exact subM.nil _ | refine subM.cons rfl rfl rfl ?_)
    · repeat (first | exact subB.nil _ | refine subB.cons rfl ?_)
    · repeat (first | exact subR.nil _ | refine subR.cons rfl rfl ?_)
    intro k ⟨hk, hall⟩ ih
    by_cases hlt : k < o.after.length
    · have hlt' : k < p.after.length := by omega
      by_cases he : o.after[k] = p.after[k]
      · have nx : ∀ j (h : j < k + 1) (h1 : j < o.after.length) (h2 : j < p.after.length), o.after[j] = p.after[j] := fun j h h1 h2 => by
          rcases Nat.lt_succ_iff_lt_or_eq.1 h with h | h
          · exact hall j h h1 h2
          · subst h; exact he
        repeat' (first
          | ((with_reducible refine atBr ?_); refine BrM.yes (by omega) ?_; conv => whnf)
          | ((with_reducible refine atBr ?_); refine BrM.not (by omega) ?_; conv => whnf)
          | ((with_reducible refine atAr ?_); refine Ar.to (k := .i64) (((k+1:Nat):Int)) (by omega) ⟨by omega, by omega⟩ ?_; conv => whnf)
          | ((with_reducible refine atBr ?_); (first | refine BrM.t rfl ?_ | refine BrM.f rfl ?_ | refine BrM.dec (fun _ => ?_) (fun _ => ?_) | refine BrM.mk (fun _ => ?_) (fun _ => ?_)) <;> conv => whnf)
          | ((with_reducible refine atAr ?_); refine Ar.i64 (by omega) (by omega) ?_; conv => whnf)
          | ((with_reducible refine atDrawn ?_); refine Nx.bind (l := 2) (fun _ => ?_) rfl; refine Nx.bind (l := 3) (fun _ => ?_) rfl; refine Nx.drawn0 [0,2] [.pure 0, .held 1, .pure 2, .pure 3, .held 4, .pure 5, .held 6, .pure 7, .pure 8, .held 9, .pure 10] rfl (by kernel_rfl) rfl (by kernel_rfl) rfl (by repeat (first | exact subB.nil _ | refine subB.cons rfl ?_)) rfl ?_)
          | ((with_reducible refine atHoIdx ?_); refine Nx.hoIdx 0 rfl rfl rfl Tryz.underlying25 rfl rfl rfl int_len h1 rfl rfl (by omega) fun _ _ _ => ?_)
          | ((with_reducible refine atHoIdx ?_); refine Nx.hoIdx 2 rfl rfl rfl Tryz.underlying25 rfl rfl rfl int_len h3 rfl rfl (by omega) fun _ _ _ => ?_)
          | ((with_reducible refine atHoLoad ?_); first | (refine Nx.hoLoad1 rfl rfl rfl rfl List.mem_cons_self (SeesAt.sub (by assumption) _ rfl) rfl ?_) | (refine Nx.hoLoad1 rfl rfl rfl rfl List.mem_cons_self (by assumption) rfl ?_) | (refine Nx.hoLoad rfl rfl rfl rfl List.mem_cons_self (by assumption) rfl rfl ?_) | (refine Nx.hoLoad1 rfl rfl rfl rfl (List.mem_cons_of_mem _ List.mem_cons_self) (SeesAt.sub (by assumption) _ rfl) rfl ?_) | (refine Nx.hoLoad1 rfl rfl rfl rfl (List.mem_cons_of_mem _ List.mem_cons_self) (by assumption) rfl ?_) | (refine Nx.hoLoad rfl rfl rfl rfl (List.mem_cons_of_mem _ List.mem_cons_self) (by assumption) rfl rfl ?_) | (refine Nx.hoLoad1 rfl rfl rfl rfl (List.mem_cons_of_mem _ (List.mem_cons_of_mem _ List.mem_cons_self)) (SeesAt.sub (by assumption) _ rfl) rfl ?_) | (refine Nx.hoLoad1 rfl rfl rfl rfl (List.mem_cons_of_mem _ (List.mem_cons_of_mem _ List.mem_cons_self)) (by assumption) rfl ?_) | (refine Nx.hoLoad rfl rfl rfl rfl (List.mem_cons_of_mem _ (List.mem_cons_of_mem _ List.mem_cons_self)) (by assumption) rfl rfl ?_) | (refine Nx.hoLoad1 rfl rfl rfl rfl (List.mem_cons_of_mem _ (List.mem_cons_of_mem _ (List.mem_cons_of_mem _ List.mem_cons_self))) (SeesAt.sub (by assumption) _ rfl) rfl ?_) | (refine Nx.hoLoad1 rfl rfl rfl rfl (List.mem_cons_of_mem _ (List.mem_cons_of_mem _ (List.mem_cons_of_mem _ List.mem_cons_self))) (by assumption) rfl ?_) | (refine Nx.hoLoad rfl rfl rfl rfl (List.mem_cons_of_mem _ (List.mem_cons_of_mem _ (List.mem_cons_of_mem _ List.mem_cons_self))) (by assumption) rfl rfl ?_))
          | ((with_reducible refine atIn ?_); refine Nx.weak ((ih (k + 1) ⟨hlt, nx⟩ (by omega))) ?_ ?_ ?_ ?_ <;> (first | exact subM.nil _ | exact subB.nil _ | exact subR.nil _ | ((repeat (first | exact subE.nil _ | refine subE.cons rfl rfl ?_ | refine subE.cons' rfl (fun _ => rfl) ?_ | (refine subE.cons rfl ?_ ?_; · (simp; done)))); done) | ((repeat (first | exact subM.nil _ | refine subM.cons rfl rfl rfl ?_)); done) | ((repeat (first | exact subB.nil _ | refine subB.cons rfl ?_)); done) | ((repeat (first | exact subR.nil _ | refine subR.cons rfl rfl ?_)); done) | omega | (dsimp only; omega) | (skip) | skip))
          | ((with_reducible refine atOps ?_); refine go 200 ?_; conv => whnf)
          | ((with_reducible refine atPlan ?_); refine Nx.runP (n := 200) rfl (by repeat (first | exact subB.nil _ | refine subB.cons rfl ?_)) ?_; conv => whnf)
          | ((with_reducible refine atAftL ?_); refine Nx.late ?_)
          | ((fail_if_success (with_reducible refine atRet ?_)); (fail_if_success (with_reducible refine atLoop ?_)); (fail_if_success (with_reducible refine atIn ?_)); (fail_if_success (with_reducible refine atDrawn ?_)); (fail_if_success (with_reducible refine atEnd ?_)); (with_reducible refine atRun ?_); refine go 200 ?_; conv => whnf))
      · have hne : o ≠ p := fun e => by
          apply he
          simp only [e]
        repeat' (first
          | ((with_reducible refine atBr ?_); refine BrM.yes (by omega) ?_; conv => whnf)
          | ((with_reducible refine atBr ?_); refine BrM.yes (he) ?_; conv => whnf)
          | ((with_reducible refine atBr ?_); (first | refine BrM.t rfl ?_ | refine BrM.f rfl ?_ | refine BrM.dec (fun _ => ?_) (fun _ => ?_) | refine BrM.mk (fun _ => ?_) (fun _ => ?_)) <;> conv => whnf)
          | ((with_reducible refine atAr ?_); refine Ar.i64 (by omega) (by omega) ?_; conv => whnf)
          | ((with_reducible refine atDrawn ?_); refine Nx.bind (l := 2) (fun _ => ?_) rfl; refine Nx.bind (l := 3) (fun _ => ?_) rfl; refine Nx.drawn0 [0,2] [.pure 0, .held 1, .pure 2, .pure 3, .held 4, .pure 5, .held 6, .pure 7, .pure 8, .held 9, .pure 10] rfl (by kernel_rfl) rfl (by kernel_rfl) rfl (by repeat (first | exact subB.nil _ | refine subB.cons rfl ?_)) rfl ?_)
          | ((with_reducible refine atHoIdx ?_); refine Nx.hoIdx 0 rfl rfl rfl Tryz.underlying25 rfl rfl rfl int_len h1 rfl rfl (by omega) fun _ _ _ => ?_)
          | ((with_reducible refine atHoIdx ?_); refine Nx.hoIdx 2 rfl rfl rfl Tryz.underlying25 rfl rfl rfl int_len h3 rfl rfl (by omega) fun _ _ _ => ?_)
          | ((with_reducible refine atHoLoad ?_); first | (refine Nx.hoLoad1 rfl rfl rfl rfl List.mem_cons_self (SeesAt.sub (by assumption) _ rfl) rfl ?_) | (refine Nx.hoLoad1 rfl rfl rfl rfl List.mem_cons_self (by assumption) rfl ?_) | (refine Nx.hoLoad rfl rfl rfl rfl List.mem_cons_self (by assumption) rfl rfl ?_) | (refine Nx.hoLoad1 rfl rfl rfl rfl (List.mem_cons_of_mem _ List.mem_cons_self) (SeesAt.sub (by assumption) _ rfl) rfl ?_) | (refine Nx.hoLoad1 rfl rfl rfl rfl (List.mem_cons_of_mem _ List.mem_cons_self) (by assumption) rfl ?_) | (refine Nx.hoLoad rfl rfl rfl rfl (List.mem_cons_of_mem _ List.mem_cons_self) (by assumption) rfl rfl ?_) | (refine Nx.hoLoad1 rfl rfl rfl rfl (List.mem_cons_of_mem _ (List.mem_cons_of_mem _ List.mem_cons_self)) (SeesAt.sub (by assumption) _ rfl) rfl ?_) | (refine Nx.hoLoad1 rfl rfl rfl rfl (List.mem_cons_of_mem _ (List.mem_cons_of_mem _ List.mem_cons_self)) (by assumption) rfl ?_) | (refine Nx.hoLoad rfl rfl rfl rfl (List.mem_cons_of_mem _ (List.mem_cons_of_mem _ List.mem_cons_self)) (by assumption) rfl rfl ?_) | (refine Nx.hoLoad1 rfl rfl rfl rfl (List.mem_cons_of_mem _ (List.mem_cons_of_mem _ (List.mem_cons_of_mem _ List.mem_cons_self))) (SeesAt.sub (by assumption) _ rfl) rfl ?_) | (refine Nx.hoLoad1 rfl rfl rfl rfl (List.mem_cons_of_mem _ (List.mem_cons_of_mem _ (List.mem_cons_of_mem _ List.mem_cons_self))) (by assumption) rfl ?_) | (refine Nx.hoLoad rfl rfl rfl rfl (List.mem_cons_of_mem _ (List.mem_cons_of_mem _ (List.mem_cons_of_mem _ List.mem_cons_self))) (by assumption) rfl rfl ?_))
          | ((with_reducible refine atRet ?_); refine Nx.ret [0,1,2,3] Tryz.func17 rfl rfl ?_; (exact ⟨by rw [decide_eq_false hne]; rfl, rfl⟩))
          | ((with_reducible refine atOps ?_); refine go 200 ?_; conv => whnf)
          | ((with_reducible refine atPlan ?_); refine Nx.runP (n := 200) rfl (by repeat (first | exact subB.nil _ | refine subB.cons rfl ?_)) ?_; conv => whnf)
          | ((with_reducible refine atAftL ?_); refine Nx.late ?_)
          | ((fail_if_success (with_reducible refine atRet ?_)); (fail_if_success (with_reducible refine atLoop ?_)); (fail_if_success (with_reducible refine atIn ?_)); (fail_if_success (with_reducible refine atDrawn ?_)); (fail_if_success (with_reducible refine atEnd ?_)); (with_reducible refine atRun ?_); refine go 200 ?_; conv => whnf))
    · have hafter : o.after = p.after := List.ext_getElem g9 fun j h1 h2 => hall j (by omega) h1 h2
      clear ih
      repeat' (first
        | ((with_reducible refine atBr ?_); refine BrM.not (by omega) ?_; conv => whnf)
        | ((with_reducible refine atBr ?_); (first | refine BrM.t rfl ?_ | refine BrM.f rfl ?_ | refine BrM.dec (fun _ => ?_) (fun _ => ?_) | refine BrM.mk (fun _ => ?_) (fun _ => ?_)) <;> conv => whnf)
        | ((with_reducible refine atAr ?_); refine Ar.i64 (by omega) (by omega) ?_; conv => whnf)
        | ((with_reducible refine atOps ?_); refine go 200 ?_; conv => whnf)
        | ((with_reducible refine atPlan ?_); refine Nx.runP (n := 200) rfl (by repeat (first | exact subB.nil _ | refine subB.cons rfl ?_)) ?_; conv => whnf)
        | ((with_reducible refine atAftL ?_); refine Nx.late ?_)
        | ((fail_if_success (with_reducible refine atRet ?_)); (fail_if_success (with_reducible refine atLoop ?_)); (fail_if_success (with_reducible refine atIn ?_)); (fail_if_success (with_reducible refine atDrawn ?_)); (fail_if_success (with_reducible refine atEnd ?_)); (with_reducible refine atRun ?_); refine go 200 ?_; conv => whnf))
      refine Nx.loop (X := Nat) (fun k => k ≤ o.evs.length ∧ ∀ j (h : j < k) (h1 : j < o.evs.length) (h2 : j < p.evs.length), o.evs[j] = p.evs[j]) (fun k => o.evs.length - k)
        (fun k => [(2, .c (.loc 2 0)), (3, .c (.loc 3 0)), (104, sl B o.evs.length d), (105, iv o.evs.length), (106, iv k)]) (fun _ => [(2, 37, (lnC o A c B d).map .v), (3, 44, (lnC p A' c' B' d').map .v)]) [] (fun _ => [(0, S1), (1, S2), (2, S3), (3, S4)]) 0 ⟨Nat.zero_le _, fun j h => absurd h (Nat.not_lt_zero _)⟩ ?_ ?_ ?_ ?_ ?_
      · repeat (first | exact subE.nil _ | refine subE.cons rfl rfl ?_ | refine subE.cons' rfl (fun _ => rfl) ?_)
      · repeat (first | exact subM.nil _ | refine subM.cons rfl rfl rfl ?_)
      · repeat (first | exact subB.nil _ | refine subB.cons rfl ?_)
      · repeat (first | exact subR.nil _ | refine subR.cons rfl rfl ?_)
      clear hlt hall hk k
      intro k ⟨hk, hall⟩ ih
      by_cases hlt : k < o.evs.length
      · have hlt' : k < p.evs.length := by omega
        repeat' (first
          | ((with_reducible refine atBr ?_); refine BrM.yes (by omega) ?_; conv => whnf)
          | ((with_reducible refine atBr ?_); (first | refine BrM.t rfl ?_ | refine BrM.f rfl ?_ | refine BrM.dec (fun _ => ?_) (fun _ => ?_) | refine BrM.mk (fun _ => ?_) (fun _ => ?_)) <;> conv => whnf)
          | ((with_reducible refine atAr ?_); refine Ar.i64 (by omega) (by omega) ?_; conv => whnf)
          | ((with_reducible refine atDrawn ?_); refine Nx.bind (l := 2) (fun _ => ?_) rfl; refine Nx.bind (l := 3) (fun _ => ?_) rfl; refine Nx.drawn0 [1,3] [.pure 0, .held 1, .pure 2, .pure 3, .held 4, .pure 5, .held 6, .pure 7, .pure 8, .held 9, .pure 10] rfl (by kernel_rfl) rfl (by kernel_rfl) rfl (by repeat (first | exact subB.nil _ | refine subB.cons rfl ?_)) rfl ?_)
          | ((with_reducible refine atHoIdx ?_); refine Nx.hoIdx 1 rfl rfl rfl Tryz.underlying26 rfl rfl rfl evC_len h2 rfl rfl (by omega) fun _ _ _ => ?_)
          | ((with_reducible refine atHoIdx ?_); refine Nx.hoIdx 3 rfl rfl rfl Tryz.underlying26 rfl rfl rfl evC_len h4 rfl rfl (by omega) fun _ _ _ => ?_)
          | ((with_reducible refine atHoLoad ?_); first | (refine Nx.hoLoad1 rfl rfl rfl rfl List.mem_cons_self (SeesAt.sub (by assumption) _ rfl) rfl ?_) | (refine Nx.hoLoad1 rfl rfl rfl rfl List.mem_cons_self (by assumption) rfl ?_) | (refine Nx.hoLoad rfl rfl rfl rfl List.mem_cons_self (by assumption) rfl rfl ?_) | (refine Nx.hoLoad1 rfl rfl rfl rfl (List.mem_cons_of_mem _ List.mem_cons_self) (SeesAt.sub (by assumption) _ rfl) rfl ?_) | (refine Nx.hoLoad1 rfl rfl rfl rfl (List.mem_cons_of_mem _ List.mem_cons_self) (by assumption) rfl ?_) | (refine Nx.hoLoad rfl rfl rfl rfl (List.mem_cons_of_mem _ List.mem_cons_self) (by assumption) rfl rfl ?_) | (refine Nx.hoLoad1 rfl rfl rfl rfl (List.mem_cons_of_mem _ (List.mem_cons_of_mem _ List.mem_cons_self)) (SeesAt.sub (by assumption) _ rfl) rfl ?_) | (refine Nx.hoLoad1 rfl rfl rfl rfl (List.mem_cons_of_mem _ (List.mem_cons_of_mem _ List.mem_cons_self)) (by assumption) rfl ?_) | (refine Nx.hoLoad rfl rfl rfl rfl (List.mem_cons_of_mem _ (List.mem_cons_of_mem _ List.mem_cons_self)) (by assumption) rfl rfl ?_) | (refine Nx.hoLoad1 rfl rfl rfl rfl (List.mem_cons_of_mem _ (List.mem_cons_of_mem _ (List.mem_cons_of_mem _ List.mem_cons_self))) (SeesAt.sub (by assumption) _ rfl) rfl ?_) | (refine Nx.hoLoad1 rfl rfl rfl rfl (List.mem_cons_of_mem _ (List.mem_cons_of_mem _ (List.mem_cons_of_mem _ List.mem_cons_self))) (by assumption) rfl ?_) | (refine Nx.hoLoad rfl rfl rfl rfl (List.mem_cons_of_mem _ (List.mem_cons_of_mem _ (List.mem_cons_of_mem _ List.mem_cons_self))) (by assumption) rfl rfl ?_))
          | ((with_reducible refine atOps ?_); refine go 200 ?_; conv => whnf)
          | ((with_reducible refine atPlan ?_); refine Nx.runP (n := 200) rfl (by repeat (first | exact subB.nil _ | refine subB.cons rfl ?_)) ?_; conv => whnf)
          | ((with_reducible refine atAftL ?_); refine Nx.late ?_)
          | ((fail_if_success (with_reducible refine atRet ?_)); (fail_if_success (with_reducible refine atLoop ?_)); (fail_if_success (with_reducible refine atIn ?_)); (fail_if_success (with_reducible refine atDrawn ?_)); (fail_if_success (with_reducible refine atEnd ?_)); (with_reducible refine atRun ?_); refine go 200 ?_; conv => whnf))
        refine Nx.hoEqS rfl (.inr rfl) rfl rfl rfl rfl (by kernel_rfl) (eq72 o.evs[k] p.evs[k]) rfl ?_
        by_cases he : o.evs[k] = p.evs[k]
        · have nx : ∀ j (h : j < k + 1) (h1 : j < o.evs.length) (h2 : j < p.evs.length), o.evs[j] = p.evs[j] := fun j h h1 h2 => by
            rcases Nat.lt_succ_iff_lt_or_eq.1 h with h | h
            · exact hall j h h1 h2
            · subst h; exact he
          rw [decide_eq_true he]
          repeat' (first
            | ((with_reducible refine atAr ?_); refine Ar.to (k := .i64) (((k+1:Nat):Int)) (by omega) ⟨by omega, by omega⟩ ?_; conv => whnf)
            | ((with_reducible refine atBr ?_); (first | refine BrM.t rfl ?_ | refine BrM.f rfl ?_ | refine BrM.dec (fun _ => ?_) (fun _ => ?_) | refine BrM.mk (fun _ => ?_) (fun _ => ?_)) <;> conv => whnf)
            | ((with_reducible refine atAr ?_); refine Ar.i64 (by omega) (by omega) ?_; conv => whnf)
            | ((with_reducible refine atIn ?_); refine Nx.weak ((ih (k + 1) ⟨hlt, nx⟩ (by omega))) ?_ ?_ ?_ ?_ <;> (first | exact subM.nil _ | exact subB.nil _ | exact subR.nil _ | ((repeat (first | exact subE.nil _ | refine subE.cons rfl rfl ?_ | refine subE.cons' rfl (fun _ => rfl) ?_ | (refine subE.cons rfl ?_ ?_; · (simp; done)))); done) | ((repeat (first | exact subM.nil _ | refine subM.cons rfl rfl rfl ?_)); done) | ((repeat (first | exact subB.nil _ | refine subB.cons rfl ?_)); done) | ((repeat (first | exact subR.nil _ | refine subR.cons rfl rfl ?_)); done) | omega | (dsimp only; omega) | (skip) | skip))
            | ((with_reducible refine atOps ?_); refine go 200 ?_; conv => whnf)
            | ((with_reducible refine atPlan ?_); refine Nx.runP (n := 200) rfl (by repeat (first | exact subB.nil _ | refine subB.cons rfl ?_)) ?_; conv => whnf)
            | ((with_reducible refine atAftL ?_); refine Nx.late ?_)
            | ((fail_if_success (with_reducible refine atRet ?_)); (fail_if_success (with_reducible refine atLoop ?_)); (fail_if_success (with_reducible refine atIn ?_)); (fail_if_success (with_reducible refine atDrawn ?_)); (fail_if_success (with_reducible refine atEnd ?_)); (with_reducible refine atRun ?_); refine go 200 ?_; conv => whnf))
        · have hne : o ≠ p := fun e => by
            apply he
            simp only [e]
          rw [decide_eq_false he]
          repeat' (first
            | ((with_reducible refine atBr ?_); (first | refine BrM.t rfl ?_ | refine BrM.f rfl ?_ | refine BrM.dec (fun _ => ?_) (fun _ => ?_) | refine BrM.mk (fun _ => ?_) (fun _ => ?_)) <;> conv => whnf)
            | ((with_reducible refine atAr ?_); refine Ar.i64 (by omega) (by omega) ?_; conv => whnf)
            | ((with_reducible refine atRet ?_); refine Nx.ret [0,1,2,3] Tryz.func17 rfl rfl ?_; (exact ⟨by rw [decide_eq_false hne]; rfl, rfl⟩))
            | ((with_reducible refine atOps ?_); refine go 200 ?_; conv => whnf)
            | ((with_reducible refine atPlan ?_); refine Nx.runP (n := 200) rfl (by repeat (first | exact subB.nil _ | refine subB.cons rfl ?_)) ?_; conv => whnf)
            | ((with_reducible refine atAftL ?_); refine Nx.late ?_)
            | ((fail_if_success (with_reducible refine atRet ?_)); (fail_if_success (with_reducible refine atLoop ?_)); (fail_if_success (with_reducible refine atIn ?_)); (fail_if_success (with_reducible refine atDrawn ?_)); (fail_if_success (with_reducible refine atEnd ?_)); (with_reducible refine atRun ?_); refine go 200 ?_; conv => whnf))
      · have hev : o.evs = p.evs := List.ext_getElem g10 fun j h1 h2 => hall j (by omega) h1 h2
        have heq := Ln.eq_of hh hafter hev
        repeat' (first
          | ((with_reducible refine atBr ?_); refine BrM.not (by omega) ?_; conv => whnf)
          | ((with_reducible refine atBr ?_); (first | refine BrM.t rfl ?_ | refine BrM.f rfl ?_ | refine BrM.dec (fun _ => ?_) (fun _ => ?_) | refine BrM.mk (fun _ => ?_) (fun _ => ?_)) <;> conv => whnf)
          | ((with_reducible refine atAr ?_); refine Ar.i64 (by omega) (by omega) ?_; conv => whnf)
          | ((with_reducible refine atRet ?_); refine Nx.ret [0,1,2,3] Tryz.func17 rfl rfl ?_; (exact ⟨by rw [decide_eq_true heq]; rfl, rfl⟩))
          | ((with_reducible refine atOps ?_); refine go 200 ?_; conv => whnf)
          | ((with_reducible refine atPlan ?_); refine Nx.runP (n := 200) rfl (by repeat (first | exact subB.nil _ | refine subB.cons rfl ?_)) ?_; conv => whnf)
          | ((with_reducible refine atAftL ?_); refine Nx.late ?_)
          | ((fail_if_success (with_reducible refine atRet ?_)); (fail_if_success (with_reducible refine atLoop ?_)); (fail_if_success (with_reducible refine atIn ?_)); (fail_if_success (with_reducible refine atDrawn ?_)); (fail_if_success (with_reducible refine atEnd ?_)); (with_reducible refine atRun ?_); refine go 200 ?_; conv => whnf))
  · have hne : o ≠ p := fun e => hh (by subst e; exact ⟨rfl, rfl, rfl, rfl, rfl, rfl, rfl, rfl, rfl, rfl⟩)
    refine FnOk.start Tryz.func17 rfl rfl rfl rfl fun F os tape output => ?_
    refine go 200 ?_
    conv => whnf
    repeat' (first
      | ((with_reducible refine atBr ?_); (first | refine BrM.t rfl ?_ | refine BrM.f rfl ?_ | refine BrM.dec (fun _ => ?_) (fun _ => ?_) | refine BrM.mk (fun _ => ?_) (fun _ => ?_)) <;> conv => whnf)
      | ((with_reducible refine atAr ?_); refine Ar.i64 (by omega) (by omega) ?_; conv => whnf)
      | ((with_reducible refine atRet ?_); refine Nx.ret [0,1,2,3] Tryz.func17 rfl rfl ?_; (exact ⟨by rw [decide_eq_false hne]; rfl, rfl⟩))
      | ((with_reducible refine atOps ?_); refine go 200 ?_; conv => whnf)
      | ((with_reducible refine atPlan ?_); refine Nx.runP (n := 200) rfl (by repeat (first | exact subB.nil _ | refine subB.cons rfl ?_)) ?_; conv => whnf)
      | ((with_reducible refine atAftL ?_); refine Nx.late ?_)
      | ((fail_if_success (with_reducible refine atRet ?_)); (fail_if_success (with_reducible refine atLoop ?_)); (fail_if_success (with_reducible refine atIn ?_)); (fail_if_success (with_reducible refine atDrawn ?_)); (fail_if_success (with_reducible refine atEnd ?_)); (with_reducible refine atRun ?_); refine go 200 ?_; conv => whnf))
    all_goals exact absurd ⟨by omega, by omega, by omega, by omega, by omega, by omega, by omega, by omega, by omega, by omega⟩ hh
end Go.Proofs.YtkfnbpbhcnekiaaGreatDoor

/- Print of script. -/
namespace Go.Proofs.YtkfnbpbhcnekiaaGreatDoor
open Go.RowKit Go.Lib
set_option maxRecDepth 20000
set_option maxHeartbeats 4000000

/-- The words of a line but for those of lists. -/
def headW (k : Nat) (o : Ln) : List Str := word k :: ((shape k).filter (fun c => c != 97 && c != 101)).flatMap (fieldW o)
theorem lineW_head (o : Ln) {k : Nat} (hk : k < 17) (he : o.deed = k) : lineW o = headW k o ++ (if 2 ≤ k ∧ k ≤ 5 then o.after.map itoa else []) ++ (if k = 6 ∨ k = 7 then o.evs.map evW else []) := by
  have e : o.deed.toNat = k := by omega
  unfold lineW headW
  rw [e]
  clear e he
  match k, hk with
  | 0, _ => simp [shape, shapeL, fieldW]
  | 1, _ => simp [shape, shapeL, fieldW]
  | 2, _ => simp [shape, shapeL, fieldW]
  | 3, _ => simp [shape, shapeL, fieldW]
  | 4, _ => simp [shape, shapeL, fieldW]
  | 5, _ => simp [shape, shapeL, fieldW]
  | 6, _ => simp [shape, shapeL, fieldW]
  | 7, _ => simp [shape, shapeL, fieldW]
  | 8, _ => simp [shape, shapeL, fieldW]
  | 9, _ => simp [shape, shapeL, fieldW]
  | 10, _ => simp [shape, shapeL, fieldW]
  | 11, _ => simp [shape, shapeL, fieldW]
  | 12, _ => simp [shape, shapeL, fieldW]
  | 13, _ => simp [shape, shapeL, fieldW]
  | 14, _ => simp [shape, shapeL, fieldW]
  | 15, _ => simp [shape, shapeL, fieldW]
  | 16, _ => simp [shape, shapeL, fieldW]
  | k + 17, hk => exact absurd hk (by omega)
theorem shape_k : ∀ k < 17, (107 ∈ shape k ↔ k = 0) ∧ (119 ∈ shape k ↔ 1 ≤ k ∧ k ≤ 4) ∧ (97 ∈ shape k ↔ 2 ≤ k ∧ k ≤ 5) ∧ (101 ∈ shape k ↔ k = 6 ∨ k = 7) := by decide
/-- What is wrong with a line, and how it is printed. -/
theorem print_wrong {o : Ln} (h : wrongA o ≠ 0) : printA o = .error (wrongA o) := by
  unfold wrongA at h ⊢
  unfold printA
  by_cases h1 : wA o
  · rw [if_pos h1]
    unfold wA at h1
    rw [if_pos h1]
  · rw [if_neg h1] at h ⊢
    unfold wA at h1
    rw [if_neg h1]
    obtain ⟨k, hk, he⟩ := deed_nat h1
    obtain ⟨s1, s2, s3, s4⟩ := shape_k k hk
    have e : o.deed.toNat = k := by omega
    rw [e]
    simp only [s1, s2, s3, s4]
    by_cases h2 : wB o
    · rw [if_pos h2]
      unfold wB at h2
      rw [if_pos (by omega)]
    · rw [if_neg h2] at h ⊢
      unfold wB at h2
      by_cases h3 : wC o
      · rw [if_pos h3]
        unfold wC at h3
        rw [if_pos (by omega)]
      · rw [if_neg h3] at h ⊢
        unfold wC at h3
        rw [if_neg (by omega)]
        by_cases h4 : wD o
        · rw [if_pos h4]
          unfold wD at h4
          rw [if_pos (by omega)]
        · rw [if_neg h4] at h
          exact absurd rfl h
structure Fine (o : Ln) (k : Nat) : Prop where
  lt : k < 17
  e : o.deed = k
  r : k = 0 → o.ring = 0 ∨ o.ring = 1
  w : 1 ≤ k ∧ k ≤ 4 → 0 ≤ o.way.kind ∧ o.way.kind ≤ 3
  a : 2 ≤ k ∧ k ≤ 5 → o.after.length ≤ 64
  v : k = 6 ∨ k = 7 → o.evs.length ≤ 64
  p : printA o = .ok (joinC 32 (lineW o))
theorem print_fine {o : Ln} (h : wrongA o = 0) : ∃ k, Fine o k := by
  unfold wrongA at h
  by_cases h1 : wA o
  · rw [if_pos h1] at h; exact absurd h (by decide)
  rw [if_neg h1] at h
  by_cases h2 : wB o
  · rw [if_pos h2] at h; exact absurd h (by decide)
  rw [if_neg h2] at h
  by_cases h3 : wC o
  · rw [if_pos h3] at h; exact absurd h (by decide)
  rw [if_neg h3] at h
  by_cases h4 : wD o
  · rw [if_pos h4] at h; exact absurd h (by decide)
  unfold wA at h1
  unfold wB at h2
  unfold wC at h3
  unfold wD at h4
  obtain ⟨k, hk, he⟩ := deed_nat h1
  obtain ⟨s1, s2, s3, s4⟩ := shape_k k hk
  have e : o.deed.toNat = k := by omega
  refine ⟨k, hk, he, fun h => by omega, fun h => by omega, fun h => by omega, fun h => by omega, ?_⟩
  unfold printA
  rw [if_neg h1, e]
  simp only [s1, s2, s3, s4]
  rw [if_neg (by omega), if_neg (by omega)]
theorem joinC_len {M : Nat} {c : UInt8} : ∀ {l : List Str}, (∀ w ∈ l, w.length ≤ M) → (joinC c l).length ≤ l.length * (M + 1)
  | [], _ => by simp [joinC]
  | [w], h => by have := h w (by simp); simp [joinC]; omega
  | w :: v :: r, h => by
    have h1 := h w (by simp)
    have h2 := joinC_len (c := c) (l := v :: r) (fun u hu => h u (List.mem_cons_of_mem _ hu))
    rw [joinC_cons _ _ (by simp), List.length_append, List.length_cons]
    rw [show (w :: v :: r).length = (v :: r).length + 1 from rfl, Nat.add_mul]
    omega
theorem wayW_len {w : Way} (h1 : I64n w.tries) (h2 : I64n w.time) : (wayW w).length ≤ 26 := by
  have l1 := itoa_len h1
  have l2 := itoa_len h2
  unfold wayW
  split
  · simp [yieldW]; omega
  · split
    · simp [timedW]; omega
    · unfold kindName
      split
      · rename_i h
        have : w.kind.toNat = 0 ∨ w.kind.toNat = 1 ∨ w.kind.toNat = 2 ∨ w.kind.toNat = 3 := by omega
        rcases this with e | e | e | e <;> rw [e] <;> simp [kindL]
      · simp
theorem evW_len {x : Ev} (h : I64n x.key ∧ I64n x.val) : (evW x).length ≤ 41 := by
  have l1 := itoa_len h.1
  have l2 := itoa_len h.2
  unfold evW
  simp; omega
theorem fieldW_len {o : Ln} (hw : o.wf) (c : UInt8) : ∀ w ∈ fieldW o c, w.length ≤ 41 := by
  intro w h
  unfold fieldW at h
  split at h
  · rw [List.mem_singleton] at h; subst h; have := itoa_len hw.n; omega
  split at h
  · rw [List.mem_singleton] at h; subst h; unfold ringName; split <;> simp [ringL]
  split at h
  · rw [List.mem_singleton] at h; subst h; have := itoa_len hw.ring; omega
  split at h
  · rw [List.mem_singleton] at h; subst h; have := wayW_len hw.tries hw.time; omega
  split at h
  · rw [List.mem_singleton] at h; subst h; have := itoa_len hw.who; omega
  split at h
  · rw [List.mem_singleton] at h; subst h; have := itoa_len hw.at_; omega
  split at h
  · obtain ⟨x, hx, rfl⟩ := List.mem_map.1 h; have := itoa_len (hw.after x hx); omega
  split at h
  · obtain ⟨x, hx, rfl⟩ := List.mem_map.1 h; exact evW_len (hw.evs x hx)
  · cases h
theorem lineW_len {o : Ln} (hw : o.wf) (hk : o.deed.toNat < 17) : ∀ w ∈ lineW o, w.length ≤ 41 := by
  intro w h
  rcases List.mem_cons.1 h with rfl | h
  · have := (word_no _ hk).2.2.2.2; omega
  · obtain ⟨c, _, hc⟩ := List.mem_flatMap.1 h
    exact fieldW_len hw c w hc
theorem headW_len (o : Ln) {k : Nat} (hk : k < 17) : (headW k o).length ≤ 4 := by
  unfold headW
  match k, hk with
  | 0, _ => simp [shape, shapeL, fieldW]
  | 1, _ => simp [shape, shapeL, fieldW]
  | 2, _ => simp [shape, shapeL, fieldW]
  | 3, _ => simp [shape, shapeL, fieldW]
  | 4, _ => simp [shape, shapeL, fieldW]
  | 5, _ => simp [shape, shapeL, fieldW]
  | 6, _ => simp [shape, shapeL, fieldW]
  | 7, _ => simp [shape, shapeL, fieldW]
  | 8, _ => simp [shape, shapeL, fieldW]
  | 9, _ => simp [shape, shapeL, fieldW]
  | 10, _ => simp [shape, shapeL, fieldW]
  | 11, _ => simp [shape, shapeL, fieldW]
  | 12, _ => simp [shape, shapeL, fieldW]
  | 13, _ => simp [shape, shapeL, fieldW]
  | 14, _ => simp [shape, shapeL, fieldW]
  | 15, _ => simp [shape, shapeL, fieldW]
  | 16, _ => simp [shape, shapeL, fieldW]
  | k + 17, hk => exact absurd hk (by omega)
theorem Fine.len {o : Ln} {k : Nat} (h : Fine o k) : (lineW o).length ≤ 68 := by
  have h1 := headW_len o h.lt
  have h2 := h.a
  have h3 := h.v
  rw [lineW_head o h.lt h.e, List.length_append, List.length_append]
  by_cases c1 : 2 ≤ k ∧ k ≤ 5
  · rw [if_pos c1, if_neg (by omega), List.length_map, List.length_nil]
    have := h2 c1; omega
  · rw [if_neg c1]
    by_cases c2 : k = 6 ∨ k = 7
    · rw [if_pos c2, List.length_map, List.length_nil]
      have := h3 c2; omega
    · rw [if_neg c2, List.length_nil]; omega
theorem Fine.join {o : Ln} {k : Nat} (h : Fine o k) (hw : o.wf) : (joinC 32 (lineW o)).length ≤ 10000 := by
  have e : o.deed.toNat < 17 := by have := h.lt; have := h.e; omega
  have h1 := joinC_len (c := 32) (lineW_len hw e)
  have h2 := h.len
  have : (lineW o).length * (41 + 1) ≤ 68 * 42 := Nat.mul_le_mul h2 (Nat.le_refl _)
  omega
structure PnX where
  j : Nat
  l : List Str
  A : Option Addr
  c : Nat
structure PnI {α : Type} (L : List Str) (f : α → Str) (zs : List α) (x : PnX) : Prop where
  j : x.j ≤ zs.length
  e : x.l = L ++ (zs.take x.j).map f
theorem PnI.step {α : Type} {L : List Str} {f : α → Str} {zs : List α} {x : PnX} (h : PnI L f zs x) (hj : x.j < zs.length) (A : Option Addr) (c : Nat) : PnI L f zs ⟨x.j + 1, x.l ++ [f zs[x.j]], A, c⟩ :=
  ⟨hj, by show x.l ++ _ = _; rw [h.e, List.take_succ_eq_append_getElem hj, List.map_append, List.append_assoc]; rfl⟩
theorem PnI.fin {α : Type} {L : List Str} {f : α → Str} {zs : List α} {x : PnX} (h : PnI L f zs x) (hj : ¬ x.j < zs.length) : x.l = L ++ zs.map f := by
  rw [h.e, List.take_of_length_le (by omega)]
theorem PnI.len {α : Type} {L : List Str} {f : α → Str} {zs : List α} {x : PnX} (h : PnI L f zs x) : x.l.length ≤ L.length + zs.length := by
  rw [h.e, List.length_append, List.length_map, List.length_take]; omega
section
variable {g : Cx} {env : Env} {mem : Mem} {bnd : Bnd} {L L' : Res} {N : Act → World → Prop}
/-- A slice of the call's own whose block's number is known. -/
theorem Nx.realS (s : Nat) {l o n c b : Nat} (hl : look env s = some (.c (.locs l o n c))) (hb : lookB bnd l = some b) (h : Nx g ((s, .c (.v (.slice (some ⟨b, o, none⟩) n c))) :: env) mem bnd L N) : Nx g env mem bnd L N := by
  intro β a w hr
  refine h β a w ⟨hr.defers, hr.size, fun k x hx => ?_, hr.bnd, hr.os, hr.tape, hr.output, hr.sat⟩
  rw [look_cons] at hx
  split at hx
  · rename_i e
    subst e
    cases hx
    have := hr.env _ _ hl
    rw [this]
    simp only [SV.den, Ce.den, hr.bnd l b hb]
  · exact hr.env k x hx
end
theorem own_blk {e : TypeId} {b : Nat} {cells : List Value} (h : cells.length ≤ maxLen) : ∀ r m, blk b (.cells cells.toArray e (0, 0)) r m → ownS e (some ⟨b, 0, none⟩) cells.length cells.length 1 cells r m := by
  intro r m hb
  refine ⟨by simp, .inr ⟨_, _, rfl, hb, Nat.le_refl _, h, by simp, by rw [Nat.mul_one]; exact List.take_of_length_le (by simp)⟩⟩
attribute [local irreducible] Nx Ar BrM
def PpPost (m : PH) (S1 S2 : SP) (r : Except Int Str) (v : Value) (Q : List SP) : Prop :=
  match r with
  | .ok t => v = .tuple #[str t, .nilIface] ∧ Q = [roAll m, S1, S2]
  | .error e => ∃ b q, v = .tuple #[str [], .iface 114 (.pointer (some ⟨b, 0, none⟩))] ∧ Q = [roAll m, S1, S2, errB b q e]
theorem Print_ok {m : PH} (hG : Glo m) (S1 S2 : SP) (o : Ln) (hw : o.wf) (A B : Option Addr) (c d : Nat) (h1 : Sees S1 A o.after.length 1 (intsV o.after)) (h2 : Sees S2 B o.evs.length 2 (evsV o.evs)) (l1 : o.after.length ≤ 1000000) (l2 : o.evs.length ≤ 1000000) :
    FnOk Tryz.prog 11 [lnV o A c B d] [roAll m, S1, S2] (PpPost m S1 S2 (printA o)) := by
  rw [← ints_flat] at h1
  by_cases hwr : wrongA o = 0
  · obtain ⟨k, hf⟩ := print_fine hwr
    have hp := hf.p
    obtain ⟨de, wh, ri, nn, tm, wy, af, es⟩ := o
    have hk := hf.lt
    have he : de = (k : Int) := hf.e
    subst he
    rw [hp]
    simp only at h1 h2 l1 l2
    show FnOk Tryz.prog 11 [.agg (lnE (k : Int) wh ri nn tm wy af.length A c es.length B d).toArray] [roAll m, S1, S2] _
    obtain ⟨o, hoe⟩ : ∃ o : Ln, o = ⟨(k : Int), wh, ri, nn, tm, wy, af, es⟩ := ⟨_, rfl⟩
    rw [← hoe] at hp hw hwr hf
    rw [show (lineW ⟨(k : Int), wh, ri, nn, tm, wy, af, es⟩) = lineW o by rw [hoe]]
    refine FnOk.start Tryz.func11 rfl rfl rfl rfl fun F os tape output => ?_
    refine go 200 ?_
    conv => whnf
    have hr : FnOk Tryz.prog 27 [lnV ⟨(k : Int), wh, ri, nn, tm, wy, af, es⟩ A c B d] [] (RightPost o) := by rw [hoe]; exact right_ok _ A B c d
    refine Nx.call [] [] rfl rfl rfl rfl rfl (hr) rfl fun v Q hQ => ?_
    obtain ⟨_, rfl, rfl⟩ := (show _ ∨ _ from hQ).resolve_right (fun h => h.1 hwr)
    have hkl : k < (strs wordL).length := by simp [wordL]; omega
    have hsw : SeesAt (roAll m) 0 k [str (word k)] := by
      have := hG.words.sees hkl
      have e : (strs wordL)[k] = str (word k) := by
        have hk' : k < wordL.length := by simpa using hkl
        simp only [List.getElem_map]
        rw [word, List.getD_eq_getElem?_getD, List.getElem?_eq_getElem hk']; rfl
      rwa [e] at this
    repeat' (first
      | ((with_reducible refine atBr ?_); refine BrM.not (by omega) ?_; conv => whnf)
      | ((with_reducible refine atBr ?_); (first | refine BrM.t rfl ?_ | refine BrM.f rfl ?_ | refine BrM.dec (fun _ => ?_) (fun _ => ?_) | refine BrM.mk (fun _ => ?_) (fun _ => ?_)) <;> conv => whnf)
      | ((with_reducible refine atAr ?_); refine Ar.i64 (by omega) (by omega) ?_; conv => whnf)
      | ((with_reducible refine atIdx ?_); refine Nx.gidx (q := k) (sz := 1) rfl rfl rfl Tryz.underlying74 rfl rfl (by omega) (by omega) (by omega) ?_)
      | ((with_reducible refine atOps ?_); refine go 200 ?_; conv => whnf)
      | ((with_reducible refine atPlan ?_); refine Nx.runP (n := 200) rfl (by repeat (first | exact subB.nil _ | refine subB.cons rfl ?_)) ?_; conv => whnf)
      | ((with_reducible refine atAftL ?_); refine Nx.late ?_)
      | ((fail_if_success (with_reducible refine atRet ?_)); (fail_if_success (with_reducible refine atLoop ?_)); (fail_if_success (with_reducible refine atIn ?_)); (fail_if_success (with_reducible refine atDrawn ?_)); (fail_if_success (with_reducible refine atEnd ?_)); (with_reducible refine atRun ?_); refine go 200 ?_; conv => whnf))
    refine Nx.load1 0 rfl rfl rfl rfl hsw rfl ?_
    refine goR 200 ?_
    conv => whnf
    refine Nx.bind (l := 19) (fun b => ?_) rfl
    refine Nx.realS 5 (l := 19) rfl rfl ?_
    refine Nx.out 19 rfl rfl rfl rfl ?_
    refine Nx.turn [19] [5] [ownS 9 (some ⟨b, 0, none⟩) 1 1 1 [str (word k)]] rfl (fun r h hs => ?_) ?_
    · obtain ⟨r1, g1, g2, a1, a2, a3, a4, a5, a6⟩ := hs
      exact ⟨r1, g1, g2, a1, a2, a3, a4, own_blk (cells := [str (word k)]) (by show 1 ≤ maxLen; decide) _ _ a5, a6⟩
    refine goR 200 ?_
    conv => whnf
    have hn : I64n nn := by have := hw.n; rwa [hoe] at this
    have hri : I64n ri := by have := hw.ring; rwa [hoe] at this
    have hwh : I64n wh := by have := hw.who; rwa [hoe] at this
    have htm : I64n tm := by have := hw.at_; rwa [hoe] at this
    have hwt : I64n wy.tries := by have := hw.tries; rwa [hoe] at this
    have hwu : I64n wy.time := by have := hw.time; rwa [hoe] at this
    refine Nx.joinX (X := {x : Option Addr × Nat // True}) (E := fun x => [(1, .c (.loc 1 0)), (2, sv []), (3, .c (.v .nilIface)), (5, sl x.1.1 (headW k o).length x.1.2)])
      (M := fun x => [(1, 37, (lnE (k : Int) wh ri nn tm wy af.length A c es.length B d).map .v)]) (B := [])
      (R := fun x => [(0, roAll m), (1, S1), (2, S2), (5, ownS 9 x.1.1 (headW k o).length x.1.2 1 (strs (headW k o)))]) (fun K => ?_) ?_
    · clear hp hr hQ hsw hkl
      match k, hk, hf, hoe, K with
      | 0, _, hf, hoe, K =>
        have hr0 : ri = 0 ∨ ri = 1 := by have := hf.r rfl; rwa [hoe] at this
        rcases hr0 with rfl | rfl
        · have hsk : SeesAt (roAll m) 1 0 [str (ringL.getD 0 [])] := hG.kinds.sees (j := 0) (by decide)
          have hh : headW 0 o = [word 0, itoa nn, ringL.getD 0 []] := by rw [hoe]; rfl
          rw [hh] at K
          repeat' (first
            | ((with_reducible refine Nx.weak K ?_ ?_ ?_ ?_) <;> (first | exact subM.nil _ | exact subB.nil _ | exact subR.nil _ | ((repeat (first | exact subE.nil _ | refine subE.cons rfl rfl ?_ | refine subE.cons' rfl (fun _ => rfl) ?_ | (refine subE.cons rfl ?_ ?_; · (simp; done)))); done) | ((repeat (first | exact subM.nil _ | refine subM.cons rfl rfl rfl ?_)); done) | ((repeat (first | exact subB.nil _ | refine subB.cons rfl ?_)); done) | ((repeat (first | exact subR.nil _ | refine subR.cons rfl rfl ?_)); done) | omega | (dsimp only; omega) | skip))
            | ((with_reducible refine atBr ?_); (first | refine BrM.t rfl ?_ | refine BrM.f rfl ?_ | refine BrM.dec (fun _ => ?_) (fun _ => ?_) | refine BrM.mk (fun _ => ?_) (fun _ => ?_)) <;> conv => whnf)
            | ((with_reducible refine atAr ?_); refine Ar.i64 (by omega) (by omega) ?_; conv => whnf)
            | ((with_reducible refine atDrawn ?_); refine Nx.bind (l := 1) (fun _ => ?_) rfl; refine Nx.drawn0 [0] [.pure 0, .pure 1, .held 2, .pure 4, .held 5, .pure 6, .held 7, .ex 3 true, .ex 8 true, .ex 9 true, .pure 10] rfl (by kernel_rfl) rfl (by kernel_rfl) rfl (by repeat (first | exact subB.nil _ | refine subB.cons rfl ?_)) rfl ?_)
            | ((with_reducible refine (atCall 28) ?_); refine Nx.call [0] [0] rfl rfl rfl rfl rfl ((number_ok hG nn hn)) rfl fun v Q hQ => ?_; obtain ⟨rfl, rfl⟩ := hQ)
            | ((with_reducible refine atAftK ?_); refine Nx.keepN [0] rfl (by repeat (first | exact subB.nil _ | refine subB.cons rfl ?_)) (by repeat (first | exact subM.nil _ | refine subM.cons rfl rfl rfl ?_)) rfl ?_)
            | ((with_reducible refine atHoIdx ?_); refine Nx.hoGidx (q := 0) (sz := 1) rfl rfl rfl Tryz.underlying75 rfl rfl (by omega) (by omega) (by omega) ?_)
            | ((with_reducible refine atHoLoad ?_); first | (refine Nx.hoLoad1 rfl rfl rfl rfl List.mem_cons_self (SeesAt.sub (by assumption) _ rfl) rfl ?_) | (refine Nx.hoLoad1 rfl rfl rfl rfl List.mem_cons_self (by assumption) rfl ?_) | (refine Nx.hoLoad rfl rfl rfl rfl List.mem_cons_self (by assumption) rfl rfl ?_) | (refine Nx.hoLoad1 rfl rfl rfl rfl (List.mem_cons_of_mem _ List.mem_cons_self) (SeesAt.sub (by assumption) _ rfl) rfl ?_) | (refine Nx.hoLoad1 rfl rfl rfl rfl (List.mem_cons_of_mem _ List.mem_cons_self) (by assumption) rfl ?_) | (refine Nx.hoLoad rfl rfl rfl rfl (List.mem_cons_of_mem _ List.mem_cons_self) (by assumption) rfl rfl ?_) | (refine Nx.hoLoad1 rfl rfl rfl rfl (List.mem_cons_of_mem _ (List.mem_cons_of_mem _ List.mem_cons_self)) (SeesAt.sub (by assumption) _ rfl) rfl ?_) | (refine Nx.hoLoad1 rfl rfl rfl rfl (List.mem_cons_of_mem _ (List.mem_cons_of_mem _ List.mem_cons_self)) (by assumption) rfl ?_) | (refine Nx.hoLoad rfl rfl rfl rfl (List.mem_cons_of_mem _ (List.mem_cons_of_mem _ List.mem_cons_self)) (by assumption) rfl rfl ?_) | (refine Nx.hoLoad1 rfl rfl rfl rfl (List.mem_cons_of_mem _ (List.mem_cons_of_mem _ (List.mem_cons_of_mem _ List.mem_cons_self))) (SeesAt.sub (by assumption) _ rfl) rfl ?_) | (refine Nx.hoLoad1 rfl rfl rfl rfl (List.mem_cons_of_mem _ (List.mem_cons_of_mem _ (List.mem_cons_of_mem _ List.mem_cons_self))) (by assumption) rfl ?_) | (refine Nx.hoLoad rfl rfl rfl rfl (List.mem_cons_of_mem _ (List.mem_cons_of_mem _ (List.mem_cons_of_mem _ List.mem_cons_self))) (by assumption) rfl rfl ?_))
            | ((with_reducible refine atApp ?_); refine Nx.append 5 (sz := 1) (by_ := 16) (news := [str (itoa nn), str (ringL.getD 0 [])]) rfl rfl rfl rfl rfl Tryz.underlying56 rfl rfl rfl rfl rfl (by unfold maxLen; omega) (by omega) fun A' c'' => ?_)
            | ((with_reducible refine Nx.weak (K ⟨(A', c''), trivial⟩) ?_ ?_ ?_ ?_) <;> (first | (refine subE.cons rfl rfl ?_; refine subE.cons rfl rfl ?_; refine subE.cons rfl rfl ?_; exact subE.cons rfl rfl (subE.nil _)) | exact subM.cons rfl rfl rfl (subM.nil _) | exact subB.nil _ | exact subR.cons rfl rfl (subR.cons rfl rfl (subR.cons rfl rfl (subR.cons rfl rfl (subR.nil _))))))
            | ((with_reducible refine atOps ?_); refine goR 200 ?_; conv => whnf)
            | ((with_reducible refine atPlan ?_); refine Nx.runP (n := 200) rfl (by repeat (first | exact subB.nil _ | refine subB.cons rfl ?_)) ?_; conv => whnf)
            | ((with_reducible refine atAftL ?_); refine Nx.late ?_)
            | ((fail_if_success (with_reducible refine atRet ?_)); (fail_if_success (with_reducible refine atLoop ?_)); (fail_if_success (with_reducible refine atIn ?_)); (fail_if_success (with_reducible refine atDrawn ?_)); (fail_if_success (with_reducible refine atEnd ?_)); (with_reducible refine atRun ?_); refine goR 1 ?_; conv => whnf))
        · have hsk : SeesAt (roAll m) 1 1 [str (ringL.getD 1 [])] := hG.kinds.sees (j := 1) (by decide)
          have hh : headW 0 o = [word 0, itoa nn, ringL.getD 1 []] := by rw [hoe]; rfl
          rw [hh] at K
          repeat' (first
            | ((with_reducible refine Nx.weak K ?_ ?_ ?_ ?_) <;> (first | exact subM.nil _ | exact subB.nil _ | exact subR.nil _ | ((repeat (first | exact subE.nil _ | refine subE.cons rfl rfl ?_ | refine subE.cons' rfl (fun _ => rfl) ?_ | (refine subE.cons rfl ?_ ?_; · (simp; done)))); done) | ((repeat (first | exact subM.nil _ | refine subM.cons rfl rfl rfl ?_)); done) | ((repeat (first | exact subB.nil _ | refine subB.cons rfl ?_)); done) | ((repeat (first | exact subR.nil _ | refine subR.cons rfl rfl ?_)); done) | omega | (dsimp only; omega) | skip))
            | ((with_reducible refine atBr ?_); (first | refine BrM.t rfl ?_ | refine BrM.f rfl ?_ | refine BrM.dec (fun _ => ?_) (fun _ => ?_) | refine BrM.mk (fun _ => ?_) (fun _ => ?_)) <;> conv => whnf)
            | ((with_reducible refine atAr ?_); refine Ar.i64 (by omega) (by omega) ?_; conv => whnf)
            | ((with_reducible refine atDrawn ?_); refine Nx.bind (l := 1) (fun _ => ?_) rfl; refine Nx.drawn0 [0] [.pure 0, .pure 1, .held 2, .pure 4, .held 5, .pure 6, .held 7, .ex 3 true, .ex 8 true, .ex 9 true, .pure 10] rfl (by kernel_rfl) rfl (by kernel_rfl) rfl (by repeat (first | exact subB.nil _ | refine subB.cons rfl ?_)) rfl ?_)
            | ((with_reducible refine (atCall 28) ?_); refine Nx.call [0] [0] rfl rfl rfl rfl rfl ((number_ok hG nn hn)) rfl fun v Q hQ => ?_; obtain ⟨rfl, rfl⟩ := hQ)
            | ((with_reducible refine atAftK ?_); refine Nx.keepN [0] rfl (by repeat (first | exact subB.nil _ | refine subB.cons rfl ?_)) (by repeat (first | exact subM.nil _ | refine subM.cons rfl rfl rfl ?_)) rfl ?_)
            | ((with_reducible refine atHoIdx ?_); refine Nx.hoGidx (q := 1) (sz := 1) rfl rfl rfl Tryz.underlying75 rfl rfl (by omega) (by omega) (by omega) ?_)
            | ((with_reducible refine atHoLoad ?_); first | (refine Nx.hoLoad1 rfl rfl rfl rfl List.mem_cons_self (SeesAt.sub (by assumption) _ rfl) rfl ?_) | (refine Nx.hoLoad1 rfl rfl rfl rfl List.mem_cons_self (by assumption) rfl ?_) | (refine Nx.hoLoad rfl rfl rfl rfl List.mem_cons_self (by assumption) rfl rfl ?_) | (refine Nx.hoLoad1 rfl rfl rfl rfl (List.mem_cons_of_mem _ List.mem_cons_self) (SeesAt.sub (by assumption) _ rfl) rfl ?_) | (refine Nx.hoLoad1 rfl rfl rfl rfl (List.mem_cons_of_mem _ List.mem_cons_self) (by assumption) rfl ?_) | (refine Nx.hoLoad rfl rfl rfl rfl (List.mem_cons_of_mem _ List.mem_cons_self) (by assumption) rfl rfl ?_) | (refine Nx.hoLoad1 rfl rfl rfl rfl (List.mem_cons_of_mem _ (List.mem_cons_of_mem _ List.mem_cons_self)) (SeesAt.sub (by assumption) _ rfl) rfl ?_) | (refine Nx.hoLoad1 rfl rfl rfl rfl (List.mem_cons_of_mem _ (List.mem_cons_of_mem _ List.mem_cons_self)) (by assumption) rfl ?_) | (refine Nx.hoLoad rfl rfl rfl rfl (List.mem_cons_of_mem _ (List.mem_cons_of_mem _ List.mem_cons_self)) (by assumption) rfl rfl ?_) | (refine Nx.hoLoad1 rfl rfl rfl rfl (List.mem_cons_of_mem _ (List.mem_cons_of_mem _ (List.mem_cons_of_mem _ List.mem_cons_self))) (SeesAt.sub (by assumption) _ rfl) rfl ?_) | (refine Nx.hoLoad1 rfl rfl rfl rfl (List.mem_cons_of_mem _ (List.mem_cons_of_mem _ (List.mem_cons_of_mem _ List.mem_cons_self))) (by assumption) rfl ?_) | (refine Nx.hoLoad rfl rfl rfl rfl (List.mem_cons_of_mem _ (List.mem_cons_of_mem _ (List.mem_cons_of_mem _ List.mem_cons_self))) (by assumption) rfl rfl ?_))
            | ((with_reducible refine atApp ?_); refine Nx.append 5 (sz := 1) (by_ := 16) (news := [str (itoa nn), str (ringL.getD 1 [])]) rfl rfl rfl rfl rfl Tryz.underlying56 rfl rfl rfl rfl rfl (by unfold maxLen; omega) (by omega) fun A' c'' => ?_)
            | ((with_reducible refine Nx.weak (K ⟨(A', c''), trivial⟩) ?_ ?_ ?_ ?_) <;> (first | (refine subE.cons rfl rfl ?_; refine subE.cons rfl rfl ?_; refine subE.cons rfl rfl ?_; exact subE.cons rfl rfl (subE.nil _)) | exact subM.cons rfl rfl rfl (subM.nil _) | exact subB.nil _ | exact subR.cons rfl rfl (subR.cons rfl rfl (subR.cons rfl rfl (subR.cons rfl rfl (subR.nil _))))))
            | ((with_reducible refine atOps ?_); refine goR 200 ?_; conv => whnf)
            | ((with_reducible refine atPlan ?_); refine Nx.runP (n := 200) rfl (by repeat (first | exact subB.nil _ | refine subB.cons rfl ?_)) ?_; conv => whnf)
            | ((with_reducible refine atAftL ?_); refine Nx.late ?_)
            | ((fail_if_success (with_reducible refine atRet ?_)); (fail_if_success (with_reducible refine atLoop ?_)); (fail_if_success (with_reducible refine atIn ?_)); (fail_if_success (with_reducible refine atDrawn ?_)); (fail_if_success (with_reducible refine atEnd ?_)); (with_reducible refine atRun ?_); refine goR 1 ?_; conv => whnf))
      | 1, _, hf, hoe, K =>
        have hh : headW 1 o = [word 1, itoa ri, wayW wy] := by rw [hoe]; rfl
        rw [hh] at K
        repeat' (first
          | ((with_reducible refine Nx.weak K ?_ ?_ ?_ ?_) <;> (first | exact subM.nil _ | exact subB.nil _ | exact subR.nil _ | ((repeat (first | exact subE.nil _ | refine subE.cons rfl rfl ?_ | refine subE.cons' rfl (fun _ => rfl) ?_ | (refine subE.cons rfl ?_ ?_; · (simp; done)))); done) | ((repeat (first | exact subM.nil _ | refine subM.cons rfl rfl rfl ?_)); done) | ((repeat (first | exact subB.nil _ | refine subB.cons rfl ?_)); done) | ((repeat (first | exact subR.nil _ | refine subR.cons rfl rfl ?_)); done) | omega | (dsimp only; omega) | skip))
          | ((with_reducible refine atBr ?_); (first | refine BrM.t rfl ?_ | refine BrM.f rfl ?_ | refine BrM.dec (fun _ => ?_) (fun _ => ?_) | refine BrM.mk (fun _ => ?_) (fun _ => ?_)) <;> conv => whnf)
          | ((with_reducible refine atAr ?_); refine Ar.i64 (by omega) (by omega) ?_; conv => whnf)
          | ((with_reducible refine atDrawn ?_); refine Nx.bind (l := 1) (fun _ => ?_) rfl; refine Nx.drawn0 [0] [.pure 0, .pure 1, .held 2, .pure 4, .held 5, .ex 3 true, .ex 6 true, .ex 7 true, .ex 8 true, .pure 9] rfl (by kernel_rfl) rfl (by kernel_rfl) rfl (by repeat (first | exact subB.nil _ | refine subB.cons rfl ?_)) rfl ?_)
          | ((with_reducible refine (atCall 28) ?_); refine Nx.call [0] [0] rfl rfl rfl rfl rfl ((number_ok hG ri hri)) rfl fun v Q hQ => ?_; obtain ⟨rfl, rfl⟩ := hQ)
          | ((with_reducible refine (atCall 29) ?_); refine Nx.call [0] [0] rfl rfl rfl rfl rfl ((way_ok hG wy hwt hwu)) rfl fun v Q hQ => ?_; obtain ⟨rfl, rfl⟩ := hQ)
          | ((with_reducible refine atAftK ?_); refine Nx.keepN [0] rfl (by repeat (first | exact subB.nil _ | refine subB.cons rfl ?_)) (by repeat (first | exact subM.nil _ | refine subM.cons rfl rfl rfl ?_)) rfl ?_)
          | ((with_reducible refine atApp ?_); refine Nx.append 5 (sz := 1) (by_ := 16) (news := [str (itoa ri), str (wayW wy)]) rfl rfl rfl rfl rfl Tryz.underlying56 rfl rfl rfl rfl rfl (by unfold maxLen; omega) (by omega) fun A' c'' => ?_)
          | ((with_reducible refine Nx.weak (K ⟨(A', c''), trivial⟩) ?_ ?_ ?_ ?_) <;> (first | (refine subE.cons rfl rfl ?_; refine subE.cons rfl rfl ?_; refine subE.cons rfl rfl ?_; exact subE.cons rfl rfl (subE.nil _)) | exact subM.cons rfl rfl rfl (subM.nil _) | exact subB.nil _ | exact subR.cons rfl rfl (subR.cons rfl rfl (subR.cons rfl rfl (subR.cons rfl rfl (subR.nil _))))))
          | ((with_reducible refine atOps ?_); refine goR 200 ?_; conv => whnf)
          | ((with_reducible refine atPlan ?_); refine Nx.runP (n := 200) rfl (by repeat (first | exact subB.nil _ | refine subB.cons rfl ?_)) ?_; conv => whnf)
          | ((with_reducible refine atAftL ?_); refine Nx.late ?_)
          | ((fail_if_success (with_reducible refine atRet ?_)); (fail_if_success (with_reducible refine atLoop ?_)); (fail_if_success (with_reducible refine atIn ?_)); (fail_if_success (with_reducible refine atDrawn ?_)); (fail_if_success (with_reducible refine atEnd ?_)); (with_reducible refine atRun ?_); refine goR 1 ?_; conv => whnf))
      | 2, _, hf, hoe, K =>
        have hh : headW 2 o = [word 2, itoa ri, wayW wy, itoa nn] := by rw [hoe]; rfl
        rw [hh] at K
        repeat' (first
          | ((with_reducible refine Nx.weak K ?_ ?_ ?_ ?_) <;> (first | exact subM.nil _ | exact subB.nil _ | exact subR.nil _ | ((repeat (first | exact subE.nil _ | refine subE.cons rfl rfl ?_ | refine subE.cons' rfl (fun _ => rfl) ?_ | (refine subE.cons rfl ?_ ?_; · (simp; done)))); done) | ((repeat (first | exact subM.nil _ | refine subM.cons rfl rfl rfl ?_)); done) | ((repeat (first | exact subB.nil _ | refine subB.cons rfl ?_)); done) | ((repeat (first | exact subR.nil _ | refine subR.cons rfl rfl ?_)); done) | omega | (dsimp only; omega) | skip))
          | ((with_reducible refine atBr ?_); (first | refine BrM.t rfl ?_ | refine BrM.f rfl ?_ | refine BrM.dec (fun _ => ?_) (fun _ => ?_) | refine BrM.mk (fun _ => ?_) (fun _ => ?_)) <;> conv => whnf)
          | ((with_reducible refine atAr ?_); refine Ar.i64 (by omega) (by omega) ?_; conv => whnf)
          | ((with_reducible refine atDrawn ?_); refine Nx.bind (l := 1) (fun _ => ?_) rfl; refine Nx.drawn0 [0] [.pure 0, .pure 1, .held 2, .pure 4, .held 5, .pure 7, .held 8, .ex 3 true, .ex 6 true, .ex 9 true, .ex 10 true, .ex 11 true, .pure 12] rfl (by kernel_rfl) rfl (by kernel_rfl) rfl (by repeat (first | exact subB.nil _ | refine subB.cons rfl ?_)) rfl ?_)
          | ((with_reducible refine (atCall 28) ?_); refine Nx.call [0] [0] rfl rfl rfl rfl rfl ((number_ok hG ri hri)) rfl fun v Q hQ => ?_; obtain ⟨rfl, rfl⟩ := hQ)
          | ((with_reducible refine (atCall 29) ?_); refine Nx.call [0] [0] rfl rfl rfl rfl rfl ((way_ok hG wy hwt hwu)) rfl fun v Q hQ => ?_; obtain ⟨rfl, rfl⟩ := hQ)
          | ((with_reducible refine (atCall 28) ?_); refine Nx.call [0] [0] rfl rfl rfl rfl rfl ((number_ok hG nn hn)) rfl fun v Q hQ => ?_; obtain ⟨rfl, rfl⟩ := hQ)
          | ((with_reducible refine atAftK ?_); refine Nx.keepN [0] rfl (by repeat (first | exact subB.nil _ | refine subB.cons rfl ?_)) (by repeat (first | exact subM.nil _ | refine subM.cons rfl rfl rfl ?_)) rfl ?_)
          | ((with_reducible refine atApp ?_); refine Nx.append 5 (sz := 1) (by_ := 16) (news := [str (itoa ri), str (wayW wy), str (itoa nn)]) rfl rfl rfl rfl rfl Tryz.underlying56 rfl rfl rfl rfl rfl (by unfold maxLen; omega) (by omega) fun A' c'' => ?_)
          | ((with_reducible refine Nx.weak (K ⟨(A', c''), trivial⟩) ?_ ?_ ?_ ?_) <;> (first | (refine subE.cons rfl rfl ?_; refine subE.cons rfl rfl ?_; refine subE.cons rfl rfl ?_; exact subE.cons rfl rfl (subE.nil _)) | exact subM.cons rfl rfl rfl (subM.nil _) | exact subB.nil _ | exact subR.cons rfl rfl (subR.cons rfl rfl (subR.cons rfl rfl (subR.cons rfl rfl (subR.nil _))))))
          | ((with_reducible refine atOps ?_); refine goR 200 ?_; conv => whnf)
          | ((with_reducible refine atPlan ?_); refine Nx.runP (n := 200) rfl (by repeat (first | exact subB.nil _ | refine subB.cons rfl ?_)) ?_; conv => whnf)
          | ((with_reducible refine atAftL ?_); refine Nx.late ?_)
          | ((fail_if_success (with_reducible refine atRet ?_)); (fail_if_success (with_reducible refine atLoop ?_)); (fail_if_success (with_reducible refine atIn ?_)); (fail_if_success (with_reducible refine atDrawn ?_)); (fail_if_success (with_reducible refine atEnd ?_)); (with_reducible refine atRun ?_); refine goR 1 ?_; conv => whnf))
      | 3, _, hf, hoe, K =>
        have hh : headW 3 o = [word 3, itoa ri, wayW wy, itoa nn] := by rw [hoe]; rfl
        rw [hh] at K
        repeat' (first
          | ((with_reducible refine Nx.weak K ?_ ?_ ?_ ?_) <;> (first | exact subM.nil _ | exact subB.nil _ | exact subR.nil _ | ((repeat (first | exact subE.nil _ | refine subE.cons rfl rfl ?_ | refine subE.cons' rfl (fun _ => rfl) ?_ | (refine subE.cons rfl ?_ ?_; · (simp; done)))); done) | ((repeat (first | exact subM.nil _ | refine subM.cons rfl rfl rfl ?_)); done) | ((repeat (first | exact subB.nil _ | refine subB.cons rfl ?_)); done) | ((repeat (first | exact subR.nil _ | refine subR.cons rfl rfl ?_)); done) | omega | (dsimp only; omega) | skip))
          | ((with_reducible refine atBr ?_); (first | refine BrM.t rfl ?_ | refine BrM.f rfl ?_ | refine BrM.dec (fun _ => ?_) (fun _ => ?_) | refine BrM.mk (fun _ => ?_) (fun _ => ?_)) <;> conv => whnf)
          | ((with_reducible refine atAr ?_); refine Ar.i64 (by omega) (by omega) ?_; conv => whnf)
          | ((with_reducible refine atDrawn ?_); refine Nx.bind (l := 1) (fun _ => ?_) rfl; refine Nx.drawn0 [0] [.pure 0, .pure 1, .held 2, .pure 4, .held 5, .pure 7, .held 8, .ex 3 true, .ex 6 true, .ex 9 true, .ex 10 true, .ex 11 true, .pure 12] rfl (by kernel_rfl) rfl (by kernel_rfl) rfl (by repeat (first | exact subB.nil _ | refine subB.cons rfl ?_)) rfl ?_)
          | ((with_reducible refine (atCall 28) ?_); refine Nx.call [0] [0] rfl rfl rfl rfl rfl ((number_ok hG ri hri)) rfl fun v Q hQ => ?_; obtain ⟨rfl, rfl⟩ := hQ)
          | ((with_reducible refine (atCall 29) ?_); refine Nx.call [0] [0] rfl rfl rfl rfl rfl ((way_ok hG wy hwt hwu)) rfl fun v Q hQ => ?_; obtain ⟨rfl, rfl⟩ := hQ)
          | ((with_reducible refine (atCall 28) ?_); refine Nx.call [0] [0] rfl rfl rfl rfl rfl ((number_ok hG nn hn)) rfl fun v Q hQ => ?_; obtain ⟨rfl, rfl⟩ := hQ)
          | ((with_reducible refine atAftK ?_); refine Nx.keepN [0] rfl (by repeat (first | exact subB.nil _ | refine subB.cons rfl ?_)) (by repeat (first | exact subM.nil _ | refine subM.cons rfl rfl rfl ?_)) rfl ?_)
          | ((with_reducible refine atApp ?_); refine Nx.append 5 (sz := 1) (by_ := 16) (news := [str (itoa ri), str (wayW wy), str (itoa nn)]) rfl rfl rfl rfl rfl Tryz.underlying56 rfl rfl rfl rfl rfl (by unfold maxLen; omega) (by omega) fun A' c'' => ?_)
          | ((with_reducible refine Nx.weak (K ⟨(A', c''), trivial⟩) ?_ ?_ ?_ ?_) <;> (first | (refine subE.cons rfl rfl ?_; refine subE.cons rfl rfl ?_; refine subE.cons rfl rfl ?_; exact subE.cons rfl rfl (subE.nil _)) | exact subM.cons rfl rfl rfl (subM.nil _) | exact subB.nil _ | exact subR.cons rfl rfl (subR.cons rfl rfl (subR.cons rfl rfl (subR.cons rfl rfl (subR.nil _))))))
          | ((with_reducible refine atOps ?_); refine goR 200 ?_; conv => whnf)
          | ((with_reducible refine atPlan ?_); refine Nx.runP (n := 200) rfl (by repeat (first | exact subB.nil _ | refine subB.cons rfl ?_)) ?_; conv => whnf)
          | ((with_reducible refine atAftL ?_); refine Nx.late ?_)
          | ((fail_if_success (with_reducible refine atRet ?_)); (fail_if_success (with_reducible refine atLoop ?_)); (fail_if_success (with_reducible refine atIn ?_)); (fail_if_success (with_reducible refine atDrawn ?_)); (fail_if_success (with_reducible refine atEnd ?_)); (with_reducible refine atRun ?_); refine goR 1 ?_; conv => whnf))
      | 4, _, hf, hoe, K =>
        have hh : headW 4 o = [word 4, itoa ri, wayW wy] := by rw [hoe]; rfl
        rw [hh] at K
        repeat' (first
          | ((with_reducible refine Nx.weak K ?_ ?_ ?_ ?_) <;> (first | exact subM.nil _ | exact subB.nil _ | exact subR.nil _ | ((repeat (first | exact subE.nil _ | refine subE.cons rfl rfl ?_ | refine subE.cons' rfl (fun _ => rfl) ?_ | (refine subE.cons rfl ?_ ?_; · (simp; done)))); done) | ((repeat (first | exact subM.nil _ | refine subM.cons rfl rfl rfl ?_)); done) | ((repeat (first | exact subB.nil _ | refine subB.cons rfl ?_)); done) | ((repeat (first | exact subR.nil _ | refine subR.cons rfl rfl ?_)); done) | omega | (dsimp only; omega) | skip))
          | ((with_reducible refine atBr ?_); (first | refine BrM.t rfl ?_ | refine BrM.f rfl ?_ | refine BrM.dec (fun _ => ?_) (fun _ => ?_) | refine BrM.mk (fun _ => ?_) (fun _ => ?_)) <;> conv => whnf)
          | ((with_reducible refine atAr ?_); refine Ar.i64 (by omega) (by omega) ?_; conv => whnf)
          | ((with_reducible refine atDrawn ?_); refine Nx.bind (l := 1) (fun _ => ?_) rfl; refine Nx.drawn0 [0] [.pure 0, .pure 1, .held 2, .pure 4, .held 5, .ex 3 true, .ex 6 true, .ex 7 true, .ex 8 true, .pure 9] rfl (by kernel_rfl) rfl (by kernel_rfl) rfl (by repeat (first | exact subB.nil _ | refine subB.cons rfl ?_)) rfl ?_)
          | ((with_reducible refine (atCall 28) ?_); refine Nx.call [0] [0] rfl rfl rfl rfl rfl ((number_ok hG ri hri)) rfl fun v Q hQ => ?_; obtain ⟨rfl, rfl⟩ := hQ)
          | ((with_reducible refine (atCall 29) ?_); refine Nx.call [0] [0] rfl rfl rfl rfl rfl ((way_ok hG wy hwt hwu)) rfl fun v Q hQ => ?_; obtain ⟨rfl, rfl⟩ := hQ)
          | ((with_reducible refine atAftK ?_); refine Nx.keepN [0] rfl (by repeat (first | exact subB.nil _ | refine subB.cons rfl ?_)) (by repeat (first | exact subM.nil _ | refine subM.cons rfl rfl rfl ?_)) rfl ?_)
          | ((with_reducible refine atApp ?_); refine Nx.append 5 (sz := 1) (by_ := 16) (news := [str (itoa ri), str (wayW wy)]) rfl rfl rfl rfl rfl Tryz.underlying56 rfl rfl rfl rfl rfl (by unfold maxLen; omega) (by omega) fun A' c'' => ?_)
          | ((with_reducible refine Nx.weak (K ⟨(A', c''), trivial⟩) ?_ ?_ ?_ ?_) <;> (first | (refine subE.cons rfl rfl ?_; refine subE.cons rfl rfl ?_; refine subE.cons rfl rfl ?_; exact subE.cons rfl rfl (subE.nil _)) | exact subM.cons rfl rfl rfl (subM.nil _) | exact subB.nil _ | exact subR.cons rfl rfl (subR.cons rfl rfl (subR.cons rfl rfl (subR.cons rfl rfl (subR.nil _))))))
          | ((with_reducible refine atOps ?_); refine goR 200 ?_; conv => whnf)
          | ((with_reducible refine atPlan ?_); refine Nx.runP (n := 200) rfl (by repeat (first | exact subB.nil _ | refine subB.cons rfl ?_)) ?_; conv => whnf)
          | ((with_reducible refine atAftL ?_); refine Nx.late ?_)
          | ((fail_if_success (with_reducible refine atRet ?_)); (fail_if_success (with_reducible refine atLoop ?_)); (fail_if_success (with_reducible refine atIn ?_)); (fail_if_success (with_reducible refine atDrawn ?_)); (fail_if_success (with_reducible refine atEnd ?_)); (with_reducible refine atRun ?_); refine goR 1 ?_; conv => whnf))
      | 5, _, hf, hoe, K =>
        have hh : headW 5 o = [word 5] := by rw [hoe]; rfl
        rw [hh] at K
        repeat' (first
          | ((with_reducible refine Nx.weak K ?_ ?_ ?_ ?_) <;> (first | exact subM.nil _ | exact subB.nil _ | exact subR.nil _ | ((repeat (first | exact subE.nil _ | refine subE.cons rfl rfl ?_ | refine subE.cons' rfl (fun _ => rfl) ?_ | (refine subE.cons rfl ?_ ?_; · (simp; done)))); done) | ((repeat (first | exact subM.nil _ | refine subM.cons rfl rfl rfl ?_)); done) | ((repeat (first | exact subB.nil _ | refine subB.cons rfl ?_)); done) | ((repeat (first | exact subR.nil _ | refine subR.cons rfl rfl ?_)); done) | omega | (dsimp only; omega) | skip))
          | ((with_reducible refine atBr ?_); (first | refine BrM.t rfl ?_ | refine BrM.f rfl ?_ | refine BrM.dec (fun _ => ?_) (fun _ => ?_) | refine BrM.mk (fun _ => ?_) (fun _ => ?_)) <;> conv => whnf)
          | ((with_reducible refine atAr ?_); refine Ar.i64 (by omega) (by omega) ?_; conv => whnf)
          | (fail)
          | ((with_reducible refine Nx.weak (K ⟨(some ⟨b, 0, none⟩, 1), trivial⟩) ?_ ?_ ?_ ?_) <;> (first | (refine subE.cons rfl rfl ?_; refine subE.cons rfl rfl ?_; refine subE.cons rfl rfl ?_; exact subE.cons rfl rfl (subE.nil _)) | exact subM.cons rfl rfl rfl (subM.nil _) | exact subB.nil _ | exact subR.cons rfl rfl (subR.cons rfl rfl (subR.cons rfl rfl (subR.cons rfl rfl (subR.nil _))))))
          | ((with_reducible refine atOps ?_); refine goR 200 ?_; conv => whnf)
          | ((with_reducible refine atPlan ?_); refine Nx.runP (n := 200) rfl (by repeat (first | exact subB.nil _ | refine subB.cons rfl ?_)) ?_; conv => whnf)
          | ((with_reducible refine atAftL ?_); refine Nx.late ?_)
          | ((fail_if_success (with_reducible refine atRet ?_)); (fail_if_success (with_reducible refine atLoop ?_)); (fail_if_success (with_reducible refine atIn ?_)); (fail_if_success (with_reducible refine atDrawn ?_)); (fail_if_success (with_reducible refine atEnd ?_)); (with_reducible refine atRun ?_); refine goR 1 ?_; conv => whnf))
      | 6, _, hf, hoe, K =>
        have hh : headW 6 o = [word 6, itoa wh] := by rw [hoe]; rfl
        rw [hh] at K
        repeat' (first
          | ((with_reducible refine Nx.weak K ?_ ?_ ?_ ?_) <;> (first | exact subM.nil _ | exact subB.nil _ | exact subR.nil _ | ((repeat (first | exact subE.nil _ | refine subE.cons rfl rfl ?_ | refine subE.cons' rfl (fun _ => rfl) ?_ | (refine subE.cons rfl ?_ ?_; · (simp; done)))); done) | ((repeat (first | exact subM.nil _ | refine subM.cons rfl rfl rfl ?_)); done) | ((repeat (first | exact subB.nil _ | refine subB.cons rfl ?_)); done) | ((repeat (first | exact subR.nil _ | refine subR.cons rfl rfl ?_)); done) | omega | (dsimp only; omega) | skip))
          | ((with_reducible refine atBr ?_); (first | refine BrM.t rfl ?_ | refine BrM.f rfl ?_ | refine BrM.dec (fun _ => ?_) (fun _ => ?_) | refine BrM.mk (fun _ => ?_) (fun _ => ?_)) <;> conv => whnf)
          | ((with_reducible refine atAr ?_); refine Ar.i64 (by omega) (by omega) ?_; conv => whnf)
          | ((with_reducible refine (atCall 28) ?_); refine Nx.call [0] [0] rfl rfl rfl rfl rfl ((number_ok hG wh hwh)) rfl fun v Q hQ => ?_; obtain ⟨rfl, rfl⟩ := hQ)
          | ((with_reducible refine atApp ?_); refine Nx.append 5 (sz := 1) (by_ := 16) (news := [str (itoa wh)]) rfl rfl rfl rfl rfl Tryz.underlying56 rfl rfl rfl rfl rfl (by unfold maxLen; omega) (by omega) fun A' c'' => ?_)
          | ((with_reducible refine Nx.weak (K ⟨(A', c''), trivial⟩) ?_ ?_ ?_ ?_) <;> (first | (refine subE.cons rfl rfl ?_; refine subE.cons rfl rfl ?_; refine subE.cons rfl rfl ?_; exact subE.cons rfl rfl (subE.nil _)) | exact subM.cons rfl rfl rfl (subM.nil _) | exact subB.nil _ | exact subR.cons rfl rfl (subR.cons rfl rfl (subR.cons rfl rfl (subR.cons rfl rfl (subR.nil _))))))
          | ((with_reducible refine atOps ?_); refine goR 200 ?_; conv => whnf)
          | ((with_reducible refine atPlan ?_); refine Nx.runP (n := 200) rfl (by repeat (first | exact subB.nil _ | refine subB.cons rfl ?_)) ?_; conv => whnf)
          | ((with_reducible refine atAftL ?_); refine Nx.late ?_)
          | ((fail_if_success (with_reducible refine atRet ?_)); (fail_if_success (with_reducible refine atLoop ?_)); (fail_if_success (with_reducible refine atIn ?_)); (fail_if_success (with_reducible refine atDrawn ?_)); (fail_if_success (with_reducible refine atEnd ?_)); (with_reducible refine atRun ?_); refine goR 1 ?_; conv => whnf))
      | 7, _, hf, hoe, K =>
        have hh : headW 7 o = [word 7, itoa wh] := by rw [hoe]; rfl
        rw [hh] at K
        repeat' (first
          | ((with_reducible refine Nx.weak K ?_ ?_ ?_ ?_) <;> (first | exact subM.nil _ | exact subB.nil _ | exact subR.nil _ | ((repeat (first | exact subE.nil _ | refine subE.cons rfl rfl ?_ | refine subE.cons' rfl (fun _ => rfl) ?_ | (refine subE.cons rfl ?_ ?_; · (simp; done)))); done) | ((repeat (first | exact subM.nil _ | refine subM.cons rfl rfl rfl ?_)); done) | ((repeat (first | exact subB.nil _ | refine subB.cons rfl ?_)); done) | ((repeat (first | exact subR.nil _ | refine subR.cons rfl rfl ?_)); done) | omega | (dsimp only; omega) | skip))
          | ((with_reducible refine atBr ?_); (first | refine BrM.t rfl ?_ | refine BrM.f rfl ?_ | refine BrM.dec (fun _ => ?_) (fun _ => ?_) | refine BrM.mk (fun _ => ?_) (fun _ => ?_)) <;> conv => whnf)
          | ((with_reducible refine atAr ?_); refine Ar.i64 (by omega) (by omega) ?_; conv => whnf)
          | ((with_reducible refine (atCall 28) ?_); refine Nx.call [0] [0] rfl rfl rfl rfl rfl ((number_ok hG wh hwh)) rfl fun v Q hQ => ?_; obtain ⟨rfl, rfl⟩ := hQ)
          | ((with_reducible refine atApp ?_); refine Nx.append 5 (sz := 1) (by_ := 16) (news := [str (itoa wh)]) rfl rfl rfl rfl rfl Tryz.underlying56 rfl rfl rfl rfl rfl (by unfold maxLen; omega) (by omega) fun A' c'' => ?_)
          | ((with_reducible refine Nx.weak (K ⟨(A', c''), trivial⟩) ?_ ?_ ?_ ?_) <;> (first | (refine subE.cons rfl rfl ?_; refine subE.cons rfl rfl ?_; refine subE.cons rfl rfl ?_; exact subE.cons rfl rfl (subE.nil _)) | exact subM.cons rfl rfl rfl (subM.nil _) | exact subB.nil _ | exact subR.cons rfl rfl (subR.cons rfl rfl (subR.cons rfl rfl (subR.cons rfl rfl (subR.nil _))))))
          | ((with_reducible refine atOps ?_); refine goR 200 ?_; conv => whnf)
          | ((with_reducible refine atPlan ?_); refine Nx.runP (n := 200) rfl (by repeat (first | exact subB.nil _ | refine subB.cons rfl ?_)) ?_; conv => whnf)
          | ((with_reducible refine atAftL ?_); refine Nx.late ?_)
          | ((fail_if_success (with_reducible refine atRet ?_)); (fail_if_success (with_reducible refine atLoop ?_)); (fail_if_success (with_reducible refine atIn ?_)); (fail_if_success (with_reducible refine atDrawn ?_)); (fail_if_success (with_reducible refine atEnd ?_)); (with_reducible refine atRun ?_); refine goR 1 ?_; conv => whnf))
      | 8, _, hf, hoe, K =>
        have hh : headW 8 o = [word 8, itoa wh, itoa nn] := by rw [hoe]; rfl
        rw [hh] at K
        repeat' (first
          | ((with_reducible refine Nx.weak K ?_ ?_ ?_ ?_) <;> (first | exact subM.nil _ | exact subB.nil _ | exact subR.nil _ | ((repeat (first | exact subE.nil _ | refine subE.cons rfl rfl ?_ | refine subE.cons' rfl (fun _ => rfl) ?_ | (refine subE.cons rfl ?_ ?_; · (simp; done)))); done) | ((repeat (first | exact subM.nil _ | refine subM.cons rfl rfl rfl ?_)); done) | ((repeat (first | exact subB.nil _ | refine subB.cons rfl ?_)); done) | ((repeat (first | exact subR.nil _ | refine subR.cons rfl rfl ?_)); done) | omega | (dsimp only; omega) | skip))
          | ((with_reducible refine atBr ?_); (first | refine BrM.t rfl ?_ | refine BrM.f rfl ?_ | refine BrM.dec (fun _ => ?_) (fun _ => ?_) | refine BrM.mk (fun _ => ?_) (fun _ => ?_)) <;> conv => whnf)
          | ((with_reducible refine atAr ?_); refine Ar.i64 (by omega) (by omega) ?_; conv => whnf)
          | ((with_reducible refine atDrawn ?_); refine Nx.bind (l := 1) (fun _ => ?_) rfl; refine Nx.drawn0 [0] [.pure 0, .pure 1, .held 2, .pure 4, .held 5, .ex 3 true, .ex 6 true, .ex 7 true, .ex 8 true, .pure 9] rfl (by kernel_rfl) rfl (by kernel_rfl) rfl (by repeat (first | exact subB.nil _ | refine subB.cons rfl ?_)) rfl ?_)
          | ((with_reducible refine (atCall 28) ?_); refine Nx.call [0] [0] rfl rfl rfl rfl rfl ((number_ok hG wh hwh)) rfl fun v Q hQ => ?_; obtain ⟨rfl, rfl⟩ := hQ)
          | ((with_reducible refine (atCall 28) ?_); refine Nx.call [0] [0] rfl rfl rfl rfl rfl ((number_ok hG nn hn)) rfl fun v Q hQ => ?_; obtain ⟨rfl, rfl⟩ := hQ)
          | ((with_reducible refine atAftK ?_); refine Nx.keepN [0] rfl (by repeat (first | exact subB.nil _ | refine subB.cons rfl ?_)) (by repeat (first | exact subM.nil _ | refine subM.cons rfl rfl rfl ?_)) rfl ?_)
          | ((with_reducible refine atApp ?_); refine Nx.append 5 (sz := 1) (by_ := 16) (news := [str (itoa wh), str (itoa nn)]) rfl rfl rfl rfl rfl Tryz.underlying56 rfl rfl rfl rfl rfl (by unfold maxLen; omega) (by omega) fun A' c'' => ?_)
          | ((with_reducible refine Nx.weak (K ⟨(A', c''), trivial⟩) ?_ ?_ ?_ ?_) <;> (first | (refine subE.cons rfl rfl ?_; refine subE.cons rfl rfl ?_; refine subE.cons rfl rfl ?_; exact subE.cons rfl rfl (subE.nil _)) | exact subM.cons rfl rfl rfl (subM.nil _) | exact subB.nil _ | exact subR.cons rfl rfl (subR.cons rfl rfl (subR.cons rfl rfl (subR.cons rfl rfl (subR.nil _))))))
          | ((with_reducible refine atOps ?_); refine goR 200 ?_; conv => whnf)
          | ((with_reducible refine atPlan ?_); refine Nx.runP (n := 200) rfl (by repeat (first | exact subB.nil _ | refine subB.cons rfl ?_)) ?_; conv => whnf)
          | ((with_reducible refine atAftL ?_); refine Nx.late ?_)
          | ((fail_if_success (with_reducible refine atRet ?_)); (fail_if_success (with_reducible refine atLoop ?_)); (fail_if_success (with_reducible refine atIn ?_)); (fail_if_success (with_reducible refine atDrawn ?_)); (fail_if_success (with_reducible refine atEnd ?_)); (with_reducible refine atRun ?_); refine goR 1 ?_; conv => whnf))
      | 9, _, hf, hoe, K =>
        have hh : headW 9 o = [word 9, itoa wh] := by rw [hoe]; rfl
        rw [hh] at K
        repeat' (first
          | ((with_reducible refine Nx.weak K ?_ ?_ ?_ ?_) <;> (first | exact subM.nil _ | exact subB.nil _ | exact subR.nil _ | ((repeat (first | exact subE.nil _ | refine subE.cons rfl rfl ?_ | refine subE.cons' rfl (fun _ => rfl) ?_ | (refine subE.cons rfl ?_ ?_; · (simp; done)))); done) | ((repeat (first | exact subM.nil _ | refine subM.cons rfl rfl rfl ?_)); done) | ((repeat (first | exact subB.nil _ | refine subB.cons rfl ?_)); done) | ((repeat (first | exact subR.nil _ | refine subR.cons rfl rfl ?_)); done) | omega | (dsimp only; omega) | skip))
          | ((with_reducible refine atBr ?_); (first | refine BrM.t rfl ?_ | refine BrM.f rfl ?_ | refine BrM.dec (fun _ => ?_) (fun _ => ?_) | refine BrM.mk (fun _ => ?_) (fun _ => ?_)) <;> conv => whnf)
          | ((with_reducible refine atAr ?_); refine Ar.i64 (by omega) (by omega) ?_; conv => whnf)
          | ((with_reducible refine (atCall 28) ?_); refine Nx.call [0] [0] rfl rfl rfl rfl rfl ((number_ok hG wh hwh)) rfl fun v Q hQ => ?_; obtain ⟨rfl, rfl⟩ := hQ)
          | ((with_reducible refine atApp ?_); refine Nx.append 5 (sz := 1) (by_ := 16) (news := [str (itoa wh)]) rfl rfl rfl rfl rfl Tryz.underlying56 rfl rfl rfl rfl rfl (by unfold maxLen; omega) (by omega) fun A' c'' => ?_)
          | ((with_reducible refine Nx.weak (K ⟨(A', c''), trivial⟩) ?_ ?_ ?_ ?_) <;> (first | (refine subE.cons rfl rfl ?_; refine subE.cons rfl rfl ?_; refine subE.cons rfl rfl ?_; exact subE.cons rfl rfl (subE.nil _)) | exact subM.cons rfl rfl rfl (subM.nil _) | exact subB.nil _ | exact subR.cons rfl rfl (subR.cons rfl rfl (subR.cons rfl rfl (subR.cons rfl rfl (subR.nil _))))))
          | ((with_reducible refine atOps ?_); refine goR 200 ?_; conv => whnf)
          | ((with_reducible refine atPlan ?_); refine Nx.runP (n := 200) rfl (by repeat (first | exact subB.nil _ | refine subB.cons rfl ?_)) ?_; conv => whnf)
          | ((with_reducible refine atAftL ?_); refine Nx.late ?_)
          | ((fail_if_success (with_reducible refine atRet ?_)); (fail_if_success (with_reducible refine atLoop ?_)); (fail_if_success (with_reducible refine atIn ?_)); (fail_if_success (with_reducible refine atDrawn ?_)); (fail_if_success (with_reducible refine atEnd ?_)); (with_reducible refine atRun ?_); refine goR 1 ?_; conv => whnf))
      | 10, _, hf, hoe, K =>
        have hh : headW 10 o = [word 10, itoa wh, itoa nn] := by rw [hoe]; rfl
        rw [hh] at K
        repeat' (first
          | ((with_reducible refine Nx.weak K ?_ ?_ ?_ ?_) <;> (first | exact subM.nil _ | exact subB.nil _ | exact subR.nil _ | ((repeat (first | exact subE.nil _ | refine subE.cons rfl rfl ?_ | refine subE.cons' rfl (fun _ => rfl) ?_ | (refine subE.cons rfl ?_ ?_; · (simp; done)))); done) | ((repeat (first | exact subM.nil _ | refine subM.cons rfl rfl rfl ?_)); done) | ((repeat (first | exact subB.nil _ | refine subB.cons rfl ?_)); done) | ((repeat (first | exact subR.nil _ | refine subR.cons rfl rfl ?_)); done) | omega | (dsimp only; omega) | skip))
          | ((with_reducible refine atBr ?_); (first | refine BrM.t rfl ?_ | refine BrM.f rfl ?_ | refine BrM.dec (fun _ => ?_) (fun _ => ?_) | refine BrM.mk (fun _ => ?_) (fun _ => ?_)) <;> conv => whnf)
          | ((with_reducible refine atAr ?_); refine Ar.i64 (by omega) (by omega) ?_; conv => whnf)
          | ((with_reducible refine atDrawn ?_); refine Nx.bind (l := 1) (fun _ => ?_) rfl; refine Nx.drawn0 [0] [.pure 0, .pure 1, .held 2, .pure 4, .held 5, .ex 3 true, .ex 6 true, .ex 7 true, .ex 8 true, .pure 9] rfl (by kernel_rfl) rfl (by kernel_rfl) rfl (by repeat (first | exact subB.nil _ | refine subB.cons rfl ?_)) rfl ?_)
          | ((with_reducible refine (atCall 28) ?_); refine Nx.call [0] [0] rfl rfl rfl rfl rfl ((number_ok hG wh hwh)) rfl fun v Q hQ => ?_; obtain ⟨rfl, rfl⟩ := hQ)
          | ((with_reducible refine (atCall 28) ?_); refine Nx.call [0] [0] rfl rfl rfl rfl rfl ((number_ok hG nn hn)) rfl fun v Q hQ => ?_; obtain ⟨rfl, rfl⟩ := hQ)
          | ((with_reducible refine atAftK ?_); refine Nx.keepN [0] rfl (by repeat (first | exact subB.nil _ | refine subB.cons rfl ?_)) (by repeat (first | exact subM.nil _ | refine subM.cons rfl rfl rfl ?_)) rfl ?_)
          | ((with_reducible refine atApp ?_); refine Nx.append 5 (sz := 1) (by_ := 16) (news := [str (itoa wh), str (itoa nn)]) rfl rfl rfl rfl rfl Tryz.underlying56 rfl rfl rfl rfl rfl (by unfold maxLen; omega) (by omega) fun A' c'' => ?_)
          | ((with_reducible refine Nx.weak (K ⟨(A', c''), trivial⟩) ?_ ?_ ?_ ?_) <;> (first | (refine subE.cons rfl rfl ?_; refine subE.cons rfl rfl ?_; refine subE.cons rfl rfl ?_; exact subE.cons rfl rfl (subE.nil _)) | exact subM.cons rfl rfl rfl (subM.nil _) | exact subB.nil _ | exact subR.cons rfl rfl (subR.cons rfl rfl (subR.cons rfl rfl (subR.cons rfl rfl (subR.nil _))))))
          | ((with_reducible refine atOps ?_); refine goR 200 ?_; conv => whnf)
          | ((with_reducible refine atPlan ?_); refine Nx.runP (n := 200) rfl (by repeat (first | exact subB.nil _ | refine subB.cons rfl ?_)) ?_; conv => whnf)
          | ((with_reducible refine atAftL ?_); refine Nx.late ?_)
          | ((fail_if_success (with_reducible refine atRet ?_)); (fail_if_success (with_reducible refine atLoop ?_)); (fail_if_success (with_reducible refine atIn ?_)); (fail_if_success (with_reducible refine atDrawn ?_)); (fail_if_success (with_reducible refine atEnd ?_)); (with_reducible refine atRun ?_); refine goR 1 ?_; conv => whnf))
      | 11, _, hf, hoe, K =>
        have hh : headW 11 o = [word 11, itoa wh] := by rw [hoe]; rfl
        rw [hh] at K
        repeat' (first
          | ((with_reducible refine Nx.weak K ?_ ?_ ?_ ?_) <;> (first | exact subM.nil _ | exact subB.nil _ | exact subR.nil _ | ((repeat (first | exact subE.nil _ | refine subE.cons rfl rfl ?_ | refine subE.cons' rfl (fun _ => rfl) ?_ | (refine subE.cons rfl ?_ ?_; · (simp; done)))); done) | ((repeat (first | exact subM.nil _ | refine subM.cons rfl rfl rfl ?_)); done) | ((repeat (first | exact subB.nil _ | refine subB.cons rfl ?_)); done) | ((repeat (first | exact subR.nil _ | refine subR.cons rfl rfl ?_)); done) | omega | (dsimp only; omega) | skip))
          | ((with_reducible refine atBr ?_); (first | refine BrM.t rfl ?_ | refine BrM.f rfl ?_ | refine BrM.dec (fun _ => ?_) (fun _ => ?_) | refine BrM.mk (fun _ => ?_) (fun _ => ?_)) <;> conv => whnf)
          | ((with_reducible refine atAr ?_); refine Ar.i64 (by omega) (by omega) ?_; conv => whnf)
          | ((with_reducible refine (atCall 28) ?_); refine Nx.call [0] [0] rfl rfl rfl rfl rfl ((number_ok hG wh hwh)) rfl fun v Q hQ => ?_; obtain ⟨rfl, rfl⟩ := hQ)
          | ((with_reducible refine atApp ?_); refine Nx.append 5 (sz := 1) (by_ := 16) (news := [str (itoa wh)]) rfl rfl rfl rfl rfl Tryz.underlying56 rfl rfl rfl rfl rfl (by unfold maxLen; omega) (by omega) fun A' c'' => ?_)
          | ((with_reducible refine Nx.weak (K ⟨(A', c''), trivial⟩) ?_ ?_ ?_ ?_) <;> (first | (refine subE.cons rfl rfl ?_; refine subE.cons rfl rfl ?_; refine subE.cons rfl rfl ?_; exact subE.cons rfl rfl (subE.nil _)) | exact subM.cons rfl rfl rfl (subM.nil _) | exact subB.nil _ | exact subR.cons rfl rfl (subR.cons rfl rfl (subR.cons rfl rfl (subR.cons rfl rfl (subR.nil _))))))
          | ((with_reducible refine atOps ?_); refine goR 200 ?_; conv => whnf)
          | ((with_reducible refine atPlan ?_); refine Nx.runP (n := 200) rfl (by repeat (first | exact subB.nil _ | refine subB.cons rfl ?_)) ?_; conv => whnf)
          | ((with_reducible refine atAftL ?_); refine Nx.late ?_)
          | ((fail_if_success (with_reducible refine atRet ?_)); (fail_if_success (with_reducible refine atLoop ?_)); (fail_if_success (with_reducible refine atIn ?_)); (fail_if_success (with_reducible refine atDrawn ?_)); (fail_if_success (with_reducible refine atEnd ?_)); (with_reducible refine atRun ?_); refine goR 1 ?_; conv => whnf))
      | 12, _, hf, hoe, K =>
        have hh : headW 12 o = [word 12, itoa wh] := by rw [hoe]; rfl
        rw [hh] at K
        repeat' (first
          | ((with_reducible refine Nx.weak K ?_ ?_ ?_ ?_) <;> (first | exact subM.nil _ | exact subB.nil _ | exact subR.nil _ | ((repeat (first | exact subE.nil _ | refine subE.cons rfl rfl ?_ | refine subE.cons' rfl (fun _ => rfl) ?_ | (refine subE.cons rfl ?_ ?_; · (simp; done)))); done) | ((repeat (first | exact subM.nil _ | refine subM.cons rfl rfl rfl ?_)); done) | ((repeat (first | exact subB.nil _ | refine subB.cons rfl ?_)); done) | ((repeat (first | exact subR.nil _ | refine subR.cons rfl rfl ?_)); done) | omega | (dsimp only; omega) | skip))
          | ((with_reducible refine atBr ?_); (first | refine BrM.t rfl ?_ | refine BrM.f rfl ?_ | refine BrM.dec (fun _ => ?_) (fun _ => ?_) | refine BrM.mk (fun _ => ?_) (fun _ => ?_)) <;> conv => whnf)
          | ((with_reducible refine atAr ?_); refine Ar.i64 (by omega) (by omega) ?_; conv => whnf)
          | ((with_reducible refine (atCall 28) ?_); refine Nx.call [0] [0] rfl rfl rfl rfl rfl ((number_ok hG wh hwh)) rfl fun v Q hQ => ?_; obtain ⟨rfl, rfl⟩ := hQ)
          | ((with_reducible refine atApp ?_); refine Nx.append 5 (sz := 1) (by_ := 16) (news := [str (itoa wh)]) rfl rfl rfl rfl rfl Tryz.underlying56 rfl rfl rfl rfl rfl (by unfold maxLen; omega) (by omega) fun A' c'' => ?_)
          | ((with_reducible refine Nx.weak (K ⟨(A', c''), trivial⟩) ?_ ?_ ?_ ?_) <;> (first | (refine subE.cons rfl rfl ?_; refine subE.cons rfl rfl ?_; refine subE.cons rfl rfl ?_; exact subE.cons rfl rfl (subE.nil _)) | exact subM.cons rfl rfl rfl (subM.nil _) | exact subB.nil _ | exact subR.cons rfl rfl (subR.cons rfl rfl (subR.cons rfl rfl (subR.cons rfl rfl (subR.nil _))))))
          | ((with_reducible refine atOps ?_); refine goR 200 ?_; conv => whnf)
          | ((with_reducible refine atPlan ?_); refine Nx.runP (n := 200) rfl (by repeat (first | exact subB.nil _ | refine subB.cons rfl ?_)) ?_; conv => whnf)
          | ((with_reducible refine atAftL ?_); refine Nx.late ?_)
          | ((fail_if_success (with_reducible refine atRet ?_)); (fail_if_success (with_reducible refine atLoop ?_)); (fail_if_success (with_reducible refine atIn ?_)); (fail_if_success (with_reducible refine atDrawn ?_)); (fail_if_success (with_reducible refine atEnd ?_)); (with_reducible refine atRun ?_); refine goR 1 ?_; conv => whnf))
      | 13, _, hf, hoe, K =>
        have hh : headW 13 o = [word 13, itoa wh] := by rw [hoe]; rfl
        rw [hh] at K
        repeat' (first
          | ((with_reducible refine Nx.weak K ?_ ?_ ?_ ?_) <;> (first | exact subM.nil _ | exact subB.nil _ | exact subR.nil _ | ((repeat (first | exact subE.nil _ | refine subE.cons rfl rfl ?_ | refine subE.cons' rfl (fun _ => rfl) ?_ | (refine subE.cons rfl ?_ ?_; · (simp; done)))); done) | ((repeat (first | exact subM.nil _ | refine subM.cons rfl rfl rfl ?_)); done) | ((repeat (first | exact subB.nil _ | refine subB.cons rfl ?_)); done) | ((repeat (first | exact subR.nil _ | refine subR.cons rfl rfl ?_)); done) | omega | (dsimp only; omega) | skip))
          | ((with_reducible refine atBr ?_); (first | refine BrM.t rfl ?_ | refine BrM.f rfl ?_ | refine BrM.dec (fun _ => ?_) (fun _ => ?_) | refine BrM.mk (fun _ => ?_) (fun _ => ?_)) <;> conv => whnf)
          | ((with_reducible refine atAr ?_); refine Ar.i64 (by omega) (by omega) ?_; conv => whnf)
          | ((with_reducible refine (atCall 28) ?_); refine Nx.call [0] [0] rfl rfl rfl rfl rfl ((number_ok hG wh hwh)) rfl fun v Q hQ => ?_; obtain ⟨rfl, rfl⟩ := hQ)
          | ((with_reducible refine atApp ?_); refine Nx.append 5 (sz := 1) (by_ := 16) (news := [str (itoa wh)]) rfl rfl rfl rfl rfl Tryz.underlying56 rfl rfl rfl rfl rfl (by unfold maxLen; omega) (by omega) fun A' c'' => ?_)
          | ((with_reducible refine Nx.weak (K ⟨(A', c''), trivial⟩) ?_ ?_ ?_ ?_) <;> (first | (refine subE.cons rfl rfl ?_; refine subE.cons rfl rfl ?_; refine subE.cons rfl rfl ?_; exact subE.cons rfl rfl (subE.nil _)) | exact subM.cons rfl rfl rfl (subM.nil _) | exact subB.nil _ | exact subR.cons rfl rfl (subR.cons rfl rfl (subR.cons rfl rfl (subR.cons rfl rfl (subR.nil _))))))
          | ((with_reducible refine atOps ?_); refine goR 200 ?_; conv => whnf)
          | ((with_reducible refine atPlan ?_); refine Nx.runP (n := 200) rfl (by repeat (first | exact subB.nil _ | refine subB.cons rfl ?_)) ?_; conv => whnf)
          | ((with_reducible refine atAftL ?_); refine Nx.late ?_)
          | ((fail_if_success (with_reducible refine atRet ?_)); (fail_if_success (with_reducible refine atLoop ?_)); (fail_if_success (with_reducible refine atIn ?_)); (fail_if_success (with_reducible refine atDrawn ?_)); (fail_if_success (with_reducible refine atEnd ?_)); (with_reducible refine atRun ?_); refine goR 1 ?_; conv => whnf))
      | 14, _, hf, hoe, K =>
        have hh : headW 14 o = [word 14, itoa wh] := by rw [hoe]; rfl
        rw [hh] at K
        repeat' (first
          | ((with_reducible refine Nx.weak K ?_ ?_ ?_ ?_) <;> (first | exact subM.nil _ | exact subB.nil _ | exact subR.nil _ | ((repeat (first | exact subE.nil _ | refine subE.cons rfl rfl ?_ | refine subE.cons' rfl (fun _ => rfl) ?_ | (refine subE.cons rfl ?_ ?_; · (simp; done)))); done) | ((repeat (first | exact subM.nil _ | refine subM.cons rfl rfl rfl ?_)); done) | ((repeat (first | exact subB.nil _ | refine subB.cons rfl ?_)); done) | ((repeat (first | exact subR.nil _ | refine subR.cons rfl rfl ?_)); done) | omega | (dsimp only; omega) | skip))
          | ((with_reducible refine atBr ?_); (first | refine BrM.t rfl ?_ | refine BrM.f rfl ?_ | refine BrM.dec (fun _ => ?_) (fun _ => ?_) | refine BrM.mk (fun _ => ?_) (fun _ => ?_)) <;> conv => whnf)
          | ((with_reducible refine atAr ?_); refine Ar.i64 (by omega) (by omega) ?_; conv => whnf)
          | ((with_reducible refine (atCall 28) ?_); refine Nx.call [0] [0] rfl rfl rfl rfl rfl ((number_ok hG wh hwh)) rfl fun v Q hQ => ?_; obtain ⟨rfl, rfl⟩ := hQ)
          | ((with_reducible refine atApp ?_); refine Nx.append 5 (sz := 1) (by_ := 16) (news := [str (itoa wh)]) rfl rfl rfl rfl rfl Tryz.underlying56 rfl rfl rfl rfl rfl (by unfold maxLen; omega) (by omega) fun A' c'' => ?_)
          | ((with_reducible refine Nx.weak (K ⟨(A', c''), trivial⟩) ?_ ?_ ?_ ?_) <;> (first | (refine subE.cons rfl rfl ?_; refine subE.cons rfl rfl ?_; refine subE.cons rfl rfl ?_; exact subE.cons rfl rfl (subE.nil _)) | exact subM.cons rfl rfl rfl (subM.nil _) | exact subB.nil _ | exact subR.cons rfl rfl (subR.cons rfl rfl (subR.cons rfl rfl (subR.cons rfl rfl (subR.nil _))))))
          | ((with_reducible refine atOps ?_); refine goR 200 ?_; conv => whnf)
          | ((with_reducible refine atPlan ?_); refine Nx.runP (n := 200) rfl (by repeat (first | exact subB.nil _ | refine subB.cons rfl ?_)) ?_; conv => whnf)
          | ((with_reducible refine atAftL ?_); refine Nx.late ?_)
          | ((fail_if_success (with_reducible refine atRet ?_)); (fail_if_success (with_reducible refine atLoop ?_)); (fail_if_success (with_reducible refine atIn ?_)); (fail_if_success (with_reducible refine atDrawn ?_)); (fail_if_success (with_reducible refine atEnd ?_)); (with_reducible refine atRun ?_); refine goR 1 ?_; conv => whnf))
      | 15, _, hf, hoe, K =>
        have hh : headW 15 o = [word 15, itoa tm] := by rw [hoe]; rfl
        rw [hh] at K
        repeat' (first
          | ((with_reducible refine Nx.weak K ?_ ?_ ?_ ?_) <;> (first | exact subM.nil _ | exact subB.nil _ | exact subR.nil _ | ((repeat (first | exact subE.nil _ | refine subE.cons rfl rfl ?_ | refine subE.cons' rfl (fun _ => rfl) ?_ | (refine subE.cons rfl ?_ ?_; · (simp; done)))); done) | ((repeat (first | exact subM.nil _ | refine subM.cons rfl rfl rfl ?_)); done) | ((repeat (first | exact subB.nil _ | refine subB.cons rfl ?_)); done) | ((repeat (first | exact subR.nil _ | refine subR.cons rfl rfl ?_)); done) | omega | (dsimp only; omega) | skip))
          | ((with_reducible refine atBr ?_); (first | refine BrM.t rfl ?_ | refine BrM.f rfl ?_ | refine BrM.dec (fun _ => ?_) (fun _ => ?_) | refine BrM.mk (fun _ => ?_) (fun _ => ?_)) <;> conv => whnf)
          | ((with_reducible refine atAr ?_); refine Ar.i64 (by omega) (by omega) ?_; conv => whnf)
          | ((with_reducible refine (atCall 28) ?_); refine Nx.call [0] [0] rfl rfl rfl rfl rfl ((number_ok hG tm htm)) rfl fun v Q hQ => ?_; obtain ⟨rfl, rfl⟩ := hQ)
          | ((with_reducible refine atApp ?_); refine Nx.append 5 (sz := 1) (by_ := 16) (news := [str (itoa tm)]) rfl rfl rfl rfl rfl Tryz.underlying56 rfl rfl rfl rfl rfl (by unfold maxLen; omega) (by omega) fun A' c'' => ?_)
          | ((with_reducible refine Nx.weak (K ⟨(A', c''), trivial⟩) ?_ ?_ ?_ ?_) <;> (first | (refine subE.cons rfl rfl ?_; refine subE.cons rfl rfl ?_; refine subE.cons rfl rfl ?_; exact subE.cons rfl rfl (subE.nil _)) | exact subM.cons rfl rfl rfl (subM.nil _) | exact subB.nil _ | exact subR.cons rfl rfl (subR.cons rfl rfl (subR.cons rfl rfl (subR.cons rfl rfl (subR.nil _))))))
          | ((with_reducible refine atOps ?_); refine goR 200 ?_; conv => whnf)
          | ((with_reducible refine atPlan ?_); refine Nx.runP (n := 200) rfl (by repeat (first | exact subB.nil _ | refine subB.cons rfl ?_)) ?_; conv => whnf)
          | ((with_reducible refine atAftL ?_); refine Nx.late ?_)
          | ((fail_if_success (with_reducible refine atRet ?_)); (fail_if_success (with_reducible refine atLoop ?_)); (fail_if_success (with_reducible refine atIn ?_)); (fail_if_success (with_reducible refine atDrawn ?_)); (fail_if_success (with_reducible refine atEnd ?_)); (with_reducible refine atRun ?_); refine goR 1 ?_; conv => whnf))
      | 16, _, hf, hoe, K =>
        have hh : headW 16 o = [word 16, itoa nn] := by rw [hoe]; rfl
        rw [hh] at K
        repeat' (first
          | ((with_reducible refine Nx.weak K ?_ ?_ ?_ ?_) <;> (first | exact subM.nil _ | exact subB.nil _ | exact subR.nil _ | ((repeat (first | exact subE.nil _ | refine subE.cons rfl rfl ?_ | refine subE.cons' rfl (fun _ => rfl) ?_ | (refine subE.cons rfl ?_ ?_; · (simp; done)))); done) | ((repeat (first | exact subM.nil _ | refine subM.cons rfl rfl rfl ?_)); done) | ((repeat (first | exact subB.nil _ | refine subB.cons rfl ?_)); done) | ((repeat (first | exact subR.nil _ | refine subR.cons rfl rfl ?_)); done) | omega | (dsimp only; omega) | skip))
          | ((with_reducible refine atBr ?_); (first | refine BrM.t rfl ?_ | refine BrM.f rfl ?_ | refine BrM.dec (fun _ => ?_) (fun _ => ?_) | refine BrM.mk (fun _ => ?_) (fun _ => ?_)) <;> conv => whnf)
          | ((with_reducible refine atAr ?_); refine Ar.i64 (by omega) (by omega) ?_; conv => whnf)
          | ((with_reducible refine (atCall 28) ?_); refine Nx.call [0] [0] rfl rfl rfl rfl rfl ((number_ok hG nn hn)) rfl fun v Q hQ => ?_; obtain ⟨rfl, rfl⟩ := hQ)
          | ((with_reducible refine atApp ?_); refine Nx.append 5 (sz := 1) (by_ := 16) (news := [str (itoa nn)]) rfl rfl rfl rfl rfl Tryz.underlying56 rfl rfl rfl rfl rfl (by unfold maxLen; omega) (by omega) fun A' c'' => ?_)
          | ((with_reducible refine Nx.weak (K ⟨(A', c''), trivial⟩) ?_ ?_ ?_ ?_) <;> (first | (refine subE.cons rfl rfl ?_; refine subE.cons rfl rfl ?_; refine subE.cons rfl rfl ?_; exact subE.cons rfl rfl (subE.nil _)) | exact subM.cons rfl rfl rfl (subM.nil _) | exact subB.nil _ | exact subR.cons rfl rfl (subR.cons rfl rfl (subR.cons rfl rfl (subR.cons rfl rfl (subR.nil _))))))
          | ((with_reducible refine atOps ?_); refine goR 200 ?_; conv => whnf)
          | ((with_reducible refine atPlan ?_); refine Nx.runP (n := 200) rfl (by repeat (first | exact subB.nil _ | refine subB.cons rfl ?_)) ?_; conv => whnf)
          | ((with_reducible refine atAftL ?_); refine Nx.late ?_)
          | ((fail_if_success (with_reducible refine atRet ?_)); (fail_if_success (with_reducible refine atLoop ?_)); (fail_if_success (with_reducible refine atIn ?_)); (fail_if_success (with_reducible refine atDrawn ?_)); (fail_if_success (with_reducible refine atEnd ?_)); (with_reducible refine atRun ?_); refine goR 1 ?_; conv => whnf))
      | k + 17, hk, hf, hoe, K => exact absurd hk (by omega)
    · intro x
      obtain ⟨⟨A1, c1⟩, _⟩ := x
      simp only
      have hlh := lineW_head o hk hf.e
      have hlen := hf.len
      have hjl := hf.join hw
      have hhl := headW_len o hk
      have hne : lineW o ≠ [] := by unfold lineW; simp
      have h7 : o.after = af := by rw [hoe]
      have h8 : o.evs = es := by rw [hoe]
      have hwa := hw.after
      have hwe := hw.evs
      rw [h7] at hwa
      rw [h8] at hwe
      rw [h7, h8] at hlh
      clear hr hQ hsw hkl hwt hwu hn hri hwh htm
      by_cases k1 : 2 ≤ k ∧ k ≤ 5
      · have hal := hf.a k1
        rw [h7] at hal
        rw [if_pos k1, if_neg (by omega), List.append_nil] at hlh
        repeat' (first
          | ((with_reducible refine atBr ?_); refine BrM.yes (by omega) ?_; conv => whnf)
          | ((with_reducible refine atBr ?_); refine BrM.not (by omega) ?_; conv => whnf)
          | ((with_reducible refine atBr ?_); (first | refine BrM.t rfl ?_ | refine BrM.f rfl ?_ | refine BrM.dec (fun _ => ?_) (fun _ => ?_) | refine BrM.mk (fun _ => ?_) (fun _ => ?_)) <;> conv => whnf)
          | ((with_reducible refine atAr ?_); refine Ar.i64 (by omega) (by omega) ?_; conv => whnf)
          | ((with_reducible refine (atCall 30) ?_); refine Nx.call [] [] rfl rfl rfl rfl rfl ((behind_ok (k : Int))) rfl fun v Q hQ => ?_; obtain ⟨rfl, rfl⟩ := hQ)
          | ((with_reducible refine atOps ?_); refine go 200 ?_; conv => whnf)
          | ((with_reducible refine atPlan ?_); refine Nx.runP (n := 200) rfl (by repeat (first | exact subB.nil _ | refine subB.cons rfl ?_)) ?_; conv => whnf)
          | ((with_reducible refine atAftL ?_); refine Nx.late ?_)
          | ((fail_if_success (with_reducible refine atRet ?_)); (fail_if_success (with_reducible refine atLoop ?_)); (fail_if_success (with_reducible refine atIn ?_)); (fail_if_success (with_reducible refine atDrawn ?_)); (fail_if_success (with_reducible refine atEnd ?_)); (with_reducible refine atRun ?_); refine go 200 ?_; conv => whnf))
        refine Nx.loop (X := PnX) (PnI (headW k o) itoa af) (fun x => af.length - x.j)
          (fun x => [(1, .c (.loc 1 0)), (5, sl x.A x.l.length x.c), (107, sl A af.length c), (108, iv af.length), (109, iv x.j)]) (fun x => [(1, 37, (lnE (k : Int) wh ri nn tm wy af.length A c es.length B d).map .v)]) []
          (fun x => [(0, roAll m), (1, S1), (2, S2), (5, ownS 9 x.A x.l.length x.c 1 (strs x.l))]) ⟨0, headW k o, A1, c1⟩ ⟨Nat.zero_le _, by simp⟩ ?_ ?_ ?_ ?_ ?_
        · repeat (first | exact subE.nil _ | refine subE.cons rfl rfl ?_ | refine subE.cons' rfl (fun _ => rfl) ?_)
        · repeat (first | exact subM.nil _ | refine subM.cons rfl rfl rfl ?_)
        · repeat (first | exact subB.nil _ | refine subB.cons rfl ?_)
        · repeat (first | exact subR.nil _ | refine subR.cons rfl rfl ?_)
        intro x hx ih
        have hxl := hx.len
        by_cases hlt : x.j < af.length
        · have hx64 := hwa _ (List.getElem_mem hlt)
          have nx := hx.step hlt
          repeat' (first
            | ((with_reducible refine atBr ?_); refine BrM.yes (by omega) ?_; conv => whnf)
            | ((with_reducible refine atAr ?_); refine Ar.to (k := .i64) (((x.j+1:Nat):Int)) (by omega) ⟨by omega, by omega⟩ ?_; conv => whnf)
            | ((with_reducible refine atBr ?_); (first | refine BrM.t rfl ?_ | refine BrM.f rfl ?_ | refine BrM.dec (fun _ => ?_) (fun _ => ?_) | refine BrM.mk (fun _ => ?_) (fun _ => ?_)) <;> conv => whnf)
            | ((with_reducible refine atAr ?_); refine Ar.i64 (by omega) (by omega) ?_; conv => whnf)
            | ((with_reducible refine atIdx ?_); refine Nx.idx 1 rfl rfl rfl Tryz.underlying25 rfl rfl rfl int_len h1 rfl rfl (by omega) fun _ _ _ => ?_)
            | ((with_reducible refine atLoad ?_); first | (refine Nx.load1 1 rfl rfl rfl rfl (SeesAt.sub (by assumption) _ rfl) rfl ?_) | (refine Nx.load1 1 rfl rfl rfl rfl (by assumption) rfl ?_) | (refine Nx.load 1 rfl rfl rfl rfl (by assumption) rfl rfl ?_))
            | ((with_reducible refine (atCall 28) ?_); refine Nx.call [0] [0] rfl rfl rfl rfl rfl ((number_ok hG af[x.j] hx64)) rfl fun v Q hQ => ?_; obtain ⟨rfl, rfl⟩ := hQ)
            | ((with_reducible refine atApp ?_); refine Nx.append 5 (sz := 1) (by_ := 16) (news := [str (itoa af[x.j])]) rfl rfl rfl rfl rfl Tryz.underlying56 rfl rfl rfl rfl rfl (by unfold maxLen; omega) (by omega) fun A' c'' => ?_)
            | ((with_reducible refine atOps ?_); refine go 200 ?_; conv => whnf)
            | ((with_reducible refine atPlan ?_); refine Nx.runP (n := 200) rfl (by repeat (first | exact subB.nil _ | refine subB.cons rfl ?_)) ?_; conv => whnf)
            | ((with_reducible refine atAftL ?_); refine Nx.late ?_)
            | ((fail_if_success (with_reducible refine atRet ?_)); (fail_if_success (with_reducible refine atLoop ?_)); (fail_if_success (with_reducible refine atIn ?_)); (fail_if_success (with_reducible refine atDrawn ?_)); (fail_if_success (with_reducible refine atEnd ?_)); (with_reducible refine atRun ?_); refine go 200 ?_; conv => whnf))
          refine (ih _ (nx A' c'') (by show af.length - (x.j + 1) < af.length - x.j; omega)).weak ?_ ?_ ?_ ?_
          · exact .cons rfl rfl (.cons rfl (by simp) (.cons rfl rfl (.cons rfl rfl (.cons rfl rfl (.nil _)))))
          · repeat (first | exact subM.nil _ | refine subM.cons rfl rfl rfl ?_)
          · repeat (first | exact subB.nil _ | refine subB.cons rfl ?_)
          · exact .cons rfl rfl (.cons rfl rfl (.cons rfl rfl (.cons rfl (by simp) (.nil _))))
        · have hfin : x.l = lineW o := by rw [hx.fin hlt, hlh]
          rw [hfin]
          clear ih
          refine Nx.fact 5 (p := (lineW o).length ≤ x.c ∧ x.c ≤ maxLen) rfl (fun r h hs => ownS_fit hs) fun ⟨hfit, _⟩ => ?_
          repeat' (first
            | ((with_reducible refine atBr ?_); refine BrM.not (by omega) ?_; conv => whnf)
            | ((with_reducible refine atBr ?_); (first | refine BrM.t rfl ?_ | refine BrM.f rfl ?_ | refine BrM.dec (fun _ => ?_) (fun _ => ?_) | refine BrM.mk (fun _ => ?_) (fun _ => ?_)) <;> conv => whnf)
            | ((with_reducible refine atAr ?_); refine Ar.i64 (by omega) (by omega) ?_; conv => whnf)
            | ((with_reducible refine (atCall 32) ?_); refine Nx.call [5] [5] rfl rfl rfl rfl rfl ((Join_ok x.A x.c (lineW o) hne (ownS_sees 9 x.A (lineW o).length x.c 1 (strs (lineW o))) (by omega) hfit (by omega))) rfl fun v Q hQ => ?_; obtain ⟨rfl, rfl⟩ := hQ)
            | ((with_reducible refine atRet ?_); refine Nx.ret [0,1,2] Tryz.func11 rfl rfl ?_; (exact ⟨rfl, rfl⟩))
            | ((with_reducible refine atOps ?_); refine go 200 ?_; conv => whnf)
            | ((with_reducible refine atPlan ?_); refine Nx.runP (n := 200) rfl (by repeat (first | exact subB.nil _ | refine subB.cons rfl ?_)) ?_; conv => whnf)
            | ((with_reducible refine atAftL ?_); refine Nx.late ?_)
            | ((fail_if_success (with_reducible refine atRet ?_)); (fail_if_success (with_reducible refine atLoop ?_)); (fail_if_success (with_reducible refine atIn ?_)); (fail_if_success (with_reducible refine atDrawn ?_)); (fail_if_success (with_reducible refine atEnd ?_)); (with_reducible refine atRun ?_); refine go 200 ?_; conv => whnf))
      · rw [if_neg k1, List.append_nil] at hlh
        by_cases k2 : k = 6 ∨ k = 7
        · have hel := hf.v k2
          rw [h8] at hel
          rw [if_pos k2] at hlh
          rcases k2 with k2 | k2
          · have hd6 : (k : Int) = 6 := by omega
            repeat' (first
              | ((with_reducible refine atBr ?_); refine BrM.yes (by omega) ?_; conv => whnf)
              | ((with_reducible refine atBr ?_); refine BrM.not (by omega) ?_; conv => whnf)
              | ((with_reducible refine atBr ?_); (first | refine BrM.t rfl ?_ | refine BrM.f rfl ?_ | refine BrM.dec (fun _ => ?_) (fun _ => ?_) | refine BrM.mk (fun _ => ?_) (fun _ => ?_)) <;> conv => whnf)
              | ((with_reducible refine atAr ?_); refine Ar.i64 (by omega) (by omega) ?_; conv => whnf)
              | ((with_reducible refine (atCall 30) ?_); refine Nx.call [] [] rfl rfl rfl rfl rfl ((behind_ok (k : Int))) rfl fun v Q hQ => ?_; obtain ⟨rfl, rfl⟩ := hQ)
              | ((with_reducible refine atOps ?_); refine go 200 ?_; conv => whnf)
              | ((with_reducible refine atPlan ?_); refine Nx.runP (n := 200) rfl (by repeat (first | exact subB.nil _ | refine subB.cons rfl ?_)) ?_; conv => whnf)
              | ((with_reducible refine atAftL ?_); refine Nx.late ?_)
              | ((fail_if_success (with_reducible refine atRet ?_)); (fail_if_success (with_reducible refine atLoop ?_)); (fail_if_success (with_reducible refine atIn ?_)); (fail_if_success (with_reducible refine atDrawn ?_)); (fail_if_success (with_reducible refine atEnd ?_)); (with_reducible refine atRun ?_); refine go 200 ?_; conv => whnf))
            refine Nx.loop (X := PnX) (PnI (headW k o) evW es) (fun x => es.length - x.j)
              (fun x => [(1, .c (.loc 1 0)), (5, sl x.A x.l.length x.c), (128, sl B es.length d), (129, iv es.length), (130, iv x.j)]) (fun x => [(1, 37, (lnE (k : Int) wh ri nn tm wy af.length A c es.length B d).map .v)]) []
              (fun x => [(0, roAll m), (1, S1), (2, S2), (5, ownS 9 x.A x.l.length x.c 1 (strs x.l))]) ⟨0, headW k o, A1, c1⟩ ⟨Nat.zero_le _, by simp⟩ ?_ ?_ ?_ ?_ ?_
            · repeat (first | exact subE.nil _ | refine subE.cons rfl rfl ?_ | refine subE.cons' rfl (fun _ => rfl) ?_)
            · repeat (first | exact subM.nil _ | refine subM.cons rfl rfl rfl ?_)
            · repeat (first | exact subB.nil _ | refine subB.cons rfl ?_)
            · repeat (first | exact subR.nil _ | refine subR.cons rfl rfl ?_)
            intro x hx ih
            have hxl := hx.len
            by_cases hlt : x.j < es.length
            · have hx64 := hwe _ (List.getElem_mem hlt)
              have nx := hx.step hlt
              repeat' (first
                | ((with_reducible refine atBr ?_); refine BrM.yes (by omega) ?_; conv => whnf)
                | ((with_reducible refine atAr ?_); refine Ar.to (k := .i64) (((x.j+1:Nat):Int)) (by omega) ⟨by omega, by omega⟩ ?_; conv => whnf)
                | ((with_reducible refine atBr ?_); (first | refine BrM.t rfl ?_ | refine BrM.f rfl ?_ | refine BrM.dec (fun _ => ?_) (fun _ => ?_) | refine BrM.mk (fun _ => ?_) (fun _ => ?_)) <;> conv => whnf)
                | ((with_reducible refine atAr ?_); refine Ar.i64 (by omega) (by omega) ?_; conv => whnf)
                | ((with_reducible refine atIdx ?_); refine Nx.idx 2 rfl rfl rfl Tryz.underlying26 rfl rfl rfl evC_len h2 rfl rfl (by omega) fun _ _ _ => ?_)
                | ((with_reducible refine atLoad ?_); first | (refine Nx.load1 2 rfl rfl rfl rfl (SeesAt.sub (by assumption) _ rfl) rfl ?_) | (refine Nx.load1 2 rfl rfl rfl rfl (by assumption) rfl ?_) | (refine Nx.load 2 rfl rfl rfl rfl (by assumption) rfl rfl ?_))
                | ((with_reducible refine (atCall 31) ?_); refine Nx.call [0] [0] rfl rfl rfl rfl rfl ((event_ok hG es[x.j] hx64)) rfl fun v Q hQ => ?_; obtain ⟨rfl, rfl⟩ := hQ)
                | ((with_reducible refine atApp ?_); refine Nx.append 5 (sz := 1) (by_ := 16) (news := [str (evW es[x.j])]) rfl rfl rfl rfl rfl Tryz.underlying56 rfl rfl rfl rfl rfl (by unfold maxLen; omega) (by omega) fun A' c'' => ?_)
                | ((with_reducible refine atOps ?_); refine go 200 ?_; conv => whnf)
                | ((with_reducible refine atPlan ?_); refine Nx.runP (n := 200) rfl (by repeat (first | exact subB.nil _ | refine subB.cons rfl ?_)) ?_; conv => whnf)
                | ((with_reducible refine atAftL ?_); refine Nx.late ?_)
                | ((fail_if_success (with_reducible refine atRet ?_)); (fail_if_success (with_reducible refine atLoop ?_)); (fail_if_success (with_reducible refine atIn ?_)); (fail_if_success (with_reducible refine atDrawn ?_)); (fail_if_success (with_reducible refine atEnd ?_)); (with_reducible refine atRun ?_); refine go 200 ?_; conv => whnf))
              refine (ih _ (nx A' c'') (by show es.length - (x.j + 1) < es.length - x.j; omega)).weak ?_ ?_ ?_ ?_
              · exact .cons rfl rfl (.cons rfl (by simp) (.cons rfl rfl (.cons rfl rfl (.cons rfl rfl (.nil _)))))
              · repeat (first | exact subM.nil _ | refine subM.cons rfl rfl rfl ?_)
              · repeat (first | exact subB.nil _ | refine subB.cons rfl ?_)
              · exact .cons rfl rfl (.cons rfl rfl (.cons rfl rfl (.cons rfl (by simp) (.nil _))))
            · have hfin : x.l = lineW o := by rw [hx.fin hlt, hlh]
              rw [hfin]
              clear ih
              refine Nx.fact 5 (p := (lineW o).length ≤ x.c ∧ x.c ≤ maxLen) rfl (fun r h hs => ownS_fit hs) fun ⟨hfit, _⟩ => ?_
              repeat' (first
                | ((with_reducible refine atBr ?_); refine BrM.not (by omega) ?_; conv => whnf)
                | ((with_reducible refine atBr ?_); (first | refine BrM.t rfl ?_ | refine BrM.f rfl ?_ | refine BrM.dec (fun _ => ?_) (fun _ => ?_) | refine BrM.mk (fun _ => ?_) (fun _ => ?_)) <;> conv => whnf)
                | ((with_reducible refine atAr ?_); refine Ar.i64 (by omega) (by omega) ?_; conv => whnf)
                | ((with_reducible refine (atCall 32) ?_); refine Nx.call [5] [5] rfl rfl rfl rfl rfl ((Join_ok x.A x.c (lineW o) hne (ownS_sees 9 x.A (lineW o).length x.c 1 (strs (lineW o))) (by omega) hfit (by omega))) rfl fun v Q hQ => ?_; obtain ⟨rfl, rfl⟩ := hQ)
                | ((with_reducible refine atRet ?_); refine Nx.ret [0,1,2] Tryz.func11 rfl rfl ?_; (exact ⟨rfl, rfl⟩))
                | ((with_reducible refine atOps ?_); refine go 200 ?_; conv => whnf)
                | ((with_reducible refine atPlan ?_); refine Nx.runP (n := 200) rfl (by repeat (first | exact subB.nil _ | refine subB.cons rfl ?_)) ?_; conv => whnf)
                | ((with_reducible refine atAftL ?_); refine Nx.late ?_)
                | ((fail_if_success (with_reducible refine atRet ?_)); (fail_if_success (with_reducible refine atLoop ?_)); (fail_if_success (with_reducible refine atIn ?_)); (fail_if_success (with_reducible refine atDrawn ?_)); (fail_if_success (with_reducible refine atEnd ?_)); (with_reducible refine atRun ?_); refine go 200 ?_; conv => whnf))
          · have hd6 : (k : Int) = 7 := by omega
            repeat' (first
              | ((with_reducible refine atBr ?_); refine BrM.yes (by omega) ?_; conv => whnf)
              | ((with_reducible refine atBr ?_); refine BrM.not (by omega) ?_; conv => whnf)
              | ((with_reducible refine atBr ?_); (first | refine BrM.t rfl ?_ | refine BrM.f rfl ?_ | refine BrM.dec (fun _ => ?_) (fun _ => ?_) | refine BrM.mk (fun _ => ?_) (fun _ => ?_)) <;> conv => whnf)
              | ((with_reducible refine atAr ?_); refine Ar.i64 (by omega) (by omega) ?_; conv => whnf)
              | ((with_reducible refine (atCall 30) ?_); refine Nx.call [] [] rfl rfl rfl rfl rfl ((behind_ok (k : Int))) rfl fun v Q hQ => ?_; obtain ⟨rfl, rfl⟩ := hQ)
              | ((with_reducible refine atOps ?_); refine go 200 ?_; conv => whnf)
              | ((with_reducible refine atPlan ?_); refine Nx.runP (n := 200) rfl (by repeat (first | exact subB.nil _ | refine subB.cons rfl ?_)) ?_; conv => whnf)
              | ((with_reducible refine atAftL ?_); refine Nx.late ?_)
              | ((fail_if_success (with_reducible refine atRet ?_)); (fail_if_success (with_reducible refine atLoop ?_)); (fail_if_success (with_reducible refine atIn ?_)); (fail_if_success (with_reducible refine atDrawn ?_)); (fail_if_success (with_reducible refine atEnd ?_)); (with_reducible refine atRun ?_); refine go 200 ?_; conv => whnf))
            refine Nx.loop (X := PnX) (PnI (headW k o) evW es) (fun x => es.length - x.j)
              (fun x => [(1, .c (.loc 1 0)), (5, sl x.A x.l.length x.c), (128, sl B es.length d), (129, iv es.length), (130, iv x.j)]) (fun x => [(1, 37, (lnE (k : Int) wh ri nn tm wy af.length A c es.length B d).map .v)]) []
              (fun x => [(0, roAll m), (1, S1), (2, S2), (5, ownS 9 x.A x.l.length x.c 1 (strs x.l))]) ⟨0, headW k o, A1, c1⟩ ⟨Nat.zero_le _, by simp⟩ ?_ ?_ ?_ ?_ ?_
            · repeat (first | exact subE.nil _ | refine subE.cons rfl rfl ?_ | refine subE.cons' rfl (fun _ => rfl) ?_)
            · repeat (first | exact subM.nil _ | refine subM.cons rfl rfl rfl ?_)
            · repeat (first | exact subB.nil _ | refine subB.cons rfl ?_)
            · repeat (first | exact subR.nil _ | refine subR.cons rfl rfl ?_)
            intro x hx ih
            have hxl := hx.len
            by_cases hlt : x.j < es.length
            · have hx64 := hwe _ (List.getElem_mem hlt)
              have nx := hx.step hlt
              repeat' (first
                | ((with_reducible refine atBr ?_); refine BrM.yes (by omega) ?_; conv => whnf)
                | ((with_reducible refine atAr ?_); refine Ar.to (k := .i64) (((x.j+1:Nat):Int)) (by omega) ⟨by omega, by omega⟩ ?_; conv => whnf)
                | ((with_reducible refine atBr ?_); (first | refine BrM.t rfl ?_ | refine BrM.f rfl ?_ | refine BrM.dec (fun _ => ?_) (fun _ => ?_) | refine BrM.mk (fun _ => ?_) (fun _ => ?_)) <;> conv => whnf)
                | ((with_reducible refine atAr ?_); refine Ar.i64 (by omega) (by omega) ?_; conv => whnf)
                | ((with_reducible refine atIdx ?_); refine Nx.idx 2 rfl rfl rfl Tryz.underlying26 rfl rfl rfl evC_len h2 rfl rfl (by omega) fun _ _ _ => ?_)
                | ((with_reducible refine atLoad ?_); first | (refine Nx.load1 2 rfl rfl rfl rfl (SeesAt.sub (by assumption) _ rfl) rfl ?_) | (refine Nx.load1 2 rfl rfl rfl rfl (by assumption) rfl ?_) | (refine Nx.load 2 rfl rfl rfl rfl (by assumption) rfl rfl ?_))
                | ((with_reducible refine (atCall 31) ?_); refine Nx.call [0] [0] rfl rfl rfl rfl rfl ((event_ok hG es[x.j] hx64)) rfl fun v Q hQ => ?_; obtain ⟨rfl, rfl⟩ := hQ)
                | ((with_reducible refine atApp ?_); refine Nx.append 5 (sz := 1) (by_ := 16) (news := [str (evW es[x.j])]) rfl rfl rfl rfl rfl Tryz.underlying56 rfl rfl rfl rfl rfl (by unfold maxLen; omega) (by omega) fun A' c'' => ?_)
                | ((with_reducible refine atOps ?_); refine go 200 ?_; conv => whnf)
                | ((with_reducible refine atPlan ?_); refine Nx.runP (n := 200) rfl (by repeat (first | exact subB.nil _ | refine subB.cons rfl ?_)) ?_; conv => whnf)
                | ((with_reducible refine atAftL ?_); refine Nx.late ?_)
                | ((fail_if_success (with_reducible refine atRet ?_)); (fail_if_success (with_reducible refine atLoop ?_)); (fail_if_success (with_reducible refine atIn ?_)); (fail_if_success (with_reducible refine atDrawn ?_)); (fail_if_success (with_reducible refine atEnd ?_)); (with_reducible refine atRun ?_); refine go 200 ?_; conv => whnf))
              refine (ih _ (nx A' c'') (by show es.length - (x.j + 1) < es.length - x.j; omega)).weak ?_ ?_ ?_ ?_
              · exact .cons rfl rfl (.cons rfl (by simp) (.cons rfl rfl (.cons rfl rfl (.cons rfl rfl (.nil _)))))
              · repeat (first | exact subM.nil _ | refine subM.cons rfl rfl rfl ?_)
              · repeat (first | exact subB.nil _ | refine subB.cons rfl ?_)
              · exact .cons rfl rfl (.cons rfl rfl (.cons rfl rfl (.cons rfl (by simp) (.nil _))))
            · have hfin : x.l = lineW o := by rw [hx.fin hlt, hlh]
              rw [hfin]
              clear ih
              refine Nx.fact 5 (p := (lineW o).length ≤ x.c ∧ x.c ≤ maxLen) rfl (fun r h hs => ownS_fit hs) fun ⟨hfit, _⟩ => ?_
              repeat' (first
                | ((with_reducible refine atBr ?_); refine BrM.not (by omega) ?_; conv => whnf)
                | ((with_reducible refine atBr ?_); (first | refine BrM.t rfl ?_ | refine BrM.f rfl ?_ | refine BrM.dec (fun _ => ?_) (fun _ => ?_) | refine BrM.mk (fun _ => ?_) (fun _ => ?_)) <;> conv => whnf)
                | ((with_reducible refine atAr ?_); refine Ar.i64 (by omega) (by omega) ?_; conv => whnf)
                | ((with_reducible refine (atCall 32) ?_); refine Nx.call [5] [5] rfl rfl rfl rfl rfl ((Join_ok x.A x.c (lineW o) hne (ownS_sees 9 x.A (lineW o).length x.c 1 (strs (lineW o))) (by omega) hfit (by omega))) rfl fun v Q hQ => ?_; obtain ⟨rfl, rfl⟩ := hQ)
                | ((with_reducible refine atRet ?_); refine Nx.ret [0,1,2] Tryz.func11 rfl rfl ?_; (exact ⟨rfl, rfl⟩))
                | ((with_reducible refine atOps ?_); refine go 200 ?_; conv => whnf)
                | ((with_reducible refine atPlan ?_); refine Nx.runP (n := 200) rfl (by repeat (first | exact subB.nil _ | refine subB.cons rfl ?_)) ?_; conv => whnf)
                | ((with_reducible refine atAftL ?_); refine Nx.late ?_)
                | ((fail_if_success (with_reducible refine atRet ?_)); (fail_if_success (with_reducible refine atLoop ?_)); (fail_if_success (with_reducible refine atIn ?_)); (fail_if_success (with_reducible refine atDrawn ?_)); (fail_if_success (with_reducible refine atEnd ?_)); (with_reducible refine atRun ?_); refine go 200 ?_; conv => whnf))
        · rw [if_neg k2, List.append_nil] at hlh
          rw [← hlh]
          refine Nx.fact 5 (p := (lineW o).length ≤ c1 ∧ c1 ≤ maxLen) rfl (fun r h hs => ownS_fit hs) fun ⟨hfit, _⟩ => ?_
          repeat' (first
            | ((with_reducible refine atBr ?_); refine BrM.not (by omega) ?_; conv => whnf)
            | ((with_reducible refine atBr ?_); (first | refine BrM.t rfl ?_ | refine BrM.f rfl ?_ | refine BrM.dec (fun _ => ?_) (fun _ => ?_) | refine BrM.mk (fun _ => ?_) (fun _ => ?_)) <;> conv => whnf)
            | ((with_reducible refine atAr ?_); refine Ar.i64 (by omega) (by omega) ?_; conv => whnf)
            | ((with_reducible refine (atCall 30) ?_); refine Nx.call [] [] rfl rfl rfl rfl rfl ((behind_ok (k : Int))) rfl fun v Q hQ => ?_; obtain ⟨rfl, rfl⟩ := hQ)
            | ((with_reducible refine (atCall 32) ?_); refine Nx.call [5] [5] rfl rfl rfl rfl rfl ((Join_ok A1 c1 (lineW o) hne (ownS_sees 9 A1 (lineW o).length c1 1 (strs (lineW o))) (by omega) hfit (by omega))) rfl fun v Q hQ => ?_; obtain ⟨rfl, rfl⟩ := hQ)
            | ((with_reducible refine atRet ?_); refine Nx.ret [0,1,2] Tryz.func11 rfl rfl ?_; (exact ⟨rfl, rfl⟩))
            | ((with_reducible refine atOps ?_); refine go 200 ?_; conv => whnf)
            | ((with_reducible refine atPlan ?_); refine Nx.runP (n := 200) rfl (by repeat (first | exact subB.nil _ | refine subB.cons rfl ?_)) ?_; conv => whnf)
            | ((with_reducible refine atAftL ?_); refine Nx.late ?_)
            | ((fail_if_success (with_reducible refine atRet ?_)); (fail_if_success (with_reducible refine atLoop ?_)); (fail_if_success (with_reducible refine atIn ?_)); (fail_if_success (with_reducible refine atDrawn ?_)); (fail_if_success (with_reducible refine atEnd ?_)); (with_reducible refine atRun ?_); refine go 200 ?_; conv => whnf))
  · have hpr := print_wrong hwr
    rw [hpr]
    have hr := right_ok o A B c d
    refine FnOk.start Tryz.func11 rfl rfl rfl rfl fun F os tape output => ?_
    refine go 200 ?_
    conv => whnf
    refine Nx.call [] [9] rfl rfl rfl rfl rfl (hr) rfl fun v Q hQ => ?_
    rcases hQ with ⟨hQ, _⟩ | ⟨_, b, q, rfl, rfl⟩
    · exact absurd hQ hwr
    repeat' (first
      | ((with_reducible refine atBr ?_); (first | refine BrM.t rfl ?_ | refine BrM.f rfl ?_ | refine BrM.dec (fun _ => ?_) (fun _ => ?_) | refine BrM.mk (fun _ => ?_) (fun _ => ?_)) <;> conv => whnf)
      | ((with_reducible refine atAr ?_); refine Ar.i64 (by omega) (by omega) ?_; conv => whnf)
      | ((with_reducible refine atRet ?_); refine Nx.ret [0,1,2,9] Tryz.func11 rfl rfl ?_; (exact ⟨_, _, rfl, rfl⟩))
      | ((with_reducible refine atOps ?_); refine go 200 ?_; conv => whnf)
      | ((with_reducible refine atPlan ?_); refine Nx.runP (n := 200) rfl (by repeat (first | exact subB.nil _ | refine subB.cons rfl ?_)) ?_; conv => whnf)
      | ((with_reducible refine atAftL ?_); refine Nx.late ?_)
      | ((fail_if_success (with_reducible refine atRet ?_)); (fail_if_success (with_reducible refine atLoop ?_)); (fail_if_success (with_reducible refine atIn ?_)); (fail_if_success (with_reducible refine atDrawn ?_)); (fail_if_success (with_reducible refine atEnd ?_)); (with_reducible refine atRun ?_); refine go 200 ?_; conv => whnf))
end Go.Proofs.YtkfnbpbhcnekiaaGreatDoor

/- How the document prints a line. -/
namespace Go.Proofs.YtkfnbpbhcnekiaaGreatDoor
open Go.RowKit Go.Lib
attribute [local irreducible] Nx Ar BrM
set_option maxRecDepth 20000
set_option maxHeartbeats 4000000

def hasD (k : Nat) (n : Int) : Bool := decide (UInt8.ofNat n.toNat ∈ shape k)
theorem has_n {k : Nat} (hk : k < 17) (n : Int) (h0 : 0 ≤ n ∧ n ≤ 255) : FnOk Tryz.prog 34 [str (shape k), .int .u8 n] [] (fun v Q => v = .bool (hasD k n) ∧ Q = []) := by
  have hl : (shape k).length ≤ 4 := (by decide : ∀ k < 17, (shape k).length ≤ 4) k hk
  have := has_ok (shape k) (UInt8.ofNat n.toNat) (by omega)
  have e : ((UInt8.ofNat n.toNat).toNat : Int) = n := by rw [UInt8.toNat_ofNat']; omega
  rw [e] at this
  exact this
theorem hd110 {k : Nat} (hk : k < 17) : hasD k 110 = decide (k = 0 ∨ k = 2 ∨ k = 3 ∨ k = 8 ∨ k = 10 ∨ k = 16) := decide_eq_decide.2 ((by decide : ∀ k < 17, ((110 : UInt8) ∈ shape k ↔ k = 0 ∨ k = 2 ∨ k = 3 ∨ k = 8 ∨ k = 10 ∨ k = 16)) k hk)
theorem hd107 {k : Nat} (hk : k < 17) : hasD k 107 = decide (k = 0) := decide_eq_decide.2 ((by decide : ∀ k < 17, ((107 : UInt8) ∈ shape k ↔ k = 0)) k hk)
theorem hd114 {k : Nat} (hk : k < 17) : hasD k 114 = decide (1 ≤ k ∧ k ≤ 4) := decide_eq_decide.2 ((by decide : ∀ k < 17, ((114 : UInt8) ∈ shape k ↔ 1 ≤ k ∧ k ≤ 4)) k hk)
theorem hd119 {k : Nat} (hk : k < 17) : hasD k 119 = decide (1 ≤ k ∧ k ≤ 4) := decide_eq_decide.2 ((by decide : ∀ k < 17, ((119 : UInt8) ∈ shape k ↔ 1 ≤ k ∧ k ≤ 4)) k hk)
theorem hd104 {k : Nat} (hk : k < 17) : hasD k 104 = decide (6 ≤ k ∧ k ≤ 14) := decide_eq_decide.2 ((by decide : ∀ k < 17, ((104 : UInt8) ∈ shape k ↔ 6 ≤ k ∧ k ≤ 14)) k hk)
theorem hd116 {k : Nat} (hk : k < 17) : hasD k 116 = decide (k = 15) := decide_eq_decide.2 ((by decide : ∀ k < 17, ((116 : UInt8) ∈ shape k ↔ k = 15)) k hk)
theorem hd97 {k : Nat} (hk : k < 17) : hasD k 97 = decide (2 ≤ k ∧ k ≤ 5) := decide_eq_decide.2 ((by decide : ∀ k < 17, ((97 : UInt8) ∈ shape k ↔ 2 ≤ k ∧ k ≤ 5)) k hk)
theorem hd101 {k : Nat} (hk : k < 17) : hasD k 101 = decide (k = 6 ∨ k = 7) := decide_eq_decide.2 ((by decide : ∀ k < 17, ((101 : UInt8) ∈ shape k ↔ k = 6 ∨ k = 7)) k hk)
def addW (s : Str) (ws : List Str) : Str := ws.foldl (fun a w => a ++ 32 :: w) s
theorem addW_snoc (s : Str) (ws : List Str) (w : Str) : addW s (ws ++ [w]) = addW s ws ++ 32 :: w := by unfold addW; rw [List.foldl_append]; rfl
theorem addW_join : ∀ (ws l : List Str), l ≠ [] → addW (joinC 32 l) ws = joinC 32 (l ++ ws)
  | [], l, _ => by simp [addW]
  | w :: ws, l, h => by
    have hs : ∀ l : List Str, l ≠ [] → joinC 32 l ++ 32 :: w = joinC 32 (l ++ [w]) := by
      intro l
      induction l with
      | nil => intro h; exact absurd rfl h
      | cons x r ih =>
        intro _
        by_cases hr : r = []
        · subst hr; simp [joinC]
        · rw [joinC_cons _ _ hr, List.cons_append, joinC_cons _ _ (by simp), ← ih hr]
          simp
    have := addW_join ws (l ++ [w]) (by simp)
    rw [List.append_assoc] at this
    unfold addW at this ⊢
    rw [List.foldl_cons, hs l h]
    exact this
theorem addW_len (M : Nat) : ∀ (ws : List Str) (s : Str), (∀ w ∈ ws, w.length ≤ M) → (addW s ws).length ≤ s.length + ws.length * (M + 1)
  | [], s, _ => by simp [addW]
  | w :: ws, s, h => by
    have h1 := h w List.mem_cons_self
    have := addW_len M ws (s ++ 32 :: w) (fun u hu => h u (List.mem_cons_of_mem _ hu))
    unfold addW at this ⊢
    rw [List.foldl_cons]
    rw [List.length_append, List.length_cons] at this
    rw [List.length_cons, Nat.add_mul]
    omega
structure PrX where
  i : Nat
  s : Str
structure PrI (o : Ln) (k : Nat) (x : PrX) : Prop where
  i : x.i ≤ (shape k).length
  e : x.s = joinC 32 (word k :: ((shape k).take x.i).flatMap (fieldW o))
  b : x.s.length ≤ 10 + x.i * 4000
theorem fieldW_cnt {o : Ln} {k : Nat} (hf : Fine o k) {c : UInt8} (hc : c ∈ shape k) : (fieldW o c).length ≤ 64 := by
  obtain ⟨s1, s2, s3, s4⟩ := shape_k k hf.lt
  unfold fieldW
  split
  · simp
  split
  · simp
  split
  · simp
  split
  · simp
  split
  · simp
  split
  · simp
  split
  · rename_i h; subst h; rw [List.length_map]; exact hf.a (s3.1 hc)
  split
  · rename_i h; subst h; rw [List.length_map]; exact hf.v (s4.1 hc)
  · simp
theorem PrI.step {o : Ln} {k : Nat} {x : PrX} (hf : Fine o k) (hw : o.wf) (h : PrI o k x) (hi : x.i < (shape k).length) : PrI o k ⟨x.i + 1, addW x.s (fieldW o (shape k)[x.i])⟩ := by
  have h1 := fieldW_cnt hf (List.getElem_mem hi)
  have h2 := addW_len 41 (fieldW o (shape k)[x.i]) x.s (fieldW_len hw _)
  have h3 := h.b
  have h4 : (fieldW o (shape k)[x.i]).length * (41 + 1) ≤ 64 * 42 := Nat.mul_le_mul h1 (Nat.le_refl _)
  refine ⟨hi, ?_, ?_⟩
  · show addW x.s _ = _
    rw [h.e, addW_join _ _ (by simp), List.take_succ_eq_append_getElem hi, List.flatMap_append]
    simp
  · show (addW x.s _).length ≤ 10 + (x.i + 1) * 4000
    omega
structure PjX where
  j : Nat
  s : Str
structure PjI {α : Type} (s0 : Str) (f : α → Str) (zs : List α) (x : PjX) : Prop where
  j : x.j ≤ zs.length
  e : x.s = addW s0 ((zs.take x.j).map f)
  b : x.s.length ≤ s0.length + x.j * 42
theorem PjI.step {α : Type} {s0 : Str} {f : α → Str} {zs : List α} {x : PjX} (h : PjI s0 f zs x) (hj : x.j < zs.length) (hl : (f zs[x.j]).length ≤ 41) : PjI s0 f zs ⟨x.j + 1, x.s ++ 32 :: f zs[x.j]⟩ := by
  have hb := h.b
  refine ⟨hj, ?_, ?_⟩
  · show x.s ++ 32 :: f zs[x.j] = _
    rw [h.e, List.take_succ_eq_append_getElem hj, List.map_append]
    exact (addW_snoc _ _ _).symm
  · show (x.s ++ 32 :: f zs[x.j]).length ≤ s0.length + (x.j + 1) * 42
    rw [List.length_append, List.length_cons]; omega
theorem PjI.fin {α : Type} {s0 : Str} {f : α → Str} {zs : List α} {x : PjX} (h : PjI s0 f zs x) (hj : ¬ x.j < zs.length) : x.s = addW s0 (zs.map f) := by
  rw [h.e, List.take_of_length_le (by omega)]

def printV (r : Except Int Str) : Value := match r with | .ok t => .tuple #[str t, .int .i64 0] | .error e => .tuple #[str [], .int .i64 e]
theorem letters : ∀ k < 17, ∀ c ∈ shape k, c = 110 ∨ c = 107 ∨ c = 114 ∨ c = 119 ∨ c = 104 ∨ c = 116 ∨ c = 97 ∨ c = 101 := by decide
theorem PrintR_ok (S1 S2 : SP) (o : Ln) (hw : o.wf) (A B : Option Addr) (c d : Nat) (h1 : Sees S1 A o.after.length 1 (intsV o.after)) (h2 : Sees S2 B o.evs.length 2 (evsV o.evs)) (l1 : o.after.length ≤ 1000000) (l2 : o.evs.length ≤ 1000000) :
    FnOk Tryz.prog 13 [lnV o A c B d] [S1, S2] (fun v Q => v = printV (printA o) ∧ Q = [S1, S2]) := by
  rw [← ints_flat] at h1
  by_cases hwr : wrongA o = 0
  · obtain ⟨k, hf⟩ := print_fine hwr
    have hp := hf.p
    have hk := hf.lt
    have he := hf.e
    rw [hp]
    have f1 := hf.r
    have f2 := hf.w
    have f3 := hf.a
    have f4 := hf.v
    have hsl : (shape k).length ≤ 4 := (by decide : ∀ k < 17, (shape k).length ≤ 4) k hk
    have hsz : (⟨(shape k).toArray⟩ : ByteArray).size = (shape k).length := by simp [ByteArray.size]
    have hwl := (word_no k hk).2.2.2.2
    have c33 := Shape_ok k hk
    have c35 := Word_ok k hk
    rw [← he] at c33 c35
    have stp := fun x (h : PrI o k x) hi => PrI.step hf hw h hi
    have hlet := letters k hk
    have h0 : PrI o k ⟨0, word k⟩ := ⟨Nat.zero_le _, by simp [joinC], by show (word k).length ≤ 10; omega⟩
    have hend : ∀ x, PrI o k x → ¬ x.i < (shape k).length → x.s = joinC 32 (lineW o) := fun x h hi => by
      rw [h.e, List.take_of_length_le (by omega)]
      unfold lineW
      rw [show o.deed.toNat = k by omega]
    have hPi := fun x (h : PrI o k x) => h.i
    have hPb := fun x (h : PrI o k x) => h.b
    obtain ⟨I, hI⟩ : ∃ I, I = PrI o k := ⟨_, rfl⟩
    rw [← hI] at stp h0 hend hPi hPb
    obtain ⟨f, hfs⟩ : ∃ f, f = shape k := ⟨_, rfl⟩
    have c34 : ∀ n, 0 ≤ n ∧ n ≤ 255 → FnOk Tryz.prog 34 [str f, .int .u8 n] [] (fun v Q => v = .bool (hasD k n) ∧ Q = []) := by rw [hfs]; exact has_n hk
    obtain ⟨wk, hwk⟩ : ∃ wk, wk = word k := ⟨_, rfl⟩
    rw [← hfs] at c33 hlet hsl hsz
    simp only [← hfs] at stp hend hPi
    rw [← hwk] at c35 h0 hwl
    clear hI hwk hp
    refine FnOk.start Tryz.func13 rfl rfl rfl rfl fun F os tape output => ?_
    refine go 200 ?_
    conv => whnf
    repeat' (first
      | ((with_reducible refine atBr ?_); refine BrM.not (by omega) ?_; conv => whnf)
      | ((with_reducible refine atBr ?_); (first | refine BrM.t rfl ?_ | refine BrM.f rfl ?_ | refine BrM.dec (fun _ => ?_) (fun _ => ?_) | refine BrM.mk (fun _ => ?_) (fun _ => ?_)) <;> conv => whnf)
      | ((with_reducible refine atAr ?_); refine Ar.i64 (by omega) (by omega) ?_; conv => whnf)
      | ((with_reducible refine atOps ?_); refine go 200 ?_; conv => whnf)
      | ((with_reducible refine atPlan ?_); refine Nx.runP (n := 200) rfl (by repeat (first | exact subB.nil _ | refine subB.cons rfl ?_)) ?_; conv => whnf)
      | ((with_reducible refine atAftL ?_); refine Nx.late ?_)
      | ((fail_if_success (with_reducible refine atRet ?_)); (fail_if_success (with_reducible refine atLoop ?_)); (fail_if_success (with_reducible refine atIn ?_)); (fail_if_success (with_reducible refine atDrawn ?_)); (fail_if_success (with_reducible refine atEnd ?_)); (with_reducible refine atRun ?_); refine go 200 ?_; conv => whnf))
    refine Nx.call [] [] rfl rfl rfl rfl rfl (c33) rfl fun v Q hQ => ?_
    obtain ⟨rfl, rfl⟩ := hQ
    refine goR 200 ?_
    conv => whnf
    refine go 1 ?_
    conv => whnf
    refine Nx.joinR (E := [(1, .c (.loc 1 0)), (2, sv []), (3, iv 0), (4, sv f), (47, .kb false)]) (M := [(1, 44, (lnC o A c B d).map .v)]) (B := []) (R := [(0, S1), (1, S2)]) (fun K => ?_) ?_
    · repeat' (first
        | ((with_reducible refine Nx.weak K ?_ ?_ ?_ ?_) <;> (first | exact subM.nil _ | exact subB.nil _ | exact subR.nil _ | ((repeat (first | exact subE.nil _ | refine subE.cons rfl rfl ?_ | refine subE.cons' rfl (fun _ => rfl) ?_ | (refine subE.cons rfl ?_ ?_; · (simp; done)))); done) | ((repeat (first | exact subM.nil _ | refine subM.cons rfl rfl rfl ?_)); done) | ((repeat (first | exact subB.nil _ | refine subB.cons rfl ?_)); done) | ((repeat (first | exact subR.nil _ | refine subR.cons rfl rfl ?_)); done) | omega | (dsimp only; omega) | skip))
        | ((with_reducible refine atBr ?_); refine BrM.not (by omega) ?_; conv => whnf)
        | ((with_reducible refine atBr ?_); refine BrM.yes (by omega) ?_; conv => whnf)
        | ((with_reducible refine atBr ?_); (first | refine BrM.t rfl ?_ | refine BrM.f rfl ?_ | refine BrM.dec (fun _ => ?_) (fun _ => ?_) | refine BrM.mk (fun _ => ?_) (fun _ => ?_)) <;> conv => whnf)
        | ((with_reducible refine atAr ?_); refine Ar.i64 (by omega) (by omega) ?_; conv => whnf)
        | ((with_reducible refine (atCall 34) ?_); refine Nx.call [] [] rfl rfl rfl rfl rfl (c34 _ (by decide)) rfl fun v Q hQ => ?_; obtain ⟨rfl, rfl⟩ := hQ; first | rw [hd107 hk] | rw [hd119 hk] | rw [hd97 hk] | rw [hd101 hk])
        | ((with_reducible refine atOps ?_); refine goR 200 ?_; conv => whnf)
        | ((with_reducible refine atPlan ?_); refine Nx.runP (n := 200) rfl (by repeat (first | exact subB.nil _ | refine subB.cons rfl ?_)) ?_; conv => whnf)
        | ((with_reducible refine atAftL ?_); refine Nx.late ?_)
        | ((fail_if_success (with_reducible refine atRet ?_)); (fail_if_success (with_reducible refine atLoop ?_)); (fail_if_success (with_reducible refine atIn ?_)); (fail_if_success (with_reducible refine atDrawn ?_)); (fail_if_success (with_reducible refine atEnd ?_)); (with_reducible refine atRun ?_); refine goR 1 ?_; conv => whnf))
    refine go 1 ?_
    conv => whnf
    refine Nx.joinR (E := [(1, .c (.loc 1 0)), (2, sv []), (3, iv 0), (4, sv f), (65, .kb false)]) (M := [(1, 44, (lnC o A c B d).map .v)]) (B := []) (R := [(0, S1), (1, S2)]) (fun K => ?_) ?_
    · repeat' (first
        | ((with_reducible refine Nx.weak K ?_ ?_ ?_ ?_) <;> (first | exact subM.nil _ | exact subB.nil _ | exact subR.nil _ | ((repeat (first | exact subE.nil _ | refine subE.cons rfl rfl ?_ | refine subE.cons' rfl (fun _ => rfl) ?_ | (refine subE.cons rfl ?_ ?_; · (simp; done)))); done) | ((repeat (first | exact subM.nil _ | refine subM.cons rfl rfl rfl ?_)); done) | ((repeat (first | exact subB.nil _ | refine subB.cons rfl ?_)); done) | ((repeat (first | exact subR.nil _ | refine subR.cons rfl rfl ?_)); done) | omega | (dsimp only; omega) | skip))
        | ((with_reducible refine atBr ?_); refine BrM.not (by omega) ?_; conv => whnf)
        | ((with_reducible refine atBr ?_); refine BrM.yes (by omega) ?_; conv => whnf)
        | ((with_reducible refine atBr ?_); (first | refine BrM.t rfl ?_ | refine BrM.f rfl ?_ | refine BrM.dec (fun _ => ?_) (fun _ => ?_) | refine BrM.mk (fun _ => ?_) (fun _ => ?_)) <;> conv => whnf)
        | ((with_reducible refine atAr ?_); refine Ar.i64 (by omega) (by omega) ?_; conv => whnf)
        | ((with_reducible refine (atCall 34) ?_); refine Nx.call [] [] rfl rfl rfl rfl rfl (c34 _ (by decide)) rfl fun v Q hQ => ?_; obtain ⟨rfl, rfl⟩ := hQ; first | rw [hd107 hk] | rw [hd119 hk] | rw [hd97 hk] | rw [hd101 hk])
        | ((with_reducible refine atOps ?_); refine goR 200 ?_; conv => whnf)
        | ((with_reducible refine atPlan ?_); refine Nx.runP (n := 200) rfl (by repeat (first | exact subB.nil _ | refine subB.cons rfl ?_)) ?_; conv => whnf)
        | ((with_reducible refine atAftL ?_); refine Nx.late ?_)
        | ((fail_if_success (with_reducible refine atRet ?_)); (fail_if_success (with_reducible refine atLoop ?_)); (fail_if_success (with_reducible refine atIn ?_)); (fail_if_success (with_reducible refine atDrawn ?_)); (fail_if_success (with_reducible refine atEnd ?_)); (with_reducible refine atRun ?_); refine goR 1 ?_; conv => whnf))
    repeat' (first
      | ((with_reducible refine atBr ?_); (first | refine BrM.t rfl ?_ | refine BrM.f rfl ?_ | refine BrM.dec (fun _ => ?_) (fun _ => ?_) | refine BrM.mk (fun _ => ?_) (fun _ => ?_)) <;> conv => whnf)
      | ((with_reducible refine atAr ?_); refine Ar.i64 (by omega) (by omega) ?_; conv => whnf)
      | ((with_reducible refine (atCall 35) ?_); refine Nx.call [] [] rfl rfl rfl rfl rfl (c35) rfl fun v Q hQ => ?_; obtain ⟨rfl, rfl⟩ := hQ)
      | ((with_reducible refine atOps ?_); refine go 200 ?_; conv => whnf)
      | ((with_reducible refine atPlan ?_); refine Nx.runP (n := 200) rfl (by repeat (first | exact subB.nil _ | refine subB.cons rfl ?_)) ?_; conv => whnf)
      | ((with_reducible refine atAftL ?_); refine Nx.late ?_)
      | ((fail_if_success (with_reducible refine atRet ?_)); (fail_if_success (with_reducible refine atLoop ?_)); (fail_if_success (with_reducible refine atIn ?_)); (fail_if_success (with_reducible refine atDrawn ?_)); (fail_if_success (with_reducible refine atEnd ?_)); (with_reducible refine atRun ?_); refine go 200 ?_; conv => whnf))
    refine Nx.loop (X := PrX) I (fun x => f.length - x.i)
      (fun x => [(1, .c (.loc 1 0)), (2, sv []), (3, iv 0), (4, sv f), (5, sv x.s), (6, iv x.i)]) (fun _ => [(1, 44, (lnC o A c B d).map .v)]) [] (fun _ => [(0, S1), (1, S2)]) ⟨0, wk⟩ h0 ?_ ?_ ?_ ?_ ?_
    · repeat (first | exact subE.nil _ | refine subE.cons rfl rfl ?_ | refine subE.cons' rfl (fun _ => rfl) ?_)
    · repeat (first | exact subM.nil _ | refine subM.cons rfl rfl rfl ?_)
    · repeat (first | exact subB.nil _ | refine subB.cons rfl ?_)
    · repeat (first | exact subR.nil _ | refine subR.cons rfl rfl ?_)
    intro x hx ih
    have hi := hPi x hx
    have hb := hPb x hx
    by_cases hlt : x.i < f.length
    · have nx := stp x hx hlt
      have hmu : f.length - (x.i + 1) < f.length - x.i := by omega
      have hby : byteAt f x.i = (f[x.i]).toNat := byteAt_nat hlt
      have hin : f[x.i] ∈ f := List.getElem_mem hlt
      obtain ⟨s3, s4⟩ := (shape_k k hk).2.2
      rw [← hfs] at s3 s4
      generalize f[x.i] = ch at nx hby hin
      have hl8 := hlet ch hin
      by_cases hd : ch = 110 ∨ ch = 107 ∨ ch = 114 ∨ ch = 119 ∨ ch = 104 ∨ ch = 116
      · clear hl8
        rcases hd with rfl | hd
        · have hby : byteAt f x.i = 110 := hby
          have hfw : fieldW o 110 = [itoa o.n] := rfl
          have hln := itoa_len hw.n
          have e5 : addW x.s [itoa o.n] = (x.s ++ [32]) ++ itoa o.n := by simp [addW]
          rw [hfw, e5] at nx
          repeat' (first
            | ((with_reducible refine atBr ?_); refine BrM.yes (by omega) ?_; conv => whnf)
            | ((with_reducible refine atBr ?_); refine BrM.not (by omega) ?_; conv => whnf)
            | ((with_reducible refine atAr ?_); refine Ar.to (k := .i64) (((x.i+1:Nat):Int)) (by omega) ⟨by omega, by omega⟩ ?_; conv => whnf)
            | ((with_reducible refine atBr ?_); (first | refine BrM.t rfl ?_ | refine BrM.f rfl ?_ | refine BrM.dec (fun _ => ?_) (fun _ => ?_) | refine BrM.mk (fun _ => ?_) (fun _ => ?_)) <;> conv => whnf)
            | ((with_reducible refine atAr ?_); refine Ar.i64 (by omega) (by omega) ?_; conv => whnf)
            | ((with_reducible refine atIndex ?_); refine Nx.sidx rfl rfl rfl Tryz.underlying9 rfl (by omega) (by omega) ?_)
            | ((with_reducible refine (atCall 21) ?_); refine Nx.call [] [] rfl rfl rfl rfl rfl ((Digits_ok o.n hw.n)) rfl fun v Q hQ => ?_; obtain ⟨rfl, rfl⟩ := hQ)
            | ((with_reducible refine atAdd ?_); refine Nx.cat rfl rfl rfl rfl ((by simp; omega)) ?_)
            | ((with_reducible refine atIn ?_); refine Nx.weak ((ih _ nx hmu)) ?_ ?_ ?_ ?_ <;> (first | exact subM.nil _ | exact subB.nil _ | exact subR.nil _ | ((repeat (first | exact subE.nil _ | refine subE.cons rfl rfl ?_ | refine subE.cons' rfl (fun _ => rfl) ?_ | (refine subE.cons rfl ?_ ?_; · (simp; done)))); done) | ((repeat (first | exact subM.nil _ | refine subM.cons rfl rfl rfl ?_)); done) | ((repeat (first | exact subB.nil _ | refine subB.cons rfl ?_)); done) | ((repeat (first | exact subR.nil _ | refine subR.cons rfl rfl ?_)); done) | omega | (dsimp only; omega) | (skip) | skip))
            | ((with_reducible refine atOps ?_); refine go 200 ?_; conv => whnf)
            | ((with_reducible refine atPlan ?_); refine Nx.runP (n := 200) rfl (by repeat (first | exact subB.nil _ | refine subB.cons rfl ?_)) ?_; conv => whnf)
            | ((with_reducible refine atAftL ?_); refine Nx.late ?_)
            | ((fail_if_success (with_reducible refine atRet ?_)); (fail_if_success (with_reducible refine atLoop ?_)); (fail_if_success (with_reducible refine atIn ?_)); (fail_if_success (with_reducible refine atDrawn ?_)); (fail_if_success (with_reducible refine atEnd ?_)); (with_reducible refine atRun ?_); refine go 200 ?_; conv => whnf))
        rcases hd with rfl | hd
        · have hby : byteAt f x.i = 107 := hby
          have hfw : fieldW o 107 = [ringName o.ring] := rfl
          rw [hfw] at nx
          by_cases hr0 : o.ring = 0
          · have hrn : ringName o.ring = ringL.getD 0 [] := by unfold ringName; rw [if_pos hr0]
            rw [hrn] at nx
            have e5 : addW x.s [ringL.getD 0 []] = x.s ++ 32 :: ringL.getD 0 [] := rfl
            rw [e5] at nx
            repeat' (first
              | ((with_reducible refine atBr ?_); refine BrM.yes (by omega) ?_; conv => whnf)
              | ((with_reducible refine atBr ?_); refine BrM.not (by omega) ?_; conv => whnf)
              | ((with_reducible refine atAr ?_); refine Ar.to (k := .i64) (((x.i+1:Nat):Int)) (by omega) ⟨by omega, by omega⟩ ?_; conv => whnf)
              | ((with_reducible refine atBr ?_); (first | refine BrM.t rfl ?_ | refine BrM.f rfl ?_ | refine BrM.dec (fun _ => ?_) (fun _ => ?_) | refine BrM.mk (fun _ => ?_) (fun _ => ?_)) <;> conv => whnf)
              | ((with_reducible refine atAr ?_); refine Ar.i64 (by omega) (by omega) ?_; conv => whnf)
              | ((with_reducible refine atIndex ?_); refine Nx.sidx rfl rfl rfl Tryz.underlying9 rfl (by omega) (by omega) ?_)
              | ((with_reducible refine atAdd ?_); refine Nx.cat rfl rfl rfl rfl ((by simp; omega)) ?_)
              | ((with_reducible refine atIn ?_); refine Nx.weak ((ih _ nx hmu)) ?_ ?_ ?_ ?_ <;> (first | exact subM.nil _ | exact subB.nil _ | exact subR.nil _ | ((repeat (first | exact subE.nil _ | refine subE.cons rfl rfl ?_ | refine subE.cons' rfl (fun _ => rfl) ?_ | (refine subE.cons rfl ?_ ?_; · (simp; done)))); done) | ((repeat (first | exact subM.nil _ | refine subM.cons rfl rfl rfl ?_)); done) | ((repeat (first | exact subB.nil _ | refine subB.cons rfl ?_)); done) | ((repeat (first | exact subR.nil _ | refine subR.cons rfl rfl ?_)); done) | omega | (dsimp only; omega) | (skip) | skip))
              | ((with_reducible refine atOps ?_); refine go 200 ?_; conv => whnf)
              | ((with_reducible refine atPlan ?_); refine Nx.runP (n := 200) rfl (by repeat (first | exact subB.nil _ | refine subB.cons rfl ?_)) ?_; conv => whnf)
              | ((with_reducible refine atAftL ?_); refine Nx.late ?_)
              | ((fail_if_success (with_reducible refine atRet ?_)); (fail_if_success (with_reducible refine atLoop ?_)); (fail_if_success (with_reducible refine atIn ?_)); (fail_if_success (with_reducible refine atDrawn ?_)); (fail_if_success (with_reducible refine atEnd ?_)); (with_reducible refine atRun ?_); refine go 200 ?_; conv => whnf))
          · have hrn : ringName o.ring = ringL.getD 1 [] := by unfold ringName; rw [if_neg hr0]
            rw [hrn] at nx
            have e5 : addW x.s [ringL.getD 1 []] = x.s ++ 32 :: ringL.getD 1 [] := rfl
            rw [e5] at nx
            repeat' (first
              | ((with_reducible refine atBr ?_); refine BrM.yes (by omega) ?_; conv => whnf)
              | ((with_reducible refine atBr ?_); refine BrM.not (by omega) ?_; conv => whnf)
              | ((with_reducible refine atAr ?_); refine Ar.to (k := .i64) (((x.i+1:Nat):Int)) (by omega) ⟨by omega, by omega⟩ ?_; conv => whnf)
              | ((with_reducible refine atBr ?_); (first | refine BrM.t rfl ?_ | refine BrM.f rfl ?_ | refine BrM.dec (fun _ => ?_) (fun _ => ?_) | refine BrM.mk (fun _ => ?_) (fun _ => ?_)) <;> conv => whnf)
              | ((with_reducible refine atAr ?_); refine Ar.i64 (by omega) (by omega) ?_; conv => whnf)
              | ((with_reducible refine atIndex ?_); refine Nx.sidx rfl rfl rfl Tryz.underlying9 rfl (by omega) (by omega) ?_)
              | ((with_reducible refine atAdd ?_); refine Nx.cat rfl rfl rfl rfl ((by simp; omega)) ?_)
              | ((with_reducible refine atIn ?_); refine Nx.weak ((ih _ nx hmu)) ?_ ?_ ?_ ?_ <;> (first | exact subM.nil _ | exact subB.nil _ | exact subR.nil _ | ((repeat (first | exact subE.nil _ | refine subE.cons rfl rfl ?_ | refine subE.cons' rfl (fun _ => rfl) ?_ | (refine subE.cons rfl ?_ ?_; · (simp; done)))); done) | ((repeat (first | exact subM.nil _ | refine subM.cons rfl rfl rfl ?_)); done) | ((repeat (first | exact subB.nil _ | refine subB.cons rfl ?_)); done) | ((repeat (first | exact subR.nil _ | refine subR.cons rfl rfl ?_)); done) | omega | (dsimp only; omega) | (skip) | skip))
              | ((with_reducible refine atOps ?_); refine go 200 ?_; conv => whnf)
              | ((with_reducible refine atPlan ?_); refine Nx.runP (n := 200) rfl (by repeat (first | exact subB.nil _ | refine subB.cons rfl ?_)) ?_; conv => whnf)
              | ((with_reducible refine atAftL ?_); refine Nx.late ?_)
              | ((fail_if_success (with_reducible refine atRet ?_)); (fail_if_success (with_reducible refine atLoop ?_)); (fail_if_success (with_reducible refine atIn ?_)); (fail_if_success (with_reducible refine atDrawn ?_)); (fail_if_success (with_reducible refine atEnd ?_)); (with_reducible refine atRun ?_); refine go 200 ?_; conv => whnf))
        rcases hd with rfl | hd
        · have hby : byteAt f x.i = 114 := hby
          have hfw : fieldW o 114 = [itoa o.ring] := rfl
          have hln := itoa_len hw.ring
          have e5 : addW x.s [itoa o.ring] = (x.s ++ [32]) ++ itoa o.ring := by simp [addW]
          rw [hfw, e5] at nx
          repeat' (first
            | ((with_reducible refine atBr ?_); refine BrM.yes (by omega) ?_; conv => whnf)
            | ((with_reducible refine atBr ?_); refine BrM.not (by omega) ?_; conv => whnf)
            | ((with_reducible refine atAr ?_); refine Ar.to (k := .i64) (((x.i+1:Nat):Int)) (by omega) ⟨by omega, by omega⟩ ?_; conv => whnf)
            | ((with_reducible refine atBr ?_); (first | refine BrM.t rfl ?_ | refine BrM.f rfl ?_ | refine BrM.dec (fun _ => ?_) (fun _ => ?_) | refine BrM.mk (fun _ => ?_) (fun _ => ?_)) <;> conv => whnf)
            | ((with_reducible refine atAr ?_); refine Ar.i64 (by omega) (by omega) ?_; conv => whnf)
            | ((with_reducible refine atIndex ?_); refine Nx.sidx rfl rfl rfl Tryz.underlying9 rfl (by omega) (by omega) ?_)
            | ((with_reducible refine (atCall 21) ?_); refine Nx.call [] [] rfl rfl rfl rfl rfl ((Digits_ok o.ring hw.ring)) rfl fun v Q hQ => ?_; obtain ⟨rfl, rfl⟩ := hQ)
            | ((with_reducible refine atAdd ?_); refine Nx.cat rfl rfl rfl rfl ((by simp; omega)) ?_)
            | ((with_reducible refine atIn ?_); refine Nx.weak ((ih _ nx hmu)) ?_ ?_ ?_ ?_ <;> (first | exact subM.nil _ | exact subB.nil _ | exact subR.nil _ | ((repeat (first | exact subE.nil _ | refine subE.cons rfl rfl ?_ | refine subE.cons' rfl (fun _ => rfl) ?_ | (refine subE.cons rfl ?_ ?_; · (simp; done)))); done) | ((repeat (first | exact subM.nil _ | refine subM.cons rfl rfl rfl ?_)); done) | ((repeat (first | exact subB.nil _ | refine subB.cons rfl ?_)); done) | ((repeat (first | exact subR.nil _ | refine subR.cons rfl rfl ?_)); done) | omega | (dsimp only; omega) | (skip) | skip))
            | ((with_reducible refine atOps ?_); refine go 200 ?_; conv => whnf)
            | ((with_reducible refine atPlan ?_); refine Nx.runP (n := 200) rfl (by repeat (first | exact subB.nil _ | refine subB.cons rfl ?_)) ?_; conv => whnf)
            | ((with_reducible refine atAftL ?_); refine Nx.late ?_)
            | ((fail_if_success (with_reducible refine atRet ?_)); (fail_if_success (with_reducible refine atLoop ?_)); (fail_if_success (with_reducible refine atIn ?_)); (fail_if_success (with_reducible refine atDrawn ?_)); (fail_if_success (with_reducible refine atEnd ?_)); (with_reducible refine atRun ?_); refine go 200 ?_; conv => whnf))
        rcases hd with rfl | hd
        · have hby : byteAt f x.i = 119 := hby
          have hfw : fieldW o 119 = [wayW o.way] := rfl
          have hln := wayW_len hw.tries hw.time
          have e5 : addW x.s [wayW o.way] = (x.s ++ [32]) ++ wayW o.way := by simp [addW]
          rw [hfw, e5] at nx
          repeat' (first
            | ((with_reducible refine atBr ?_); refine BrM.yes (by omega) ?_; conv => whnf)
            | ((with_reducible refine atBr ?_); refine BrM.not (by omega) ?_; conv => whnf)
            | ((with_reducible refine atAr ?_); refine Ar.to (k := .i64) (((x.i+1:Nat):Int)) (by omega) ⟨by omega, by omega⟩ ?_; conv => whnf)
            | ((with_reducible refine atBr ?_); (first | refine BrM.t rfl ?_ | refine BrM.f rfl ?_ | refine BrM.dec (fun _ => ?_) (fun _ => ?_) | refine BrM.mk (fun _ => ?_) (fun _ => ?_)) <;> conv => whnf)
            | ((with_reducible refine atAr ?_); refine Ar.i64 (by omega) (by omega) ?_; conv => whnf)
            | ((with_reducible refine atIndex ?_); refine Nx.sidx rfl rfl rfl Tryz.underlying9 rfl (by omega) (by omega) ?_)
            | ((with_reducible refine (atCall 36) ?_); refine Nx.call [] [] rfl rfl rfl rfl rfl ((wayR_ok o.way hw.tries hw.time)) rfl fun v Q hQ => ?_; obtain ⟨rfl, rfl⟩ := hQ)
            | ((with_reducible refine atAdd ?_); refine Nx.cat rfl rfl rfl rfl ((by simp; omega)) ?_)
            | ((with_reducible refine atIn ?_); refine Nx.weak ((ih _ nx hmu)) ?_ ?_ ?_ ?_ <;> (first | exact subM.nil _ | exact subB.nil _ | exact subR.nil _ | ((repeat (first | exact subE.nil _ | refine subE.cons rfl rfl ?_ | refine subE.cons' rfl (fun _ => rfl) ?_ | (refine subE.cons rfl ?_ ?_; · (simp; done)))); done) | ((repeat (first | exact subM.nil _ | refine subM.cons rfl rfl rfl ?_)); done) | ((repeat (first | exact subB.nil _ | refine subB.cons rfl ?_)); done) | ((repeat (first | exact subR.nil _ | refine subR.cons rfl rfl ?_)); done) | omega | (dsimp only; omega) | (skip) | skip))
            | ((with_reducible refine atOps ?_); refine go 200 ?_; conv => whnf)
            | ((with_reducible refine atPlan ?_); refine Nx.runP (n := 200) rfl (by repeat (first | exact subB.nil _ | refine subB.cons rfl ?_)) ?_; conv => whnf)
            | ((with_reducible refine atAftL ?_); refine Nx.late ?_)
            | ((fail_if_success (with_reducible refine atRet ?_)); (fail_if_success (with_reducible refine atLoop ?_)); (fail_if_success (with_reducible refine atIn ?_)); (fail_if_success (with_reducible refine atDrawn ?_)); (fail_if_success (with_reducible refine atEnd ?_)); (with_reducible refine atRun ?_); refine go 200 ?_; conv => whnf))
        rcases hd with rfl | hd
        · have hby : byteAt f x.i = 104 := hby
          have hfw : fieldW o 104 = [itoa o.who] := rfl
          have hln := itoa_len hw.who
          have e5 : addW x.s [itoa o.who] = (x.s ++ [32]) ++ itoa o.who := by simp [addW]
          rw [hfw, e5] at nx
          repeat' (first
            | ((with_reducible refine atBr ?_); refine BrM.yes (by omega) ?_; conv => whnf)
            | ((with_reducible refine atBr ?_); refine BrM.not (by omega) ?_; conv => whnf)
            | ((with_reducible refine atAr ?_); refine Ar.to (k := .i64) (((x.i+1:Nat):Int)) (by omega) ⟨by omega, by omega⟩ ?_; conv => whnf)
            | ((with_reducible refine atBr ?_); (first | refine BrM.t rfl ?_ | refine BrM.f rfl ?_ | refine BrM.dec (fun _ => ?_) (fun _ => ?_) | refine BrM.mk (fun _ => ?_) (fun _ => ?_)) <;> conv => whnf)
            | ((with_reducible refine atAr ?_); refine Ar.i64 (by omega) (by omega) ?_; conv => whnf)
            | ((with_reducible refine atIndex ?_); refine Nx.sidx rfl rfl rfl Tryz.underlying9 rfl (by omega) (by omega) ?_)
            | ((with_reducible refine (atCall 21) ?_); refine Nx.call [] [] rfl rfl rfl rfl rfl ((Digits_ok o.who hw.who)) rfl fun v Q hQ => ?_; obtain ⟨rfl, rfl⟩ := hQ)
            | ((with_reducible refine atAdd ?_); refine Nx.cat rfl rfl rfl rfl ((by simp; omega)) ?_)
            | ((with_reducible refine atIn ?_); refine Nx.weak ((ih _ nx hmu)) ?_ ?_ ?_ ?_ <;> (first | exact subM.nil _ | exact subB.nil _ | exact subR.nil _ | ((repeat (first | exact subE.nil _ | refine subE.cons rfl rfl ?_ | refine subE.cons' rfl (fun _ => rfl) ?_ | (refine subE.cons rfl ?_ ?_; · (simp; done)))); done) | ((repeat (first | exact subM.nil _ | refine subM.cons rfl rfl rfl ?_)); done) | ((repeat (first | exact subB.nil _ | refine subB.cons rfl ?_)); done) | ((repeat (first | exact subR.nil _ | refine subR.cons rfl rfl ?_)); done) | omega | (dsimp only; omega) | (skip) | skip))
            | ((with_reducible refine atOps ?_); refine go 200 ?_; conv => whnf)
            | ((with_reducible refine atPlan ?_); refine Nx.runP (n := 200) rfl (by repeat (first | exact subB.nil _ | refine subB.cons rfl ?_)) ?_; conv => whnf)
            | ((with_reducible refine atAftL ?_); refine Nx.late ?_)
            | ((fail_if_success (with_reducible refine atRet ?_)); (fail_if_success (with_reducible refine atLoop ?_)); (fail_if_success (with_reducible refine atIn ?_)); (fail_if_success (with_reducible refine atDrawn ?_)); (fail_if_success (with_reducible refine atEnd ?_)); (with_reducible refine atRun ?_); refine go 200 ?_; conv => whnf))
        subst hd
        · have hby : byteAt f x.i = 116 := hby
          have hfw : fieldW o 116 = [itoa o.at_] := rfl
          have hln := itoa_len hw.at_
          have e5 : addW x.s [itoa o.at_] = (x.s ++ [32]) ++ itoa o.at_ := by simp [addW]
          rw [hfw, e5] at nx
          repeat' (first
            | ((with_reducible refine atBr ?_); refine BrM.yes (by omega) ?_; conv => whnf)
            | ((with_reducible refine atBr ?_); refine BrM.not (by omega) ?_; conv => whnf)
            | ((with_reducible refine atAr ?_); refine Ar.to (k := .i64) (((x.i+1:Nat):Int)) (by omega) ⟨by omega, by omega⟩ ?_; conv => whnf)
            | ((with_reducible refine atBr ?_); (first | refine BrM.t rfl ?_ | refine BrM.f rfl ?_ | refine BrM.dec (fun _ => ?_) (fun _ => ?_) | refine BrM.mk (fun _ => ?_) (fun _ => ?_)) <;> conv => whnf)
            | ((with_reducible refine atAr ?_); refine Ar.i64 (by omega) (by omega) ?_; conv => whnf)
            | ((with_reducible refine atIndex ?_); refine Nx.sidx rfl rfl rfl Tryz.underlying9 rfl (by omega) (by omega) ?_)
            | ((with_reducible refine (atCall 21) ?_); refine Nx.call [] [] rfl rfl rfl rfl rfl ((Digits_ok o.at_ hw.at_)) rfl fun v Q hQ => ?_; obtain ⟨rfl, rfl⟩ := hQ)
            | ((with_reducible refine atAdd ?_); refine Nx.cat rfl rfl rfl rfl ((by simp; omega)) ?_)
            | ((with_reducible refine atIn ?_); refine Nx.weak ((ih _ nx hmu)) ?_ ?_ ?_ ?_ <;> (first | exact subM.nil _ | exact subB.nil _ | exact subR.nil _ | ((repeat (first | exact subE.nil _ | refine subE.cons rfl rfl ?_ | refine subE.cons' rfl (fun _ => rfl) ?_ | (refine subE.cons rfl ?_ ?_; · (simp; done)))); done) | ((repeat (first | exact subM.nil _ | refine subM.cons rfl rfl rfl ?_)); done) | ((repeat (first | exact subB.nil _ | refine subB.cons rfl ?_)); done) | ((repeat (first | exact subR.nil _ | refine subR.cons rfl rfl ?_)); done) | omega | (dsimp only; omega) | (skip) | skip))
            | ((with_reducible refine atOps ?_); refine go 200 ?_; conv => whnf)
            | ((with_reducible refine atPlan ?_); refine Nx.runP (n := 200) rfl (by repeat (first | exact subB.nil _ | refine subB.cons rfl ?_)) ?_; conv => whnf)
            | ((with_reducible refine atAftL ?_); refine Nx.late ?_)
            | ((fail_if_success (with_reducible refine atRet ?_)); (fail_if_success (with_reducible refine atLoop ?_)); (fail_if_success (with_reducible refine atIn ?_)); (fail_if_success (with_reducible refine atDrawn ?_)); (fail_if_success (with_reducible refine atEnd ?_)); (with_reducible refine atRun ?_); refine go 200 ?_; conv => whnf))
      · have hd2 : ch = 97 ∨ ch = 101 := by
          rcases hl8 with h | h | h | h | h | h | h | h
          · exact absurd (.inl h) hd
          · exact absurd (.inr (.inl h)) hd
          · exact absurd (.inr (.inr (.inl h))) hd
          · exact absurd (.inr (.inr (.inr (.inl h)))) hd
          · exact absurd (.inr (.inr (.inr (.inr (.inl h))))) hd
          · exact absurd (.inr (.inr (.inr (.inr (.inr h))))) hd
          · exact .inl h
          · exact .inr h
        clear hd hl8
        rcases hd2 with rfl | rfl
        · have hby : byteAt f x.i = 97 := hby
          have h64 := f3 (s3.1 hin)
          have hfw : fieldW o 97 = o.after.map itoa := rfl
          rw [hfw] at nx
          repeat' (first
            | ((with_reducible refine atBr ?_); refine BrM.yes (by omega) ?_; conv => whnf)
            | ((with_reducible refine atBr ?_); refine BrM.not (by omega) ?_; conv => whnf)
            | ((with_reducible refine atBr ?_); (first | refine BrM.t rfl ?_ | refine BrM.f rfl ?_ | refine BrM.dec (fun _ => ?_) (fun _ => ?_) | refine BrM.mk (fun _ => ?_) (fun _ => ?_)) <;> conv => whnf)
            | ((with_reducible refine atAr ?_); refine Ar.i64 (by omega) (by omega) ?_; conv => whnf)
            | ((with_reducible refine atIndex ?_); refine Nx.sidx rfl rfl rfl Tryz.underlying9 rfl (by omega) (by omega) ?_)
            | ((with_reducible refine atOps ?_); refine go 200 ?_; conv => whnf)
            | ((with_reducible refine atPlan ?_); refine Nx.runP (n := 200) rfl (by repeat (first | exact subB.nil _ | refine subB.cons rfl ?_)) ?_; conv => whnf)
            | ((with_reducible refine atAftL ?_); refine Nx.late ?_)
            | ((fail_if_success (with_reducible refine atRet ?_)); (fail_if_success (with_reducible refine atLoop ?_)); (fail_if_success (with_reducible refine atIn ?_)); (fail_if_success (with_reducible refine atDrawn ?_)); (fail_if_success (with_reducible refine atEnd ?_)); (with_reducible refine atRun ?_); refine go 200 ?_; conv => whnf))
          refine Nx.loop (X := PjX) (PjI x.s itoa o.after) (fun y => o.after.length - y.j)
            (fun y => [(1, .c (.loc 1 0)), (2, sv []), (3, iv 0), (4, sv f), (5, sv y.s), (6, iv x.i), (7, iv y.j)]) (fun _ => [(1, 44, (lnC o A c B d).map .v)]) [] (fun _ => [(0, S1), (1, S2)]) ⟨0, x.s⟩ ⟨Nat.zero_le _, rfl, Nat.le_refl _⟩ ?_ ?_ ?_ ?_ ?_
          · repeat (first | exact subE.nil _ | refine subE.cons rfl rfl ?_ | refine subE.cons' rfl (fun _ => rfl) ?_)
          · repeat (first | exact subM.nil _ | refine subM.cons rfl rfl rfl ?_)
          · repeat (first | exact subB.nil _ | refine subB.cons rfl ?_)
          · repeat (first | exact subR.nil _ | refine subR.cons rfl rfl ?_)
          intro y hy ih2
          have hyb := hy.b
          have hyj := hy.j
          by_cases hlj : y.j < o.after.length
          · have hxn := hw.after _ (List.getElem_mem hlj)
            have hln := itoa_len hxn
            have ny := hy.step hlj (by omega)
            have e5 : y.s ++ 32 :: itoa o.after[y.j] = (y.s ++ [32]) ++ itoa o.after[y.j] := by simp
            rw [e5] at ny
            repeat' (first
              | ((with_reducible refine atBr ?_); refine BrM.yes (by omega) ?_; conv => whnf)
              | ((with_reducible refine atAr ?_); refine Ar.to (k := .i64) (((y.j+1:Nat):Int)) (by omega) ⟨by omega, by omega⟩ ?_; conv => whnf)
              | ((with_reducible refine atBr ?_); (first | refine BrM.t rfl ?_ | refine BrM.f rfl ?_ | refine BrM.dec (fun _ => ?_) (fun _ => ?_) | refine BrM.mk (fun _ => ?_) (fun _ => ?_)) <;> conv => whnf)
              | ((with_reducible refine atAr ?_); refine Ar.i64 (by omega) (by omega) ?_; conv => whnf)
              | ((with_reducible refine atIdx ?_); refine Nx.idx 0 rfl rfl rfl Tryz.underlying25 rfl rfl rfl int_len h1 rfl rfl (by omega) fun _ _ _ => ?_)
              | ((with_reducible refine atLoad ?_); first | (refine Nx.load1 0 rfl rfl rfl rfl (SeesAt.sub (by assumption) _ rfl) rfl ?_) | (refine Nx.load1 0 rfl rfl rfl rfl (by assumption) rfl ?_) | (refine Nx.load 0 rfl rfl rfl rfl (by assumption) rfl rfl ?_))
              | ((with_reducible refine (atCall 21) ?_); refine Nx.call [] [] rfl rfl rfl rfl rfl ((Digits_ok o.after[y.j] hxn)) rfl fun v Q hQ => ?_; obtain ⟨rfl, rfl⟩ := hQ)
              | ((with_reducible refine atAdd ?_); refine Nx.cat rfl rfl rfl rfl ((by simp; omega)) ?_)
              | ((with_reducible refine atIn ?_); refine Nx.weak ((ih2 _ ny (by show o.after.length - (y.j + 1) < o.after.length - y.j; omega))) ?_ ?_ ?_ ?_ <;> (first | exact subM.nil _ | exact subB.nil _ | exact subR.nil _ | ((repeat (first | exact subE.nil _ | refine subE.cons rfl rfl ?_ | refine subE.cons' rfl (fun _ => rfl) ?_ | (refine subE.cons rfl ?_ ?_; · (simp; done)))); done) | ((repeat (first | exact subM.nil _ | refine subM.cons rfl rfl rfl ?_)); done) | ((repeat (first | exact subB.nil _ | refine subB.cons rfl ?_)); done) | ((repeat (first | exact subR.nil _ | refine subR.cons rfl rfl ?_)); done) | omega | (dsimp only; omega) | (skip) | skip))
              | ((with_reducible refine atOps ?_); refine go 200 ?_; conv => whnf)
              | ((with_reducible refine atPlan ?_); refine Nx.runP (n := 200) rfl (by repeat (first | exact subB.nil _ | refine subB.cons rfl ?_)) ?_; conv => whnf)
              | ((with_reducible refine atAftL ?_); refine Nx.late ?_)
              | ((fail_if_success (with_reducible refine atRet ?_)); (fail_if_success (with_reducible refine atLoop ?_)); (fail_if_success (with_reducible refine atIn ?_)); (fail_if_success (with_reducible refine atDrawn ?_)); (fail_if_success (with_reducible refine atEnd ?_)); (with_reducible refine atRun ?_); refine go 200 ?_; conv => whnf))
          · have hfin := hy.fin hlj
            rw [← hfin] at nx
            clear ih2
            repeat' (first
              | ((with_reducible refine atBr ?_); refine BrM.not (by omega) ?_; conv => whnf)
              | ((with_reducible refine atAr ?_); refine Ar.to (k := .i64) (((x.i+1:Nat):Int)) (by omega) ⟨by omega, by omega⟩ ?_; conv => whnf)
              | ((with_reducible refine atBr ?_); (first | refine BrM.t rfl ?_ | refine BrM.f rfl ?_ | refine BrM.dec (fun _ => ?_) (fun _ => ?_) | refine BrM.mk (fun _ => ?_) (fun _ => ?_)) <;> conv => whnf)
              | ((with_reducible refine atAr ?_); refine Ar.i64 (by omega) (by omega) ?_; conv => whnf)
              | ((with_reducible refine atIn ?_); refine Nx.weak ((ih _ nx hmu)) ?_ ?_ ?_ ?_ <;> (first | exact subM.nil _ | exact subB.nil _ | exact subR.nil _ | ((repeat (first | exact subE.nil _ | refine subE.cons rfl rfl ?_ | refine subE.cons' rfl (fun _ => rfl) ?_ | (refine subE.cons rfl ?_ ?_; · (simp; done)))); done) | ((repeat (first | exact subM.nil _ | refine subM.cons rfl rfl rfl ?_)); done) | ((repeat (first | exact subB.nil _ | refine subB.cons rfl ?_)); done) | ((repeat (first | exact subR.nil _ | refine subR.cons rfl rfl ?_)); done) | omega | (dsimp only; omega) | (skip) | skip))
              | ((with_reducible refine atOps ?_); refine go 200 ?_; conv => whnf)
              | ((with_reducible refine atPlan ?_); refine Nx.runP (n := 200) rfl (by repeat (first | exact subB.nil _ | refine subB.cons rfl ?_)) ?_; conv => whnf)
              | ((with_reducible refine atAftL ?_); refine Nx.late ?_)
              | ((fail_if_success (with_reducible refine atRet ?_)); (fail_if_success (with_reducible refine atLoop ?_)); (fail_if_success (with_reducible refine atIn ?_)); (fail_if_success (with_reducible refine atDrawn ?_)); (fail_if_success (with_reducible refine atEnd ?_)); (with_reducible refine atRun ?_); refine go 200 ?_; conv => whnf))
        · have hby : byteAt f x.i = 101 := hby
          have h64 := f4 (s4.1 hin)
          have hfw : fieldW o 101 = o.evs.map evW := rfl
          rw [hfw] at nx
          repeat' (first
            | ((with_reducible refine atBr ?_); refine BrM.yes (by omega) ?_; conv => whnf)
            | ((with_reducible refine atBr ?_); refine BrM.not (by omega) ?_; conv => whnf)
            | ((with_reducible refine atBr ?_); (first | refine BrM.t rfl ?_ | refine BrM.f rfl ?_ | refine BrM.dec (fun _ => ?_) (fun _ => ?_) | refine BrM.mk (fun _ => ?_) (fun _ => ?_)) <;> conv => whnf)
            | ((with_reducible refine atAr ?_); refine Ar.i64 (by omega) (by omega) ?_; conv => whnf)
            | ((with_reducible refine atIndex ?_); refine Nx.sidx rfl rfl rfl Tryz.underlying9 rfl (by omega) (by omega) ?_)
            | ((with_reducible refine atOps ?_); refine go 200 ?_; conv => whnf)
            | ((with_reducible refine atPlan ?_); refine Nx.runP (n := 200) rfl (by repeat (first | exact subB.nil _ | refine subB.cons rfl ?_)) ?_; conv => whnf)
            | ((with_reducible refine atAftL ?_); refine Nx.late ?_)
            | ((fail_if_success (with_reducible refine atRet ?_)); (fail_if_success (with_reducible refine atLoop ?_)); (fail_if_success (with_reducible refine atIn ?_)); (fail_if_success (with_reducible refine atDrawn ?_)); (fail_if_success (with_reducible refine atEnd ?_)); (with_reducible refine atRun ?_); refine go 200 ?_; conv => whnf))
          refine Nx.loop (X := PjX) (PjI x.s evW o.evs) (fun y => o.evs.length - y.j)
            (fun y => [(1, .c (.loc 1 0)), (2, sv []), (3, iv 0), (4, sv f), (5, sv y.s), (6, iv x.i), (8, iv y.j)]) (fun _ => [(1, 44, (lnC o A c B d).map .v)]) [] (fun _ => [(0, S1), (1, S2)]) ⟨0, x.s⟩ ⟨Nat.zero_le _, rfl, Nat.le_refl _⟩ ?_ ?_ ?_ ?_ ?_
          · repeat (first | exact subE.nil _ | refine subE.cons rfl rfl ?_ | refine subE.cons' rfl (fun _ => rfl) ?_)
          · repeat (first | exact subM.nil _ | refine subM.cons rfl rfl rfl ?_)
          · repeat (first | exact subB.nil _ | refine subB.cons rfl ?_)
          · repeat (first | exact subR.nil _ | refine subR.cons rfl rfl ?_)
          intro y hy ih2
          have hyb := hy.b
          have hyj := hy.j
          by_cases hlj : y.j < o.evs.length
          · have hxn := hw.evs _ (List.getElem_mem hlj)
            have hln := evW_len hxn
            have hl1 := itoa_len hxn.1
            have hl2 := itoa_len hxn.2
            have ny := hy.step hlj hln
            have e5 : y.s ++ 32 :: evW o.evs[y.j] = (((y.s ++ [32]) ++ itoa o.evs[y.j].key) ++ [58]) ++ itoa o.evs[y.j].val := by simp [evW]
            rw [e5] at ny
            repeat' (first
              | ((with_reducible refine atBr ?_); refine BrM.yes (by omega) ?_; conv => whnf)
              | ((with_reducible refine atAr ?_); refine Ar.to (k := .i64) (((y.j+1:Nat):Int)) (by omega) ⟨by omega, by omega⟩ ?_; conv => whnf)
              | ((with_reducible refine atBr ?_); (first | refine BrM.t rfl ?_ | refine BrM.f rfl ?_ | refine BrM.dec (fun _ => ?_) (fun _ => ?_) | refine BrM.mk (fun _ => ?_) (fun _ => ?_)) <;> conv => whnf)
              | ((with_reducible refine atAr ?_); refine Ar.i64 (by omega) (by omega) ?_; conv => whnf)
              | ((with_reducible refine atDrawn ?_); refine Nx.bind (l := 1) (fun _ => ?_) rfl; refine Nx.drawn0 [1] [.pure 0, .pure 1, .pure 2, .held 3, .pure 4, .pure 5, .pure 6, .held 7, .pure 11, .held 12, .pure 13, .pure 14, .pure 15, .held 16, .ex 8 true, .pure 9, .pure 10, .ex 17 true, .pure 18, .pure 19] rfl (by kernel_rfl) rfl (by kernel_rfl) rfl (by repeat (first | exact subB.nil _ | refine subB.cons rfl ?_)) rfl ?_)
              | ((with_reducible refine atHoIdx ?_); refine Nx.hoIdx 1 rfl rfl rfl Tryz.underlying26 rfl rfl rfl evC_len h2 rfl rfl (by omega) fun _ _ _ => ?_)
              | ((with_reducible refine atHoLoad ?_); first | (refine Nx.hoLoad1 rfl rfl rfl rfl List.mem_cons_self (SeesAt.sub (by assumption) _ rfl) rfl ?_) | (refine Nx.hoLoad1 rfl rfl rfl rfl List.mem_cons_self (by assumption) rfl ?_) | (refine Nx.hoLoad rfl rfl rfl rfl List.mem_cons_self (by assumption) rfl rfl ?_) | (refine Nx.hoLoad1 rfl rfl rfl rfl (List.mem_cons_of_mem _ List.mem_cons_self) (SeesAt.sub (by assumption) _ rfl) rfl ?_) | (refine Nx.hoLoad1 rfl rfl rfl rfl (List.mem_cons_of_mem _ List.mem_cons_self) (by assumption) rfl ?_) | (refine Nx.hoLoad rfl rfl rfl rfl (List.mem_cons_of_mem _ List.mem_cons_self) (by assumption) rfl rfl ?_) | (refine Nx.hoLoad1 rfl rfl rfl rfl (List.mem_cons_of_mem _ (List.mem_cons_of_mem _ List.mem_cons_self)) (SeesAt.sub (by assumption) _ rfl) rfl ?_) | (refine Nx.hoLoad1 rfl rfl rfl rfl (List.mem_cons_of_mem _ (List.mem_cons_of_mem _ List.mem_cons_self)) (by assumption) rfl ?_) | (refine Nx.hoLoad rfl rfl rfl rfl (List.mem_cons_of_mem _ (List.mem_cons_of_mem _ List.mem_cons_self)) (by assumption) rfl rfl ?_) | (refine Nx.hoLoad1 rfl rfl rfl rfl (List.mem_cons_of_mem _ (List.mem_cons_of_mem _ (List.mem_cons_of_mem _ List.mem_cons_self))) (SeesAt.sub (by assumption) _ rfl) rfl ?_) | (refine Nx.hoLoad1 rfl rfl rfl rfl (List.mem_cons_of_mem _ (List.mem_cons_of_mem _ (List.mem_cons_of_mem _ List.mem_cons_self))) (by assumption) rfl ?_) | (refine Nx.hoLoad rfl rfl rfl rfl (List.mem_cons_of_mem _ (List.mem_cons_of_mem _ (List.mem_cons_of_mem _ List.mem_cons_self))) (by assumption) rfl rfl ?_))
              | ((with_reducible refine atHoAdd ?_); refine Nx.hoCat rfl rfl rfl rfl ((by simp; omega)) ?_)
              | ((with_reducible refine (atCall 21) ?_); refine Nx.call [] [] rfl rfl rfl rfl rfl ((Digits_ok _ (by first | exact hxn.1 | exact hxn.2))) rfl fun v Q hQ => ?_; obtain ⟨rfl, rfl⟩ := hQ)
              | ((with_reducible refine atAftK ?_); refine Nx.keepN [1] rfl (by repeat (first | exact subB.nil _ | refine subB.cons rfl ?_)) (by repeat (first | exact subM.nil _ | refine subM.cons rfl rfl rfl ?_)) rfl ?_)
              | ((with_reducible refine atIn ?_); refine Nx.weak ((ih2 _ ny (by show o.evs.length - (y.j + 1) < o.evs.length - y.j; omega))) ?_ ?_ ?_ ?_ <;> (first | exact subM.nil _ | exact subB.nil _ | exact subR.nil _ | ((repeat (first | exact subE.nil _ | refine subE.cons rfl rfl ?_ | refine subE.cons' rfl (fun _ => rfl) ?_ | (refine subE.cons rfl ?_ ?_; · (simp; done)))); done) | ((repeat (first | exact subM.nil _ | refine subM.cons rfl rfl rfl ?_)); done) | ((repeat (first | exact subB.nil _ | refine subB.cons rfl ?_)); done) | ((repeat (first | exact subR.nil _ | refine subR.cons rfl rfl ?_)); done) | omega | (dsimp only; omega) | (skip) | skip))
              | ((with_reducible refine atOps ?_); refine go 200 ?_; conv => whnf)
              | ((with_reducible refine atPlan ?_); refine Nx.runP (n := 200) rfl (by repeat (first | exact subB.nil _ | refine subB.cons rfl ?_)) ?_; conv => whnf)
              | ((with_reducible refine atAftL ?_); refine Nx.late ?_)
              | ((fail_if_success (with_reducible refine atRet ?_)); (fail_if_success (with_reducible refine atLoop ?_)); (fail_if_success (with_reducible refine atIn ?_)); (fail_if_success (with_reducible refine atDrawn ?_)); (fail_if_success (with_reducible refine atEnd ?_)); (with_reducible refine atRun ?_); refine go 200 ?_; conv => whnf))
          · have hfin := hy.fin hlj
            rw [← hfin] at nx
            clear ih2
            repeat' (first
              | ((with_reducible refine atBr ?_); refine BrM.not (by omega) ?_; conv => whnf)
              | ((with_reducible refine atAr ?_); refine Ar.to (k := .i64) (((x.i+1:Nat):Int)) (by omega) ⟨by omega, by omega⟩ ?_; conv => whnf)
              | ((with_reducible refine atBr ?_); (first | refine BrM.t rfl ?_ | refine BrM.f rfl ?_ | refine BrM.dec (fun _ => ?_) (fun _ => ?_) | refine BrM.mk (fun _ => ?_) (fun _ => ?_)) <;> conv => whnf)
              | ((with_reducible refine atAr ?_); refine Ar.i64 (by omega) (by omega) ?_; conv => whnf)
              | ((with_reducible refine atIn ?_); refine Nx.weak ((ih _ nx hmu)) ?_ ?_ ?_ ?_ <;> (first | exact subM.nil _ | exact subB.nil _ | exact subR.nil _ | ((repeat (first | exact subE.nil _ | refine subE.cons rfl rfl ?_ | refine subE.cons' rfl (fun _ => rfl) ?_ | (refine subE.cons rfl ?_ ?_; · (simp; done)))); done) | ((repeat (first | exact subM.nil _ | refine subM.cons rfl rfl rfl ?_)); done) | ((repeat (first | exact subB.nil _ | refine subB.cons rfl ?_)); done) | ((repeat (first | exact subR.nil _ | refine subR.cons rfl rfl ?_)); done) | omega | (dsimp only; omega) | (skip) | skip))
              | ((with_reducible refine atOps ?_); refine go 200 ?_; conv => whnf)
              | ((with_reducible refine atPlan ?_); refine Nx.runP (n := 200) rfl (by repeat (first | exact subB.nil _ | refine subB.cons rfl ?_)) ?_; conv => whnf)
              | ((with_reducible refine atAftL ?_); refine Nx.late ?_)
              | ((fail_if_success (with_reducible refine atRet ?_)); (fail_if_success (with_reducible refine atLoop ?_)); (fail_if_success (with_reducible refine atIn ?_)); (fail_if_success (with_reducible refine atDrawn ?_)); (fail_if_success (with_reducible refine atEnd ?_)); (with_reducible refine atRun ?_); refine go 200 ?_; conv => whnf))
    · have hs := hend x hx hlt
      rw [← hs]
      repeat' (first
        | ((with_reducible refine atBr ?_); refine BrM.not (by omega) ?_; conv => whnf)
        | ((with_reducible refine atBr ?_); (first | refine BrM.t rfl ?_ | refine BrM.f rfl ?_ | refine BrM.dec (fun _ => ?_) (fun _ => ?_) | refine BrM.mk (fun _ => ?_) (fun _ => ?_)) <;> conv => whnf)
        | ((with_reducible refine atAr ?_); refine Ar.i64 (by omega) (by omega) ?_; conv => whnf)
        | ((with_reducible refine atRet ?_); refine Nx.ret [0,1] Tryz.func13 rfl rfl ?_; (exact ⟨rfl, rfl⟩))
        | ((with_reducible refine atOps ?_); refine go 200 ?_; conv => whnf)
        | ((with_reducible refine atPlan ?_); refine Nx.runP (n := 200) rfl (by repeat (first | exact subB.nil _ | refine subB.cons rfl ?_)) ?_; conv => whnf)
        | ((with_reducible refine atAftL ?_); refine Nx.late ?_)
        | ((fail_if_success (with_reducible refine atRet ?_)); (fail_if_success (with_reducible refine atLoop ?_)); (fail_if_success (with_reducible refine atIn ?_)); (fail_if_success (with_reducible refine atDrawn ?_)); (fail_if_success (with_reducible refine atEnd ?_)); (with_reducible refine atRun ?_); refine go 200 ?_; conv => whnf))
  · rw [print_wrong hwr]
    by_cases hA : wA o
    · have he : wrongA o = 1 := by unfold wrongA; rw [if_pos hA]
      rw [he]
      unfold wA at hA
      refine FnOk.start Tryz.func13 rfl rfl rfl rfl fun F os tape output => ?_
      refine go 200 ?_
      conv => whnf
      repeat' (first
        | ((with_reducible refine atBr ?_); refine BrM.not (by omega) ?_; conv => whnf)
        | ((with_reducible refine atBr ?_); refine BrM.yes (by omega) ?_; conv => whnf)
        | ((with_reducible refine atBr ?_); (first | refine BrM.t rfl ?_ | refine BrM.f rfl ?_ | refine BrM.dec (fun _ => ?_) (fun _ => ?_) | refine BrM.mk (fun _ => ?_) (fun _ => ?_)) <;> conv => whnf)
        | ((with_reducible refine atAr ?_); refine Ar.i64 (by omega) (by omega) ?_; conv => whnf)
        | ((with_reducible refine atRet ?_); refine Nx.ret [0,1] Tryz.func13 rfl rfl ?_; (exact ⟨rfl, rfl⟩))
        | ((with_reducible refine atOps ?_); refine go 200 ?_; conv => whnf)
        | ((with_reducible refine atPlan ?_); refine Nx.runP (n := 200) rfl (by repeat (first | exact subB.nil _ | refine subB.cons rfl ?_)) ?_; conv => whnf)
        | ((with_reducible refine atAftL ?_); refine Nx.late ?_)
        | ((fail_if_success (with_reducible refine atRet ?_)); (fail_if_success (with_reducible refine atLoop ?_)); (fail_if_success (with_reducible refine atIn ?_)); (fail_if_success (with_reducible refine atDrawn ?_)); (fail_if_success (with_reducible refine atEnd ?_)); (with_reducible refine atRun ?_); refine go 200 ?_; conv => whnf))
    · obtain ⟨k, hk, he⟩ := deed_nat (show ¬ (o.deed < 0 ∨ 16 < o.deed) from hA)
      have c33 := Shape_ok k hk
      rw [← he] at c33
      obtain ⟨f, hfs⟩ : ∃ f, f = shape k := ⟨_, rfl⟩
      have c34 : ∀ n, 0 ≤ n ∧ n ≤ 255 → FnOk Tryz.prog 34 [str f, .int .u8 n] [] (fun v Q => v = .bool (hasD k n) ∧ Q = []) := by rw [hfs]; exact has_n hk
      rw [← hfs] at c33
      clear hfs
      by_cases hBC : wB o ∨ wC o
      · have hw1 : wrongA o = 1 := by
          unfold wrongA
          rw [if_neg hA]
          rcases hBC with h | h
          · rw [if_pos h]
          · by_cases h' : wB o
            · rw [if_pos h']
            · rw [if_neg h', if_pos h]
        rw [hw1]
        unfold wA at hA
        unfold wB wC at hBC
        refine FnOk.start Tryz.func13 rfl rfl rfl rfl fun F os tape output => ?_
        refine go 200 ?_
        conv => whnf
        repeat' (first
          | ((with_reducible refine atBr ?_); refine BrM.not (by omega) ?_; conv => whnf)
          | ((with_reducible refine atBr ?_); refine BrM.yes (by omega) ?_; conv => whnf)
          | ((with_reducible refine atBr ?_); (first | refine BrM.t rfl ?_ | refine BrM.f rfl ?_ | refine BrM.dec (fun _ => ?_) (fun _ => ?_) | refine BrM.mk (fun _ => ?_) (fun _ => ?_)) <;> conv => whnf)
          | ((with_reducible refine atAr ?_); refine Ar.i64 (by omega) (by omega) ?_; conv => whnf)
          | ((with_reducible refine (atCall 33) ?_); refine Nx.call [] [] rfl rfl rfl rfl rfl (c33) rfl fun v Q hQ => ?_; obtain ⟨rfl, rfl⟩ := hQ)
          | ((with_reducible refine (atCall 34) ?_); refine Nx.call [] [] rfl rfl rfl rfl rfl (c34 _ (by decide)) rfl fun v Q hQ => ?_; obtain ⟨rfl, rfl⟩ := hQ; first | rw [hd107 hk] | rw [hd119 hk] | rw [hd97 hk] | rw [hd101 hk])
          | ((with_reducible refine atRet ?_); refine Nx.ret [0,1] Tryz.func13 rfl rfl ?_; (exact ⟨rfl, rfl⟩))
          | ((with_reducible refine atOps ?_); refine go 200 ?_; conv => whnf)
          | ((with_reducible refine atPlan ?_); refine Nx.runP (n := 200) rfl (by repeat (first | exact subB.nil _ | refine subB.cons rfl ?_)) ?_; conv => whnf)
          | ((with_reducible refine atAftL ?_); refine Nx.late ?_)
          | ((fail_if_success (with_reducible refine atRet ?_)); (fail_if_success (with_reducible refine atLoop ?_)); (fail_if_success (with_reducible refine atIn ?_)); (fail_if_success (with_reducible refine atDrawn ?_)); (fail_if_success (with_reducible refine atEnd ?_)); (with_reducible refine atRun ?_); refine go 200 ?_; conv => whnf))
      · have hD : wD o := by
          by_cases h : wD o
          · exact h
          · exact absurd (by unfold wrongA; rw [if_neg hA, if_neg (fun h => hBC (.inl h)), if_neg (fun h => hBC (.inr h)), if_neg h]) hwr
        have hw8 : wrongA o = 8 := by
          unfold wrongA
          rw [if_neg hA, if_neg (fun h => hBC (.inl h)), if_neg (fun h => hBC (.inr h)), if_pos hD]
        rw [hw8]
        unfold wA at hA
        unfold wB wC at hBC
        unfold wD at hD
        refine FnOk.start Tryz.func13 rfl rfl rfl rfl fun F os tape output => ?_
        refine go 200 ?_
        conv => whnf
        repeat' (first
          | ((with_reducible refine atBr ?_); refine BrM.not (by omega) ?_; conv => whnf)
          | ((with_reducible refine atBr ?_); refine BrM.yes (by omega) ?_; conv => whnf)
          | ((with_reducible refine atBr ?_); (first | refine BrM.t rfl ?_ | refine BrM.f rfl ?_ | refine BrM.dec (fun _ => ?_) (fun _ => ?_) | refine BrM.mk (fun _ => ?_) (fun _ => ?_)) <;> conv => whnf)
          | ((with_reducible refine atAr ?_); refine Ar.i64 (by omega) (by omega) ?_; conv => whnf)
          | ((with_reducible refine (atCall 33) ?_); refine Nx.call [] [] rfl rfl rfl rfl rfl (c33) rfl fun v Q hQ => ?_; obtain ⟨rfl, rfl⟩ := hQ)
          | ((with_reducible refine (atCall 34) ?_); refine Nx.call [] [] rfl rfl rfl rfl rfl (c34 _ (by decide)) rfl fun v Q hQ => ?_; obtain ⟨rfl, rfl⟩ := hQ; first | rw [hd107 hk] | rw [hd119 hk] | rw [hd97 hk] | rw [hd101 hk])
          | ((with_reducible refine atRet ?_); refine Nx.ret [0,1] Tryz.func13 rfl rfl ?_; (exact ⟨rfl, rfl⟩))
          | ((with_reducible refine atOps ?_); refine go 200 ?_; conv => whnf)
          | ((with_reducible refine atPlan ?_); refine Nx.runP (n := 200) rfl (by repeat (first | exact subB.nil _ | refine subB.cons rfl ?_)) ?_; conv => whnf)
          | ((with_reducible refine atAftL ?_); refine Nx.late ?_)
          | ((fail_if_success (with_reducible refine atRet ?_)); (fail_if_success (with_reducible refine atLoop ?_)); (fail_if_success (with_reducible refine atIn ?_)); (fail_if_success (with_reducible refine atDrawn ?_)); (fail_if_success (with_reducible refine atEnd ?_)); (with_reducible refine atRun ?_); refine go 200 ?_; conv => whnf))
end Go.Proofs.YtkfnbpbhcnekiaaGreatDoor
