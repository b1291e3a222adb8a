/- small, Count, Behind. -/
import Derived.Test.YtnnhgopibbdlkaaTrD
namespace Go.Proofs.Ytnnhgopibbdlkaa
open Go.RowKit
attribute [local irreducible] Nx Ar

theorem small_ok (S : SP) (A : Option Addr) (c : Nat) (n : Nat) :
    FnOk Try.prog 10 [.slice A n c] [S] (fun v Q => v = .bool (decide (n ≤ 120)) ∧ Q = [S]) := by
  refine FnOk.start Try.func10 rfl rfl rfl rfl fun F os tape output => ?_
  refine go 200 ?_
  conv => whnf
  refine Nx.ret [0] Try.func10 rfl rfl ?_
  exact ⟨by simp only [oneV]; congr 1; rw [decide_eq_decide]; omega, rfl⟩

def cntW (m : List Note) (w : Int) : Int := (m.filter fun n => decide (n.who = w)).length
theorem cntW_snoc (m : List Note) (x : Note) (w : Int) : cntW (m ++ [x]) w = if x.who = w then cntW m w + 1 else cntW m w := by
  unfold cntW
  rw [List.filter_append]
  by_cases h : x.who = w <;> simp [List.filter_cons, h]
theorem cntW_le (m : List Note) (w : Int) : 0 ≤ cntW m w ∧ cntW m w ≤ m.length := by
  unfold cntW
  exact ⟨by omega, by exact_mod_cast List.length_filter_le _ _⟩
def cntP (ring who : Int) (n : Note) : Bool := decide (n.ring = ring) && decide (n.deed = 2) && decide (n.who = who)
theorem cnt_eq (l : List Note) (ring who : Int) : ((l.filter (cntP ring who)).length : Int) = cntW (l.filter (atP ring [2])) who := by
  unfold cntW
  rw [List.filter_filter]
  congr 2
  apply List.filter_congr
  intro n _
  simp [cntP, atP, Bool.and_comm, Bool.and_left_comm]

theorem Count_ok (S : SP) (A : Option Addr) (c : Nat) (l : List Note) (ring who n : Int) (hl : l.length ≤ 2199023255488) (hs : Sees S A l.length 8 (notes l)) :
    FnOk Try.prog 23 [.slice A l.length c, .int .i64 ring, .int .i64 who, .int .i64 n] [S] (fun v Q => v = .int .i64 (cntW ((l.take n.toNat).filter (atP ring [2])) who) ∧ Q = [S]) := by
  refine FnOk.start Try.func23 rfl rfl rfl rfl fun F os tape output => ?_
  refine go 200 ?_
  conv => whnf
  rw [← cnt_eq]
  obtain ⟨f, hf⟩ : ∃ f : Note → Bool, f = cntP ring who := ⟨_, rfl⟩
  rw [← hf]
  refine Nx.loop (X := Nat) (fun k => k ≤ l.length ∧ k ≤ n.toNat) (fun k => l.length - k)
    (fun k => [(0, sl A l.length c), (1, iv ring), (2, iv who), (3, iv n), (9, iv (flt f l k).length), (10, iv k)]) (fun _ => []) [] (fun _ => [(0, S)])
    0 ⟨Nat.zero_le _, Nat.zero_le _⟩ ?_ ?_ ?_ ?_ ?_
  · repeat (first | exact subE.nil _ | refine subE.cons rfl rfl ?_ | refine subE.cons' rfl (fun _ => rfl) ?_)
  · repeat (first | exact subM.nil _ | refine subM.cons rfl rfl rfl ?_)
  · repeat (first | exact subB.nil _ | refine subB.cons rfl ?_)
  · repeat (first | exact subR.nil _ | refine subR.cons rfl rfl ?_)
  intro k ⟨hk, hn⟩ ih
  have hle := flt_le f l k
  refine go 200 ?_
  conv => whnf
  refine BrM.dec (fun h1 => ?_) (fun h1 => ?_)
  · refine go 200 ?_
    conv => whnf
    refine BrM.dec (fun h2 => ?_) (fun h2 => ?_)
    · have hlt : k < l.length := by omega
      refine go 200 ?_
      conv => whnf
      refine Nx.idx 0 rfl rfl rfl Try.underlying22 rfl rfl rfl Note.enc_len hs rfl rfl hlt fun b p hq1 => ?_
      refine go 200 ?_
      conv => whnf
      refine Nx.load1 0 rfl rfl rfl rfl (SeesAt.sub hq1 1 rfl) rfl ?_
      refine go 200 ?_
      conv => whnf
      refine BrM.dec (fun h3 => ?_) (fun h3 => ?_)
      · refine go 200 ?_
        conv => whnf
        refine Nx.idx 0 rfl rfl rfl Try.underlying22 rfl rfl rfl Note.enc_len hs rfl rfl hlt fun b p hq2 => ?_
        refine go 200 ?_
        conv => whnf
        refine Nx.load1 0 rfl rfl rfl rfl (SeesAt.sub hq2 2 rfl) rfl ?_
        refine go 200 ?_
        conv => whnf
        refine BrM.dec (fun h4 => ?_) (fun h4 => ?_)
        · refine go 200 ?_
          conv => whnf
          refine Nx.idx 0 rfl rfl rfl Try.underlying22 rfl rfl rfl Note.enc_len hs rfl rfl hlt fun b p hq3 => ?_
          refine go 200 ?_
          conv => whnf
          refine Nx.load1 0 rfl rfl rfl rfl (SeesAt.sub hq3 0 rfl) rfl ?_
          refine go 200 ?_
          conv => whnf
          refine BrM.dec (fun h5 => ?_) (fun h5 => ?_)
          · refine go 200 ?_
            conv => whnf
            refine Ar.i64 (by omega) (by omega) ?_
            refine go 200 ?_
            conv => whnf
            refine Ar.i64 (by omega) (by omega) ?_
            refine go 200 ?_
            conv => whnf
            have e := flt_yes (p := f) hlt (by rw [hf]; simp [cntP, h3, h4, h5])
            refine (ih (k + 1) (by omega) (by omega)).weak ?_ ?_ ?_ ?_
            · exact .cons rfl rfl (.cons rfl rfl (.cons rfl rfl (.cons rfl rfl (.cons rfl (by rw [e]; simp) (.cons rfl (by simp) (.nil _))))))
            · repeat (first | exact subM.nil _ | refine subM.cons rfl rfl rfl ?_)
            · repeat (first | exact subB.nil _ | refine subB.cons rfl ?_)
            · repeat (first | exact subR.nil _ | refine subR.cons rfl rfl ?_)
          · refine go 200 ?_
            conv => whnf
            refine Ar.i64 (by omega) (by omega) ?_
            refine go 200 ?_
            conv => whnf
            have e := flt_no (p := f) hlt (by rw [hf]; simp [cntP, h5])
            refine (ih (k + 1) (by omega) (by omega)).weak ?_ ?_ ?_ ?_
            · exact .cons rfl rfl (.cons rfl rfl (.cons rfl rfl (.cons rfl rfl (.cons rfl (by rw [e]) (.cons rfl (by simp) (.nil _))))))
            · repeat (first | exact subM.nil _ | refine subM.cons rfl rfl rfl ?_)
            · repeat (first | exact subB.nil _ | refine subB.cons rfl ?_)
            · repeat (first | exact subR.nil _ | refine subR.cons rfl rfl ?_)
        · refine go 200 ?_
          conv => whnf
          refine Ar.i64 (by omega) (by omega) ?_
          refine go 200 ?_
          conv => whnf
          have e := flt_no (p := f) hlt (by rw [hf]; simp [cntP, h4])
          refine (ih (k + 1) (by omega) (by omega)).weak ?_ ?_ ?_ ?_
          · exact .cons rfl rfl (.cons rfl rfl (.cons rfl rfl (.cons rfl rfl (.cons rfl (by rw [e]) (.cons rfl (by simp) (.nil _))))))
          · repeat (first | exact subM.nil _ | refine subM.cons rfl rfl rfl ?_)
          · repeat (first | exact subB.nil _ | refine subB.cons rfl ?_)
          · repeat (first | exact subR.nil _ | refine subR.cons rfl rfl ?_)
      · refine go 200 ?_
        conv => whnf
        refine Ar.i64 (by omega) (by omega) ?_
        refine go 200 ?_
        conv => whnf
        have e := flt_no (p := f) hlt (by rw [hf]; simp [cntP, h3])
        refine (ih (k + 1) (by omega) (by omega)).weak ?_ ?_ ?_ ?_
        · exact .cons rfl rfl (.cons rfl rfl (.cons rfl rfl (.cons rfl rfl (.cons rfl (by rw [e]) (.cons rfl (by simp) (.nil _))))))
        · repeat (first | exact subM.nil _ | refine subM.cons rfl rfl rfl ?_)
        · repeat (first | exact subB.nil _ | refine subB.cons rfl ?_)
        · repeat (first | exact subR.nil _ | refine subR.cons rfl rfl ?_)
    · refine go 200 ?_
      conv => whnf
      refine Nx.ret [0] Try.func23 rfl rfl ?_
      have e : flt f l k = (l.take n.toNat).filter f := by
        unfold flt
        rw [List.take_of_length_le (by omega), List.take_of_length_le (by omega)]
      rw [e]
      exact ⟨rfl, rfl⟩
  · refine go 200 ?_
    conv => whnf
    refine Nx.ret [0] Try.func23 rfl rfl ?_
    have e : k = n.toNat := by omega
    rw [e]
    exact ⟨rfl, rfl⟩

structure BehSt where
  a : Int
  b : Int
  most : Int
def BehSt.step (who other : Int) (s : BehSt) (n : Note) : BehSt :=
  ⟨if n.who = who then s.a + 1 else s.a, if n.who = other then s.b + 1 else s.b, max s.most ((if n.who = other then s.b + 1 else s.b) - (if n.who = who then s.a + 1 else s.a))⟩
def behind (who other : Int) (m : List Note) : BehSt := m.foldl (BehSt.step who other) ⟨0, 0, 0⟩
theorem behind_snoc (who other : Int) (m : List Note) (x : Note) : behind who other (m ++ [x]) = (behind who other m).step who other x := by
  simp [behind, List.foldl_append]
structure BehSt.ok (s : BehSt) (n : Nat) : Prop where
  a0 : 0 ≤ s.a
  a1 : s.a ≤ n
  b0 : 0 ≤ s.b
  b1 : s.b ≤ n
  m0 : 0 ≤ s.most
  m1 : s.most ≤ n
abbrev behTo (who other : Int) (l : List Note) (k : Nat) : BehSt := behind who other (l.take k)
theorem behind_ok (who other : Int) (l : List Note) : ∀ k, k ≤ l.length → (behind who other (l.take k)).ok k
  | 0, _ => by simp only [List.take_zero]; exact ⟨Int.le_refl 0, Int.le_refl 0, Int.le_refl 0, Int.le_refl 0, Int.le_refl 0, Int.le_refl 0⟩
  | k + 1, h => by
    obtain ⟨a0, a1, b0, b1, m0, m1⟩ := behind_ok who other l k (by omega)
    rw [List.take_succ_eq_append_getElem (by omega : k < l.length), behind_snoc]
    unfold BehSt.step
    constructor <;> dsimp only <;> (repeat' split) <;> omega
theorem behTo_succ {who other : Int} {l : List Note} {k : Nat} (hk : k < l.length) : behTo who other l (k + 1) = (behTo who other l k).step who other l[k] := by
  unfold behTo; rw [List.take_succ_eq_append_getElem hk, behind_snoc]

structure BhSt where
  k : Nat

theorem Behind_ok (S : SP) (A : Option Addr) (c : Nat) (l : List Note) (ring who other : Int) (hl : l.length ≤ 2199023255488) (hs : Sees S A l.length 8 (notes l)) :
    FnOk Try.prog 24 [.slice A l.length c, .int .i64 ring, .int .i64 who, .int .i64 other] [S] (fun v Q => v = .int .i64 (behind who other (l.filter (atP ring [2]))).most ∧ Q = [S]) := by
  refine FnOk.start Try.func24 rfl rfl rfl rfl fun F os tape output => ?_
  refine go 200 ?_
  conv => whnf
  intro b16
  refine go 200 ?_
  conv => whnf
  refine Nx.out 16 rfl rfl rfl rfl ?_
  refine Nx.call [0,16] [0,16,1] rfl rfl rfl rfl rfl (At_ok S _ _ _ _ _ l [2] ring hl (by simp) hs (blk_sees b16 1 1 32 [.int .i64 2] rfl)) rfl fun v Q hQ => ?_
  obtain ⟨A1, c1, rfl, rfl⟩ := hQ
  have hm := List.length_filter_le (atP ring [2]) l
  generalize hmm : l.filter (atP ring [2]) = m at hm
  refine go 200 ?_
  conv => whnf
  refine Nx.loop (X := BhSt) (fun x => x.k ≤ m.length) (fun x => m.length - x.k)
    (fun x => [(2, iv who), (3, iv other), (9, iv (behTo who other m x.k).a), (10, iv (behTo who other m x.k).b), (11, iv (behTo who other m x.k).most), (17, sl A1 m.length c1), (18, iv m.length), (19, iv x.k)]) (fun _ => []) [] (fun _ => [(0, S), (1, ownS 37 A1 m.length c1 8 (notes m))])
    ⟨0⟩ (Nat.zero_le _) ?_ ?_ ?_ ?_ ?_
  · repeat (first | exact subE.nil _ | refine subE.cons rfl rfl ?_ | refine subE.cons' rfl (fun _ => rfl) ?_)
  · repeat (first | exact subM.nil _ | refine subM.cons rfl rfl rfl ?_)
  · repeat (first | exact subB.nil _ | refine subB.cons rfl ?_)
  · repeat (first | exact subR.nil _ | refine subR.cons rfl rfl ?_)
  intro x hk ih
  have hb : (behTo who other m x.k).ok x.k := behind_ok who other m x.k hk
  obtain ⟨a0, a1, b0, b1, m0, m1⟩ := hb
  refine go 200 ?_
  conv => whnf
  refine BrM.dec (fun h1 => ?_) (fun h1 => ?_)
  · have hlt : x.k < m.length := by omega
    have hsu := behTo_succ (who := who) (other := other) hlt
    unfold BehSt.step at hsu
    refine go 200 ?_
    conv => whnf
    refine Nx.idx 1 rfl rfl rfl Try.underlying22 rfl rfl rfl Note.enc_len (ownS_sees 37 A1 m.length c1 8 (notes m)) rfl rfl hlt fun b p hq => ?_
    refine go 200 ?_
    conv => whnf
    refine Nx.load 1 rfl rfl rfl rfl hq rfl rfl ?_
    refine go 200 ?_
    conv => whnf
    refine BrM.dec (fun h2 => ?_) (fun h2 => ?_)
    · rw [if_pos h2] at hsu
      refine go 200 ?_
      conv => whnf
      refine Ar.i64 (by omega) (by omega) ?_
      refine go 200 ?_
      conv => whnf
      refine BrM.dec (fun h3 => ?_) (fun h3 => ?_)
      · rw [if_pos h3] at hsu
        refine go 200 ?_
        conv => whnf
        refine Ar.i64 (by omega) (by omega) ?_
        refine go 200 ?_
        conv => whnf
        refine Ar.i64 (by omega) (by omega) ?_
        refine go 200 ?_
        conv => whnf
        refine Ar.i64 (by omega) (by omega) ?_
        refine go 200 ?_
        conv => whnf
        refine (ih ⟨x.k + 1⟩ (by show x.k + 1 ≤ _; omega) (by show m.length - (x.k + 1) < _; omega)).weak ?_ ?_ ?_ ?_
        · exact .cons rfl rfl (.cons rfl rfl (.cons rfl (by rw [hsu]) (.cons rfl (by rw [hsu]) (.cons rfl (by rw [hsu]) (.cons rfl rfl (.cons rfl rfl (.cons rfl (by simp) (.nil _))))))))
        · repeat (first | exact subM.nil _ | refine subM.cons rfl rfl rfl ?_)
        · repeat (first | exact subB.nil _ | refine subB.cons rfl ?_)
        · repeat (first | exact subR.nil _ | refine subR.cons rfl rfl ?_)
      · rw [if_neg h3] at hsu
        refine go 200 ?_
        conv => whnf
        refine Ar.i64 (by omega) (by omega) ?_
        refine go 200 ?_
        conv => whnf
        refine Ar.i64 (by omega) (by omega) ?_
        refine go 200 ?_
        conv => whnf
        refine (ih ⟨x.k + 1⟩ (by show x.k + 1 ≤ _; omega) (by show m.length - (x.k + 1) < _; omega)).weak ?_ ?_ ?_ ?_
        · exact .cons rfl rfl (.cons rfl rfl (.cons rfl (by rw [hsu]) (.cons rfl (by rw [hsu]) (.cons rfl (by rw [hsu]) (.cons rfl rfl (.cons rfl rfl (.cons rfl (by simp) (.nil _))))))))
        · repeat (first | exact subM.nil _ | refine subM.cons rfl rfl rfl ?_)
        · repeat (first | exact subB.nil _ | refine subB.cons rfl ?_)
        · repeat (first | exact subR.nil _ | refine subR.cons rfl rfl ?_)
    · rw [if_neg h2] at hsu
      refine go 200 ?_
      conv => whnf
      refine BrM.dec (fun h3 => ?_) (fun h3 => ?_)
      · rw [if_pos h3] at hsu
        refine go 200 ?_
        conv => whnf
        refine Ar.i64 (by omega) (by omega) ?_
        refine go 200 ?_
        conv => whnf
        refine Ar.i64 (by omega) (by omega) ?_
        refine go 200 ?_
        conv => whnf
        refine Ar.i64 (by omega) (by omega) ?_
        refine go 200 ?_
        conv => whnf
        refine (ih ⟨x.k + 1⟩ (by show x.k + 1 ≤ _; omega) (by show m.length - (x.k + 1) < _; omega)).weak ?_ ?_ ?_ ?_
        · exact .cons rfl rfl (.cons rfl rfl (.cons rfl (by rw [hsu]) (.cons rfl (by rw [hsu]) (.cons rfl (by rw [hsu]) (.cons rfl rfl (.cons rfl rfl (.cons rfl (by simp) (.nil _))))))))
        · repeat (first | exact subM.nil _ | refine subM.cons rfl rfl rfl ?_)
        · repeat (first | exact subB.nil _ | refine subB.cons rfl ?_)
        · repeat (first | exact subR.nil _ | refine subR.cons rfl rfl ?_)
      · rw [if_neg h3] at hsu
        refine go 200 ?_
        conv => whnf
        refine Ar.i64 (by omega) (by omega) ?_
        refine go 200 ?_
        conv => whnf
        refine Ar.i64 (by omega) (by omega) ?_
        refine go 200 ?_
        conv => whnf
        refine (ih ⟨x.k + 1⟩ (by show x.k + 1 ≤ _; omega) (by show m.length - (x.k + 1) < _; omega)).weak ?_ ?_ ?_ ?_
        · exact .cons rfl rfl (.cons rfl rfl (.cons rfl (by rw [hsu]) (.cons rfl (by rw [hsu]) (.cons rfl (by rw [hsu]) (.cons rfl rfl (.cons rfl rfl (.cons rfl (by simp) (.nil _))))))))
        · repeat (first | exact subM.nil _ | refine subM.cons rfl rfl rfl ?_)
        · repeat (first | exact subB.nil _ | refine subB.cons rfl ?_)
        · repeat (first | exact subR.nil _ | refine subR.cons rfl rfl ?_)
  · refine go 200 ?_
    conv => whnf
    refine Nx.ret [0] Try.func24 rfl rfl ?_
    have hx : x.k = m.length := by omega
    rw [hx, behTo, List.take_length]
    exact ⟨rfl, rfl⟩
end Go.Proofs.Ytnnhgopibbdlkaa
