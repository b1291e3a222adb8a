/- TraceBehind: its walk and its law. -/
import Derived.Test.YtnnhgopibbdlkaaTrE
namespace Go.Proofs.Ytnnhgopibbdlkaa
open Go.RowKit
attribute [local irreducible] Nx Ar

theorem snocInd {α : Type} {P : List α → Prop} (h0 : P []) (h1 : ∀ l x, P l → P (l ++ [x])) (l : List α) : P l := by
  rw [← List.reverse_reverse l]
  induction l.reverse with
  | nil => simpa using h0
  | cons a t ih => rw [List.reverse_cons]; exact h1 _ _ ih
theorem behind_cnt (who other : Int) (m : List Note) : (behind who other m).a = cntW m who ∧ (behind who other m).b = cntW m other ∧ cntW m other - cntW m who ≤ (behind who other m).most ∧ 0 ≤ (behind who other m).most := by
  refine snocInd (P := fun m => (behind who other m).a = cntW m who ∧ (behind who other m).b = cntW m other ∧ cntW m other - cntW m who ≤ (behind who other m).most ∧ 0 ≤ (behind who other m).most) ?_ ?_ m
  · refine ⟨rfl, rfl, ?_, Int.le_refl 0⟩
    exact Int.le_refl 0
  · intro l x ⟨ha, hb, hc, hd⟩
    rw [behind_snoc, cntW_snoc, cntW_snoc]
    unfold BehSt.step
    dsimp only
    rw [ha, hb]
    exact ⟨rfl, rfl, by omega, by omega⟩
abbrev cntTo (l : List Note) (ring w : Int) (k : Nat) : Int := cntW ((l.take k).filter (atP ring [2])) w
def mostTo (l : List Note) (ring who other : Int) : Nat → Int
  | 0 => 0
  | k + 1 => max (mostTo l ring who other k) (cntTo l ring other k - cntTo l ring who k)
theorem mostTo_eq (l : List Note) (ring who other : Int) : ∀ k, mostTo l ring who other (k + 1) = (behind who other ((l.take k).filter (atP ring [2]))).most
  | 0 => rfl
  | k + 1 => by
    rw [mostTo, mostTo_eq l ring who other k]
    obtain ⟨ha, hb, hc, hd⟩ := behind_cnt who other ((l.take k).filter (atP ring [2]))
    rcases Nat.lt_or_ge k l.length with h | h
    · cases hp : atP ring [2] l[k] with
      | true =>
        have e := flt_yes (p := atP ring [2]) h hp
        unfold flt at e
        rw [cntTo, cntTo, e, behind_snoc, cntW_snoc, cntW_snoc]
        unfold BehSt.step
        dsimp only
        rw [ha, hb]
      | false =>
        have e := flt_no (p := atP ring [2]) h hp
        unfold flt at e
        rw [cntTo, cntTo, e]
        omega
    · rw [cntTo, cntTo, List.take_of_length_le (by omega : l.length ≤ k + 1)]
      rw [List.take_of_length_le h] at hc ⊢
      omega
theorem mostTo_le (l : List Note) (ring who other : Int) (hl : l.length ≤ 1000000) : ∀ k, 0 ≤ mostTo l ring who other k ∧ mostTo l ring who other k ≤ 1000000
  | 0 => by simp [mostTo]
  | k + 1 => by
    have h := mostTo_le l ring who other hl k
    have h1 := cntW_le ((l.take k).filter (atP ring [2])) other
    have h2 := cntW_le ((l.take k).filter (atP ring [2])) who
    have h3 := flt_le (atP ring [2]) l k
    have h4 := List.length_take_le' k l
    have h5 := List.length_filter_le (atP ring [2]) (l.take k)
    unfold mostTo cntTo
    omega

theorem TraceBehind_ok (S : SP) (A : Option Addr) (c : Nat) (l : List Note) (ring who other : Int) (hs : Sees S A l.length 8 (notes l)) :
    FnOk Try.prog 7 [.slice A l.length c, .int .i64 ring, .int .i64 who, .int .i64 other] [S] (fun v Q => v = .bool true ∧ Q = [S]) := by
  refine FnOk.start Try.func7 rfl rfl rfl rfl fun F os tape output => ?_
  refine go 200 ?_
  conv => whnf
  refine Nx.call [0] [0] rfl rfl rfl rfl rfl (small_ok S A c l.length) rfl fun v Q hQ => ?_
  obtain ⟨rfl, rfl⟩ := hQ
  by_cases h0 : l.length ≤ 120
  · have hl : l.length ≤ 1000000 := by omega
    rw [decide_eq_true h0]
    refine go 200 ?_
    conv => whnf
    refine go 200 ?_
    conv => whnf
    refine Ar.i64 (by omega) (by omega) ?_
    refine go 200 ?_
    conv => whnf
    refine Nx.loop (X := BhSt) (fun x => x.k ≤ l.length + 1) (fun x => l.length + 1 - x.k)
      (fun x => [(0, sl A l.length c), (1, iv ring), (2, iv who), (3, iv other), (9, iv (mostTo l ring who other x.k)), (17, iv (l.length + 1)), (18, iv x.k)]) (fun _ => []) [] (fun _ => [(0, S)])
      ⟨0⟩ (Nat.zero_le _) ?_ ?_ ?_ ?_ ?_
    · repeat (first | exact subE.nil _ | refine subE.cons rfl rfl ?_ | refine subE.cons' rfl (fun _ => rfl) ?_)
    · repeat (first | exact subM.nil _ | refine subM.cons rfl rfl rfl ?_)
    · repeat (first | exact subB.nil _ | refine subB.cons rfl ?_)
    · repeat (first | exact subR.nil _ | refine subR.cons rfl rfl ?_)
    intro x hk ih
    have hm := mostTo_le l ring who other hl x.k
    have h1 := cntW_le ((l.take x.k).filter (atP ring [2])) other
    have h2 := cntW_le ((l.take x.k).filter (atP ring [2])) who
    have h3 := List.length_filter_le (atP ring [2]) (l.take x.k)
    have h4 := List.length_take_le' x.k l
    refine go 200 ?_
    conv => whnf
    refine BrM.dec (fun hb => ?_) (fun hb => ?_)
    · refine go 200 ?_
      conv => whnf
      refine Nx.call [0] [0] rfl rfl rfl rfl rfl (Count_ok S _ _ l ring other x.k hl hs) rfl fun v Q hQ => ?_
      rw [Int.toNat_natCast] at hQ
      obtain ⟨rfl, rfl⟩ := hQ
      refine go 200 ?_
      conv => whnf
      refine Nx.call [0] [0] rfl rfl rfl rfl rfl (Count_ok S _ _ l ring who x.k hl hs) rfl fun v Q hQ => ?_
      rw [Int.toNat_natCast] at hQ
      obtain ⟨rfl, rfl⟩ := hQ
      refine go 200 ?_
      conv => whnf
      refine Ar.i64 (by omega) (by omega) ?_
      refine go 200 ?_
      conv => whnf
      refine Ar.i64 (by omega) (by omega) ?_
      refine go 200 ?_
      conv => whnf
      refine (ih ⟨x.k + 1⟩ (by show x.k + 1 ≤ _; omega) (by show l.length + 1 - (x.k + 1) < _; omega)).weak ?_ ?_ ?_ ?_
      · exact .cons rfl rfl (.cons rfl rfl (.cons rfl rfl (.cons rfl rfl (.cons rfl rfl (.cons rfl rfl (.cons rfl (by simp) (.nil _)))))))
      · repeat (first | exact subM.nil _ | refine subM.cons rfl rfl rfl ?_)
      · repeat (first | exact subB.nil _ | refine subB.cons rfl ?_)
      · repeat (first | exact subR.nil _ | refine subR.cons rfl rfl ?_)
    · refine go 200 ?_
      conv => whnf
      have hx : x.k = l.length + 1 := by omega
      rw [hx, mostTo_eq, List.take_length]
      refine Nx.call [] [] rfl rfl rfl rfl rfl (awake_ok) rfl fun v Q hQ => ?_
      obtain ⟨rfl, rfl⟩ := hQ
      refine go 200 ?_
      conv => whnf
      refine go 200 ?_
      conv => whnf
      refine Nx.call [0] [0] rfl rfl rfl rfl rfl (Behind_ok S _ _ l ring who other hl hs) rfl fun v Q hQ => ?_
      obtain ⟨rfl, rfl⟩ := hQ
      refine go 200 ?_
      conv => whnf
      refine Nx.ret [0] Try.func7 rfl rfl ?_
      exact ⟨by simp [oneV], rfl⟩
  · rw [decide_eq_false h0]
    refine go 200 ?_
    conv => whnf
    refine go 200 ?_
    conv => whnf
    refine Nx.call [] [] rfl rfl rfl rfl rfl (awake_ok) rfl fun v Q hQ => ?_
    obtain ⟨rfl, rfl⟩ := hQ
    refine go 200 ?_
    conv => whnf
    refine Nx.ret [0] Try.func7 rfl rfl ?_
    exact ⟨rfl, rfl⟩
end Go.Proofs.Ytnnhgopibbdlkaa
