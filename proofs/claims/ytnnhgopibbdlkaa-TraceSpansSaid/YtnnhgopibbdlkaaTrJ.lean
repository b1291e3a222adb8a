/- Notes held against each other: same, slices.Equal. A number in a list: in. -/
import Derived.Test.YtnnhgopibbdlkaaTrI
namespace Go.Proofs.Ytnnhgopibbdlkaa
open Go.RowKit
attribute [local irreducible] Nx Ar

theorem partM {t : TypeId} {cs : Array Value} {o n : Nat} {w : World} (ht : aggOf Try.prog t = .many n) : (part t cs o).run Try.prog w = .ok (.agg (cs.extract o (o + n))) w := by
  obtain ⟨h1, h2⟩ := aggOf_many ht w
  simp [part, h1, h2]
theorem eqI (d : Nat) (t : TypeId) (w : World) (a b : Int) (ht : Try.prog.underlying t = some (.int .i64)) : (Op.equalIn (d + 1) t (.int .i64 a) (.int .i64 b)).run Try.prog w = .ok (a == b) w := run_equalIn_int w d t .i64 .i64 a b ht
theorem eq34d (d : Nat) (x y : Ev) (w : World) : (Op.equalIn (d + 2) 34 (.agg x.enc.toArray) (.agg y.enc.toArray)).run Try.prog w = .ok (decide (x = y)) w := by
  rw [run_equalIn_agg w (d + 1) 34 _ _ rfl (by kernel_rfl)]
  have hf : (Try.prog.fieldsOf 34).toList = [{ name := "Key", type := 2, offset := 0, embedded := false, tag := "", pkgPath := "", byteOffset := 0 }, { name := "Val", type := 2, offset := 1, embedded := false, tag := "", pkgPath := "", byteOffset := 8 }] := rfl
  rw [hf]
  have p : ∀ (s : Ev) (j : Nat) (v : Value), s.enc[j]? = some v → (part 2 s.enc.toArray j).run Try.prog w = .ok v w := fun s j v hv => part1 rfl (by simpa using hv)
  simp only [Op.eqFields, Sem.run_bind, Sem.run_ite, p x 0 _ rfl, p y 0 _ rfl, p x 1 _ rfl, p y 1 _ rfl, Result.andThen_ok, eqI d 2 w _ _ Try.underlying2, Sem.run_pure]
  obtain ⟨a, b⟩ := x
  obtain ⟨c, e⟩ := y
  by_cases h1 : a = c <;> by_cases h2 : b = e <;> simp [h1, h2]
theorem eq34 (x y : Ev) (w : World) : (Op.equalIn 10000 34 (.agg x.enc.toArray) (.agg y.enc.toArray)).run Try.prog w = .ok (decide (x = y)) w := eq34d 9998 x y w
theorem eq37d (d : Nat) (x y : Note) (w : World) : (Op.equalIn (d + 3) 37 (.agg x.enc.toArray) (.agg y.enc.toArray)).run Try.prog w = .ok (decide (x = y)) w := by
  rw [run_equalIn_agg w (d + 2) 37 _ _ rfl (by kernel_rfl)]
  have hf : (Try.prog.fieldsOf 37).toList = [{ name := "Who", type := 3, offset := 0, embedded := false, tag := "", pkgPath := "", byteOffset := 0 }, { name := "Ring", type := 3, offset := 1, embedded := false, tag := "", pkgPath := "", byteOffset := 8 }, { name := "Deed", type := 32, offset := 2, embedded := false, tag := "", pkgPath := "", byteOffset := 16 }, { name := "Lo", type := 2, offset := 3, embedded := false, tag := "", pkgPath := "", byteOffset := 24 }, { name := "Seq", type := 2, offset := 4, embedded := false, tag := "", pkgPath := "", byteOffset := 32 }, { name := "X", type := 34, offset := 5, embedded := false, tag := "", pkgPath := "", byteOffset := 40 }, { name := "Code", type := 35, offset := 7, embedded := false, tag := "", pkgPath := "", byteOffset := 56 }] := rfl
  rw [hf]
  have p : ∀ (t : TypeId) (s : Note) (j : Nat) (v : Value), aggOf Try.prog t = .one → s.enc[j]? = some v → (part t s.enc.toArray j).run Try.prog w = .ok v w := fun t s j v ht hv => part1 ht (by simpa using hv)
  have q : ∀ (s : Note), (part 34 s.enc.toArray 5).run Try.prog w = .ok (.agg s.ev.enc.toArray) w := fun s => partM (n := 2) rfl
  simp only [Op.eqFields, Sem.run_bind, Sem.run_ite, p 3 x 0 _ rfl rfl, p 3 y 0 _ rfl rfl, p 3 x 1 _ rfl rfl, p 3 y 1 _ rfl rfl, p 32 x 2 _ rfl rfl, p 32 y 2 _ rfl rfl, p 2 x 3 _ rfl rfl, p 2 y 3 _ rfl rfl, p 2 x 4 _ rfl rfl, p 2 y 4 _ rfl rfl,
    q x, q y, p 35 x 7 _ rfl rfl, p 35 y 7 _ rfl rfl, Result.andThen_ok, eqI (d + 1) 2 w _ _ Try.underlying2, eqI (d + 1) 3 w _ _ Try.underlying3, eqI (d + 1) 32 w _ _ Try.underlying32, eqI (d + 1) 35 w _ _ Try.underlying35, eq34d d x.ev y.ev w, Sem.run_pure]
  obtain ⟨a1, a2, a3, a4, a5, a6, a7, a8⟩ := x
  obtain ⟨b1, b2, b3, b4, b5, b6, b7, b8⟩ := y
  by_cases h1 : a1 = b1 <;> by_cases h2 : a2 = b2 <;> by_cases h3 : a3 = b3 <;> by_cases h4 : a4 = b4 <;> by_cases h5 : a5 = b5 <;> by_cases h6 : a6 = b6 <;> by_cases h7 : a7 = b7 <;> by_cases h8 : a8 = b8 <;> simp [h1, h2, h3, h4, h5, h6, h7, h8, Note.ev]
theorem eq37 (x y : Note) (w : World) : (Op.equalIn 10000 37 (.agg x.enc.toArray) (.agg y.enc.toArray)).run Try.prog w = .ok (decide (x = y)) w := eq37d 9997 x y w

structure Tw where
  k : Nat
  o : Bool

theorem in_ok (S : SP) (A : Option Addr) (c : Nat) (l : List Int) (x : Int) (hl : l.length ≤ 2199023255488) (hs : Sees S A l.length 1 (ints l)) :
    FnOk Try.prog 21 [.slice A l.length c, .int .i64 x] [S] (fun v Q => v = .bool (decide (x ∈ l)) ∧ Q = [S]) := by
  refine FnOk.start Try.func21 rfl rfl rfl rfl fun F os tape output => ?_
  refine go 200 ?_
  conv => whnf
  refine Nx.loop (X := Nat) (fun k => k ≤ l.length ∧ ¬ x ∈ l.take k) (fun k => l.length - k)
    (fun k => [(1, iv x), (7, sl A l.length c), (8, iv l.length), (9, iv k)]) (fun _ => []) [] (fun _ => [(0, S)])
    0 ⟨Nat.zero_le _, by simp⟩ ?_ ?_ ?_ ?_ ?_
  · repeat (first | exact subE.nil _ | refine subE.cons rfl rfl ?_ | refine subE.cons' rfl (fun _ => rfl) ?_)
  · repeat (first | exact subM.nil _ | refine subM.cons rfl rfl rfl ?_)
  · repeat (first | exact subB.nil _ | refine subB.cons rfl ?_)
  · repeat (first | exact subR.nil _ | refine subR.cons rfl rfl ?_)
  intro k ⟨hk, hno⟩ ih
  refine go 200 ?_
  conv => whnf
  refine BrM.dec (fun h1 => ?_) (fun h1 => ?_)
  · have hlt : k < l.length := by omega
    refine go 200 ?_
    conv => whnf
    refine Nx.idx 0 rfl rfl rfl Try.underlying39 rfl rfl rfl encI_len hs rfl rfl hlt fun b p hq => ?_
    refine go 200 ?_
    conv => whnf
    refine Nx.load1 0 rfl rfl rfl rfl (hq) rfl ?_
    refine go 200 ?_
    conv => whnf
    refine BrM.dec (fun h2 => ?_) (fun h2 => ?_)
    · refine go 200 ?_
      conv => whnf
      refine Nx.ret [0] Try.func21 rfl rfl ?_
      have hm : x ∈ l := by rw [← h2]; exact List.getElem_mem hlt
      exact ⟨by rw [decide_eq_true hm]; rfl, rfl⟩
    · refine go 200 ?_
      conv => whnf
      refine Ar.i64 (by omega) (by omega) ?_
      refine go 200 ?_
      conv => whnf
      refine (ih (k + 1) ⟨by omega, fun h => by rw [List.take_succ_eq_append_getElem hlt] at h; rcases List.mem_append.1 h with h | h; exact hno h; exact h2 (List.mem_singleton.1 h).symm⟩ (by omega)).weak ?_ ?_ ?_ ?_
      · exact .cons rfl rfl (.cons rfl rfl (.cons rfl rfl (.cons rfl (by simp) (.nil _))))
      · repeat (first | exact subM.nil _ | refine subM.cons rfl rfl rfl ?_)
      · repeat (first | exact subB.nil _ | refine subB.cons rfl ?_)
      · repeat (first | exact subR.nil _ | refine subR.cons rfl rfl ?_)
  · refine go 200 ?_
    conv => whnf
    refine Nx.ret [0] Try.func21 rfl rfl ?_
    have hx : k = l.length := by omega
    rw [hx, List.take_length] at hno
    exact ⟨by rw [decide_eq_false hno]; rfl, rfl⟩

theorem same_ok (S T : SP) (A D : Option Addr) (c d : Nat) (l m : List Note) (hl : l.length ≤ 2199023255488) (hs : Sees S A l.length 8 (notes l)) (ht : Sees T D m.length 8 (notes m)) :
    FnOk Try.prog 16 [.slice A l.length c, .slice D m.length d] [S, T] (fun v Q => v = .bool (decide (l = m)) ∧ Q = [S, T]) := by
  refine FnOk.start Try.func16 rfl rfl rfl rfl fun F os tape output => ?_
  refine go 200 ?_
  conv => whnf
  refine BrM.dec (fun h0 => ?_) (fun h0 => ?_)
  · refine go 200 ?_
    conv => whnf
    refine Nx.ret [0, 1] Try.func16 rfl rfl ?_
    have hne : ¬ l = m := fun h => h0 (by rw [h])
    exact ⟨by rw [decide_eq_false hne]; rfl, rfl⟩
  · have hlen : l.length = m.length := by omega
    refine go 200 ?_
    conv => whnf
    refine Nx.loop (X := BhSt) (fun x => x.k ≤ l.length ∧ l.take x.k = m.take x.k) (fun x => l.length - x.k)
      (fun x => [(0, sl A l.length c), (1, sl D m.length d), (12, iv l.length), (13, iv x.k)]) (fun _ => []) [] (fun _ => [(0, S), (1, T)])
      ⟨0⟩ ⟨Nat.zero_le _, by simp⟩ ?_ ?_ ?_ ?_ ?_
    · repeat (first | exact subE.nil _ | refine subE.cons rfl rfl ?_ | refine subE.cons' rfl (fun _ => rfl) ?_)
    · repeat (first | exact subM.nil _ | refine subM.cons rfl rfl rfl ?_)
    · repeat (first | exact subB.nil _ | refine subB.cons rfl ?_)
    · repeat (first | exact subR.nil _ | refine subR.cons rfl rfl ?_)
    intro x ⟨hk, he⟩ ih
    refine go 200 ?_
    conv => whnf
    refine BrM.dec (fun h1 => ?_) (fun h1 => ?_)
    · have hlt : x.k < l.length := by omega
      have hlt2 : x.k < m.length := by omega
      refine go 200 ?_
      conv => whnf
      refine Nx.drawn0 [0, 1] [.pure 0, .pure 1, .held 2, .held 3, .pure 4, .pure 5, .held 6, .held 7, .held 8] rfl (by kernel_rfl) rfl (by kernel_rfl) rfl ?_ rfl ?_
      · repeat (first | exact subB.nil _ | refine subB.cons rfl ?_)
      refine Nx.runP (n := 200) rfl ?_ ?_
      · repeat (first | exact subB.nil _ | refine subB.cons rfl ?_)
      conv => whnf
      refine Nx.hoIdx 0 rfl rfl rfl Try.underlying22 rfl rfl rfl Note.enc_len hs rfl rfl hlt fun b1 p1 hq1 => ?_
      refine Nx.runP (n := 200) rfl ?_ ?_
      · repeat (first | exact subB.nil _ | refine subB.cons rfl ?_)
      conv => whnf
      refine Nx.hoLoad rfl rfl rfl rfl (List.mem_cons_self) hq1 rfl rfl ?_
      refine Nx.runP (n := 200) rfl ?_ ?_
      · repeat (first | exact subB.nil _ | refine subB.cons rfl ?_)
      conv => whnf
      refine Nx.hoIdx 1 rfl rfl rfl Try.underlying22 rfl rfl rfl Note.enc_len ht rfl rfl hlt2 fun b2 p2 hq2 => ?_
      refine Nx.runP (n := 200) rfl ?_ ?_
      · repeat (first | exact subB.nil _ | refine subB.cons rfl ?_)
      conv => whnf
      refine Nx.hoLoad rfl rfl rfl rfl (List.mem_cons_of_mem _ List.mem_cons_self) hq2 rfl rfl ?_
      refine Nx.runP (n := 200) rfl ?_ ?_
      · repeat (first | exact subB.nil _ | refine subB.cons rfl ?_)
      conv => whnf
      refine Nx.hoEqS rfl (.inr rfl) rfl rfl rfl rfl (by kernel_rfl) (eq37 l[x.k] m[x.k]) rfl ?_
      refine Nx.runP (n := 200) rfl ?_ ?_
      · repeat (first | exact subB.nil _ | refine subB.cons rfl ?_)
      conv => whnf
      by_cases h2 : l[x.k] = m[x.k]
      · rw [decide_eq_true h2]
        refine go 200 ?_
        conv => whnf
        refine go 200 ?_
        conv => whnf
        refine Ar.i64 (by omega) (by omega) ?_
        refine go 200 ?_
        conv => whnf
        refine (ih ⟨x.k + 1⟩ ⟨by show x.k + 1 ≤ _; omega, by show l.take (x.k + 1) = m.take (x.k + 1); rw [List.take_succ_eq_append_getElem hlt, List.take_succ_eq_append_getElem hlt2, he, h2]⟩ (by show l.length - (x.k + 1) < _; omega)).weak ?_ ?_ ?_ ?_
        · exact .cons rfl rfl (.cons rfl rfl (.cons rfl rfl (.cons rfl (by simp) (.nil _))))
        · repeat (first | exact subM.nil _ | refine subM.cons rfl rfl rfl ?_)
        · repeat (first | exact subB.nil _ | refine subB.cons rfl ?_)
        · repeat (first | exact subR.nil _ | refine subR.cons rfl rfl ?_)
      · rw [decide_eq_false h2]
        refine go 200 ?_
        conv => whnf
        refine go 200 ?_
        conv => whnf
        refine Nx.ret [0, 1] Try.func16 rfl rfl ?_
        have hne : ¬ l = m := fun h => by subst h; exact h2 rfl
        exact ⟨by rw [decide_eq_false hne]; rfl, rfl⟩
    · refine go 200 ?_
      conv => whnf
      refine Nx.ret [0, 1] Try.func16 rfl rfl ?_
      have hx : x.k = l.length := by omega
      rw [hx, List.take_length, hlen, List.take_length] at he
      exact ⟨by rw [decide_eq_true he]; rfl, rfl⟩

theorem Equal_ok (S T : SP) (A D : Option Addr) (c d : Nat) (l m : List Note) (hl : l.length ≤ 2199023255488) (hs : Sees S A l.length 8 (notes l)) (ht : Sees T D m.length 8 (notes m)) :
    FnOk Try.prog 35 [.slice A l.length c, .slice D m.length d] [S, T] (fun v Q => v = .bool (decide (l = m)) ∧ Q = [S, T]) := by
  refine FnOk.start Try.func35 rfl rfl rfl rfl fun F os tape output => ?_
  refine go 200 ?_
  conv => whnf
  refine BrM.dec (fun h0 => ?_) (fun h0 => ?_)
  · refine go 200 ?_
    conv => whnf
    refine Nx.ret [0, 1] Try.func35 rfl rfl ?_
    have hne : ¬ l = m := fun h => h0 (by rw [h])
    exact ⟨by rw [decide_eq_false hne]; rfl, rfl⟩
  · have hlen : l.length = m.length := by omega
    refine go 200 ?_
    conv => whnf
    refine Nx.loop (X := BhSt) (fun x => x.k ≤ l.length ∧ l.take x.k = m.take x.k) (fun x => l.length - x.k)
      (fun x => [(0, sl A l.length c), (1, sl D m.length d), (12, iv l.length), (13, iv x.k)]) (fun _ => []) [] (fun _ => [(0, S), (1, T)])
      ⟨0⟩ ⟨Nat.zero_le _, by simp⟩ ?_ ?_ ?_ ?_ ?_
    · repeat (first | exact subE.nil _ | refine subE.cons rfl rfl ?_ | refine subE.cons' rfl (fun _ => rfl) ?_)
    · repeat (first | exact subM.nil _ | refine subM.cons rfl rfl rfl ?_)
    · repeat (first | exact subB.nil _ | refine subB.cons rfl ?_)
    · repeat (first | exact subR.nil _ | refine subR.cons rfl rfl ?_)
    intro x ⟨hk, he⟩ ih
    refine go 200 ?_
    conv => whnf
    refine BrM.dec (fun h1 => ?_) (fun h1 => ?_)
    · have hlt : x.k < l.length := by omega
      have hlt2 : x.k < m.length := by omega
      refine go 200 ?_
      conv => whnf
      refine Nx.drawn0 [0, 1] [.pure 0, .pure 1, .held 2, .held 3, .pure 4, .pure 5, .held 6, .held 7, .held 8] rfl (by kernel_rfl) rfl (by kernel_rfl) rfl ?_ rfl ?_
      · repeat (first | exact subB.nil _ | refine subB.cons rfl ?_)
      refine Nx.runP (n := 200) rfl ?_ ?_
      · repeat (first | exact subB.nil _ | refine subB.cons rfl ?_)
      conv => whnf
      refine Nx.hoIdx 0 rfl rfl rfl Try.underlying22 rfl rfl rfl Note.enc_len hs rfl rfl hlt fun b1 p1 hq1 => ?_
      refine Nx.runP (n := 200) rfl ?_ ?_
      · repeat (first | exact subB.nil _ | refine subB.cons rfl ?_)
      conv => whnf
      refine Nx.hoLoad rfl rfl rfl rfl (List.mem_cons_self) hq1 rfl rfl ?_
      refine Nx.runP (n := 200) rfl ?_ ?_
      · repeat (first | exact subB.nil _ | refine subB.cons rfl ?_)
      conv => whnf
      refine Nx.hoIdx 1 rfl rfl rfl Try.underlying22 rfl rfl rfl Note.enc_len ht rfl rfl hlt2 fun b2 p2 hq2 => ?_
      refine Nx.runP (n := 200) rfl ?_ ?_
      · repeat (first | exact subB.nil _ | refine subB.cons rfl ?_)
      conv => whnf
      refine Nx.hoLoad rfl rfl rfl rfl (List.mem_cons_of_mem _ List.mem_cons_self) hq2 rfl rfl ?_
      refine Nx.runP (n := 200) rfl ?_ ?_
      · repeat (first | exact subB.nil _ | refine subB.cons rfl ?_)
      conv => whnf
      refine Nx.hoEqS rfl (.inr rfl) rfl rfl rfl rfl (by kernel_rfl) (eq37 l[x.k] m[x.k]) rfl ?_
      refine Nx.runP (n := 200) rfl ?_ ?_
      · repeat (first | exact subB.nil _ | refine subB.cons rfl ?_)
      conv => whnf
      by_cases h2 : l[x.k] = m[x.k]
      · rw [decide_eq_true h2]
        refine go 200 ?_
        conv => whnf
        refine go 200 ?_
        conv => whnf
        refine Ar.i64 (by omega) (by omega) ?_
        refine go 200 ?_
        conv => whnf
        refine (ih ⟨x.k + 1⟩ ⟨by show x.k + 1 ≤ _; omega, by show l.take (x.k + 1) = m.take (x.k + 1); rw [List.take_succ_eq_append_getElem hlt, List.take_succ_eq_append_getElem hlt2, he, h2]⟩ (by show l.length - (x.k + 1) < _; omega)).weak ?_ ?_ ?_ ?_
        · exact .cons rfl rfl (.cons rfl rfl (.cons rfl rfl (.cons rfl (by simp) (.nil _))))
        · repeat (first | exact subM.nil _ | refine subM.cons rfl rfl rfl ?_)
        · repeat (first | exact subB.nil _ | refine subB.cons rfl ?_)
        · repeat (first | exact subR.nil _ | refine subR.cons rfl rfl ?_)
      · rw [decide_eq_false h2]
        refine go 200 ?_
        conv => whnf
        refine go 200 ?_
        conv => whnf
        refine Nx.ret [0, 1] Try.func35 rfl rfl ?_
        have hne : ¬ l = m := fun h => by subst h; exact h2 rfl
        exact ⟨by rw [decide_eq_false hne]; rfl, rfl⟩
    · refine go 200 ?_
      conv => whnf
      refine Nx.ret [0, 1] Try.func35 rfl rfl ?_
      have hx : x.k = l.length := by omega
      rw [hx, List.take_length, hlen, List.take_length] at he
      exact ⟨by rw [decide_eq_true he]; rfl, rfl⟩
end Go.Proofs.Ytnnhgopibbdlkaa
