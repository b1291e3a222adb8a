/- Structs held against each other; Length, Counts. -/
import Derived.Test.YtnnhgopibbdlkaaTrB
namespace Go.Proofs.Ytnnhgopibbdlkaa
open Go.RowKit
attribute [local irreducible] Nx Ar

theorem part1 {t : TypeId} {cs : Array Value} {o : Nat} {v : Value} {w : World} (ht : aggOf Try.prog t = .one) (hv : cs[o]? = some v) : (part t cs o).run Try.prog w = .ok v w := by
  simp [part, aggOf_one ht, hv]
theorem eq29 (x y : Span) (w : World) : (Op.equalIn 10000 29 (.agg x.enc.toArray) (.agg y.enc.toArray)).run Try.prog w = .ok (decide (x = y)) w := by
  have h : ∀ d, (Op.equalIn (d + 2) 29 (.agg x.enc.toArray) (.agg y.enc.toArray)).run Try.prog w = .ok (decide (x = y)) w := by
    intro d
    rw [run_equalIn_agg w (d + 1) 29 _ _ rfl (by kernel_rfl)]
    have hf : (Try.prog.fieldsOf 29).toList = [{ name := "Lo", type := 2, offset := 0, embedded := false, tag := "", pkgPath := "", byteOffset := 0 }, { name := "Hi", type := 2, offset := 1, embedded := false, tag := "", pkgPath := "", byteOffset := 8 }] := rfl
    rw [hf]
    have hi : ∀ (a b : Int), (Op.equalIn (d + 1) 2 (.int .i64 a) (.int .i64 b)).run Try.prog w = .ok (a == b) w := fun a b => run_equalIn_int w d 2 .i64 .i64 a b Try.underlying2
    have p : ∀ (s : Span) (j : Nat) (v : Value), s.enc[j]? = some v → (part 2 s.enc.toArray j).run Try.prog w = .ok v w := fun s j v hv => part1 rfl (by simpa using hv)
    simp only [Op.eqFields, Sem.run_bind, Sem.run_ite, p x 0 _ rfl, p y 0 _ rfl, p x 1 _ rfl, p y 1 _ rfl, Result.andThen_ok, hi, Sem.run_pure]
    obtain ⟨a, b⟩ := x
    obtain ⟨c, e⟩ := y
    by_cases h1 : a = c <;> by_cases h2 : b = e <;> simp [h1, h2]
  exact h 9998

def lengthOf (l : List Span) (i : Int) : Int :=
  match l with
  | [] => 0
  | s :: r => if s.lo ≤ i ∧ i ≤ s.hi then s.hi - i + 1 else lengthOf r i
theorem lengthOf_at {l : List Span} {k : Nat} (hk : k < l.length) (i : Int) : lengthOf (l.drop k) i = if l[k].lo ≤ i ∧ i ≤ l[k].hi then l[k].hi - i + 1 else lengthOf (l.drop (k + 1)) i := by
  rw [← List.getElem_cons_drop hk, lengthOf]

theorem Length_ok (S : SP) (A : Option Addr) (c : Nat) (l : List Note) (ring i : Int) (hl : l.length ≤ 2199023255488) (hs : Sees S A l.length 8 (notes l)) :
    FnOk Try.prog 15 [.slice A l.length c, .int .i64 ring, .int .i64 i] [S] (fun v Q => v = .int .i64 (lengthOf (shown l ring) i) ∧ Q = [S]) := by
  refine FnOk.start Try.func15 rfl rfl rfl rfl fun F os tape output => ?_
  refine go 200 ?_
  conv => whnf
  refine Nx.call [0] [0,1] rfl rfl rfl rfl rfl (Shown_ok S _ _ l ring hl hs) rfl fun v Q hQ => ?_
  obtain ⟨A1, c1, rfl, rfl⟩ := hQ
  have hok : ∀ x ∈ shown l ring, x.ok := (shown_inv _ [] (by simp)).1
  have hlen : (shown l ring).length ≤ 2199023255488 := by
    have := (shown_inv (l.filter (atP ring [1])) [] (by simp)).2
    have h2 := List.length_filter_le (atP ring [1]) l
    unfold shown
    simp at this
    omega
  generalize shown l ring = m at *
  refine go 200 ?_
  conv => whnf
  refine Nx.loop (X := Nat) (fun k => k ≤ m.length ∧ lengthOf (m.drop k) i = lengthOf m i) (fun k => m.length - k)
    (fun k => [(2, iv i), (11, sl A1 m.length c1), (12, iv m.length), (13, iv k)]) (fun _ => []) [] (fun _ => [(0, S), (1, ownS 29 A1 m.length c1 2 (spans m))])
    0 ⟨Nat.zero_le _, by simp⟩ ?_ ?_ ?_ ?_ ?_
  · repeat (first | exact subE.nil _ | refine subE.cons rfl rfl ?_ | refine subE.cons' rfl (fun _ => rfl) ?_)
  · repeat (first | exact subM.nil _ | refine subM.cons rfl rfl rfl ?_)
  · repeat (first | exact subB.nil _ | refine subB.cons rfl ?_)
  · repeat (first | exact subR.nil _ | refine subR.cons rfl rfl ?_)
  intro k ⟨hk, he⟩ ih
  refine go 200 ?_
  conv => whnf
  refine BrM.dec (fun h1 => ?_) (fun h1 => ?_)
  · have hlt : k < m.length := by omega
    have hj := lengthOf_at hlt i
    obtain ⟨ha, hb, hc⟩ := hok _ (List.getElem_mem hlt)
    refine go 200 ?_
    conv => whnf
    refine Nx.idx 1 rfl rfl rfl Try.underlying26 rfl rfl rfl Span.enc_len (ownS_sees 29 A1 m.length c1 2 (spans m)) rfl rfl hlt fun b p hq => ?_
    refine go 200 ?_
    conv => whnf
    refine Nx.load 1 rfl rfl rfl rfl hq rfl rfl ?_
    refine go 200 ?_
    conv => whnf
    refine BrM.dec (fun h2 => ?_) (fun h2 => ?_)
    · refine go 200 ?_
      conv => whnf
      refine BrM.dec (fun h3 => ?_) (fun h3 => ?_)
      · rw [if_pos ⟨h2, h3⟩] at hj
        refine go 200 ?_
        conv => whnf
        refine Ar.i64 (by omega) (by omega) ?_
        refine go 200 ?_
        conv => whnf
        refine Ar.i64 (by omega) (by omega) ?_
        refine go 200 ?_
        conv => whnf
        refine Nx.ret [0] Try.func15 rfl rfl ?_
        exact ⟨by rw [← he, hj]; rfl, rfl⟩
      · rw [if_neg (fun h => h3 h.2)] at hj
        refine go 200 ?_
        conv => whnf
        refine Ar.i64 (by omega) (by omega) ?_
        refine go 200 ?_
        conv => whnf
        refine (ih (k + 1) ⟨by omega, by rw [← he, hj]⟩ (by omega)).weak ?_ ?_ ?_ ?_
        · repeat (first | exact subE.nil _ | refine subE.cons rfl rfl ?_ | refine subE.cons' rfl (fun _ => rfl) ?_)
        · repeat (first | exact subM.nil _ | refine subM.cons rfl rfl rfl ?_)
        · repeat (first | exact subB.nil _ | refine subB.cons rfl ?_)
        · repeat (first | exact subR.nil _ | refine subR.cons rfl rfl ?_)
    · rw [if_neg (fun h => h2 h.1)] at hj
      refine go 200 ?_
      conv => whnf
      refine Ar.i64 (by omega) (by omega) ?_
      refine go 200 ?_
      conv => whnf
      refine (ih (k + 1) ⟨by omega, by rw [← he, hj]⟩ (by omega)).weak ?_ ?_ ?_ ?_
      · repeat (first | exact subE.nil _ | refine subE.cons rfl rfl ?_ | refine subE.cons' rfl (fun _ => rfl) ?_)
      · repeat (first | exact subM.nil _ | refine subM.cons rfl rfl rfl ?_)
      · repeat (first | exact subB.nil _ | refine subB.cons rfl ?_)
      · repeat (first | exact subR.nil _ | refine subR.cons rfl rfl ?_)
  · refine go 200 ?_
    conv => whnf
    refine Nx.ret [0] Try.func15 rfl rfl ?_
    have hx : k = m.length := by omega
    rw [hx, List.drop_length] at he
    exact ⟨by rw [← he]; rfl, rfl⟩

/-! ### Counts -/
def countF (l : List Note) (d : Nat) : Int := (l.filter fun n => decide (n.deed = (d : Int))).length
def countCells (l : List Note) : List Int := (List.range 8).map (countF l)
theorem countCells_nil : countCells [] = [0, 0, 0, 0, 0, 0, 0, 0] := rfl
theorem countCells_len (l : List Note) : (countCells l).length = 8 := by simp [countCells]
theorem countF_snoc (l : List Note) (n : Note) (d : Nat) : countF (l ++ [n]) d = countF l d + if n.deed = (d : Int) then 1 else 0 := by
  unfold countF
  rw [List.filter_append]
  by_cases h : n.deed = (d : Int) <;> simp [List.filter_cons, h]
theorem countCells_yes {l : List Note} {n : Note} (h0 : 0 ≤ n.deed) (h7 : n.deed ≤ 7) : countCells (l ++ [n]) = (countCells l).set n.deed.toNat (countF l n.deed.toNat + 1) := by
  apply List.ext_getElem?
  intro j
  rw [List.getElem?_set]
  unfold countCells
  simp only [List.length_map, List.length_range, List.getElem?_map]
  by_cases hj : n.deed.toNat = j
  · subst hj
    have h8 : n.deed.toNat < 8 := by omega
    rw [if_pos rfl, if_pos h8, List.getElem?_range h8]
    simp [countF_snoc, Int.toNat_of_nonneg h0]
  · rw [if_neg hj]
    rcases Nat.lt_or_ge j 8 with h8 | h8
    · rw [List.getElem?_range h8]
      have hne : ¬ n.deed = (j : Int) := fun h => hj (by rw [h]; simp)
      simp [countF_snoc, hne]
    · rw [List.getElem?_eq_none (by simpa using h8)]
      rfl
theorem countCells_no {l : List Note} {n : Note} (h : ¬ (0 ≤ n.deed ∧ n.deed ≤ 7)) : countCells (l ++ [n]) = countCells l := by
  unfold countCells
  apply List.map_congr_left
  intro j hj
  have h8 : j < 8 := by simpa using hj
  rw [countF_snoc, if_neg (by omega), Int.add_zero]
theorem countF_le (l : List Note) (d : Nat) : 0 ≤ countF l d ∧ countF l d ≤ l.length := by
  unfold countF
  exact ⟨by omega, by exact_mod_cast List.length_filter_le _ _⟩
abbrev ceI (l : List Int) : List Ce := l.map fun n => .v (.int .i64 n)

theorem Counts_ok (S : SP) (A : Option Addr) (c : Nat) (l : List Note) (hl : l.length ≤ 2199023255488) (hs : Sees S A l.length 8 (notes l)) :
    FnOk Try.prog 19 [.slice A l.length c] [S] (fun v Q => v = .agg ((countCells l).map fun n => Value.int .i64 n).toArray ∧ Q = [S]) := by
  refine FnOk.start Try.func19 rfl rfl rfl rfl fun F os tape output => ?_
  refine go 200 ?_
  conv => whnf
  refine Nx.bind (l := 3) (fun b3 => ?_) rfl
  refine Nx.loop (X := Nat) (fun k => k ≤ l.length) (fun k => l.length - k)
    (fun k => [(2, .c (.loc 2 0)), (3, .c (.loc 3 0)), (6, sl A l.length c), (7, iv l.length), (8, iv k)]) (fun k => [(2, 41, ceI (countCells [])), (3, 41, ceI (countCells (l.take k)))]) [(3, b3)] (fun _ => [(0, S)])
    0 (Nat.zero_le _) ?_ ?_ ?_ ?_ ?_
  · repeat (first | exact subE.nil _ | refine subE.cons rfl rfl ?_ | refine subE.cons' rfl (fun _ => rfl) ?_)
  · exact .cons rfl rfl rfl (.cons rfl rfl rfl (.nil _))
  · repeat (first | exact subB.nil _ | refine subB.cons rfl ?_)
  · repeat (first | exact subR.nil _ | refine subR.cons rfl rfl ?_)
  intro k hk ih
  refine go 200 ?_
  conv => whnf
  refine BrM.dec (fun h1 => ?_) (fun h1 => ?_)
  · have hlt : k < l.length := by omega
    have hts : l.take (k + 1) = l.take k ++ [l[k]] := List.take_succ_eq_append_getElem hlt
    refine go 200 ?_
    conv => whnf
    refine Nx.idx 0 rfl rfl rfl Try.underlying22 rfl rfl rfl Note.enc_len hs rfl rfl hlt fun b p hq => ?_
    refine go 200 ?_
    conv => whnf
    refine Nx.load 0 rfl rfl rfl rfl hq rfl rfl ?_
    refine go 200 ?_
    conv => whnf
    refine BrM.dec (fun h2 => ?_) (fun h2 => ?_)
    · refine go 200 ?_
      conv => whnf
      refine BrM.dec (fun h3 => ?_) (fun h3 => ?_)
      · refine go 200 ?_
        conv => whnf
        have hc := countCells_yes (l := l.take k) h2 h3
        have hle := countF_le (l.take k) l[k].deed.toNat
        have hlt8 : l[k].deed.toNat < 8 := by omega
        have hlen : ((l.take k).length : Int) ≤ 2199023255488 := by simp; omega
        refine Nx.arrIdx (sz := 1) (by_ := 8) (q := l[k].deed.toNat) rfl rfl rfl rfl Try.underlying41 rfl rfl h2 (by omega) (by simp) ?_
        refine go 200 ?_
        conv => whnf
        refine Nx.loadAt 3 (y := .v (.int .i64 (countF (l.take k) l[k].deed.toNat))) rfl rfl rfl rfl rfl rfl ?_ ?_
        · show (ceI (countCells (l.take k)))[l[k].deed.toNat]? = _
          simp [ceI, countCells, hlt8]
        refine go 200 ?_
        conv => whnf
        refine Ar.i64 (by omega) (by omega) ?_
        refine go 200 ?_
        conv => whnf
        refine Nx.arrIdx (sz := 1) (by_ := 8) (q := l[k].deed.toNat) rfl rfl rfl rfl Try.underlying41 rfl rfl h2 (by omega) (by simp) ?_
        refine go 200 ?_
        conv => whnf
        refine Nx.storeAt 3 rfl rfl rfl rfl rfl rfl rfl rfl ?_ rfl ?_
        · show _ < (ceI (countCells (l.take k))).length
          simp [ceI, countCells, hlt8]
        refine go 200 ?_
        conv => whnf
        refine Ar.i64 (by omega) (by omega) ?_
        refine go 200 ?_
        conv => whnf
        refine (ih (k + 1) (by omega) (by omega)).weak ?_ ?_ ?_ ?_
        · repeat (first | exact subE.nil _ | refine subE.cons rfl rfl ?_ | refine subE.cons' rfl (fun _ => rfl) ?_)
        · exact .cons rfl rfl rfl (.cons rfl (by rw [hts, hc]; simp [ceI, List.map_set]) rfl (.nil _))
        · repeat (first | exact subB.nil _ | refine subB.cons rfl ?_)
        · repeat (first | exact subR.nil _ | refine subR.cons rfl rfl ?_)
      · refine go 200 ?_
        conv => whnf
        have hc := countCells_no (l := l.take k) (n := l[k]) (fun h => h3 h.2)
        refine Ar.i64 (by omega) (by omega) ?_
        refine go 200 ?_
        conv => whnf
        refine (ih (k + 1) (by omega) (by omega)).weak ?_ ?_ ?_ ?_
        · repeat (first | exact subE.nil _ | refine subE.cons rfl rfl ?_ | refine subE.cons' rfl (fun _ => rfl) ?_)
        · exact .cons rfl rfl rfl (.cons rfl (by rw [hts, hc]) rfl (.nil _))
        · repeat (first | exact subB.nil _ | refine subB.cons rfl ?_)
        · repeat (first | exact subR.nil _ | refine subR.cons rfl rfl ?_)
    · refine go 200 ?_
      conv => whnf
      have hc := countCells_no (l := l.take k) (n := l[k]) (fun h => h2 h.1)
      refine Ar.i64 (by omega) (by omega) ?_
      refine go 200 ?_
      conv => whnf
      refine (ih (k + 1) (by omega) (by omega)).weak ?_ ?_ ?_ ?_
      · repeat (first | exact subE.nil _ | refine subE.cons rfl rfl ?_ | refine subE.cons' rfl (fun _ => rfl) ?_)
      · exact .cons rfl rfl rfl (.cons rfl (by rw [hts, hc]) rfl (.nil _))
      · repeat (first | exact subB.nil _ | refine subB.cons rfl ?_)
      · repeat (first | exact subR.nil _ | refine subR.cons rfl rfl ?_)
  · refine go 200 ?_
    conv => whnf
    have hx : k = l.length := by omega
    rw [hx, List.take_length]
    refine Nx.ret [0] Try.func19 rfl rfl ?_
    exact ⟨rfl, rfl⟩
end Go.Proofs.Ytnnhgopibbdlkaa
