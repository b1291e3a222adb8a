/- TracePicks: its walk and its law. -/
import Derived.Test.YtnnhgopibbdlkaaTrJ
import Derived.Test.YtnnhgopibbdlkaaSxl
namespace Go.Proofs.Ytnnhgopibbdlkaa
open Go.RowKit
attribute [local irreducible] Nx Ar

theorem eq41 (a b c d e f g h : Int) (w : World) : (Op.equalIn 10000 41 (.agg #[.int .i64 a, .int .i64 b, .int .i64 c, .int .i64 d, .int .i64 e, .int .i64 f, .int .i64 g, .int .i64 h]) (.agg #[.int .i64 a, .int .i64 b, .int .i64 c, .int .i64 d, .int .i64 e, .int .i64 f, .int .i64 g, .int .i64 h])).run Try.prog w = .ok true w := by
  obtain ⟨X, hX⟩ : ∃ X : Array Value, X = #[.int .i64 a, .int .i64 b, .int .i64 c, .int .i64 d, .int .i64 e, .int .i64 f, .int .i64 g, .int .i64 h] := ⟨_, rfl⟩
  rw [← hX]
  have key : ∀ D, (Op.equalIn (D + 2) 41 (.agg X) (.agg X)).run Try.prog w = .ok true w := by
    intro D
    obtain ⟨i, hi⟩ : ∃ i, Try.prog.info? 3 = some i := ⟨_, rfl⟩
    rw [run_equalIn_array w (D + 1) _ _ Try.underlying41 hi]
    have hc : Try.prog.cellsOf 3 = 1 := by kernel_rfl
    rw [hc]
    have hr : List.range 8 = [0, 1, 2, 3, 4, 5, 6, 7] := rfl
    rw [hr]
    have p0 : (part 3 X 0).run Try.prog w = .ok (.int .i64 a) w := part1 rfl (by rw [hX]; rfl)
    have p1 : (part 3 X 1).run Try.prog w = .ok (.int .i64 b) w := part1 rfl (by rw [hX]; rfl)
    have p2 : (part 3 X 2).run Try.prog w = .ok (.int .i64 c) w := part1 rfl (by rw [hX]; rfl)
    have p3 : (part 3 X 3).run Try.prog w = .ok (.int .i64 d) w := part1 rfl (by rw [hX]; rfl)
    have p4 : (part 3 X 4).run Try.prog w = .ok (.int .i64 e) w := part1 rfl (by rw [hX]; rfl)
    have p5 : (part 3 X 5).run Try.prog w = .ok (.int .i64 f) w := part1 rfl (by rw [hX]; rfl)
    have p6 : (part 3 X 6).run Try.prog w = .ok (.int .i64 g) w := part1 rfl (by rw [hX]; rfl)
    have p7 : (part 3 X 7).run Try.prog w = .ok (.int .i64 h) w := part1 rfl (by rw [hX]; rfl)
    simp [Op.eqItems, p0, p1, p2, p3, p4, p5, p6, p7, eqI D 3 w _ _ Try.underlying3]
  exact key 9998

structure PkSt where
  k : Nat
  A1 : Option Addr
  d1 : Nat
  A2 : Option Addr
  d2 : Nat

theorem TracePicks_ok (S T : SP) (A D : Option Addr) (c d : Nat) (l : List Note) (ds : List Int) (who ring : Int) (hs : Sees S A l.length 8 (notes l)) (ht : Sees T D ds.length 1 (ints ds)) :
    FnOk Try.prog 4 [.slice A l.length c, .int .i64 who, .int .i64 ring, .slice D ds.length d] [S, T] (fun v Q => v = .bool true ∧ Q = [S, T]) := by
  refine FnOk.start Try.func4 rfl rfl rfl rfl fun F os tape output => ?_
  refine go 200 ?_
  conv => whnf
  refine Nx.call [0] [0] rfl rfl rfl rfl rfl (small_ok S A c l.length) rfl fun v Q hQ => ?_
  obtain ⟨rfl, rfl⟩ := hQ
  by_cases h0 : l.length ≤ 120
  · have hl : l.length ≤ 1000000 := by omega
    rw [decide_eq_true h0]
    refine go 200 ?_
    conv => whnf
    refine go 200 ?_
    conv => whnf
    refine BrM.dec (fun h1 => ?_) (fun h1 => ?_)
    · refine go 200 ?_
      conv => whnf
      refine Nx.call [] [] rfl rfl rfl rfl rfl (awake_ok) rfl fun v Q hQ => ?_
      obtain ⟨rfl, rfl⟩ := hQ
      refine go 200 ?_
      conv => whnf
      refine Nx.ret [0, 1] Try.func4 rfl rfl ?_
      exact ⟨rfl, rfl⟩
    · have hw : ds.length ≤ 1000000 := by omega
      refine go 200 ?_
      conv => whnf
      refine Nx.give 2 (ownS 32 none 0 0 1 []) (own_nil _ _ _ _) ?_
      refine Nx.loop (X := KSt) (fun x => x.k ≤ ds.length) (fun x => ds.length - x.k)
        (fun x => [(0, sl A l.length c), (1, iv who), (2, iv ring), (3, sl D ds.length d), (9, sl none 0 0), (10, sl none 0 0), (11, sl x.B x.k x.d), (29, sl D ds.length d), (30, iv ds.length), (31, iv x.k)]) (fun _ => []) [] (fun x => [(0, S), (1, T), (2, ownS 32 x.B x.k x.d 1 (ints (ds.take x.k)))])
        ⟨0, none, 0⟩ (Nat.zero_le _) ?_ ?_ ?_ ?_ ?_
      · repeat (first | exact subE.nil _ | refine subE.cons rfl rfl ?_ | refine subE.cons' rfl (fun _ => rfl) ?_)
      · repeat (first | exact subM.nil _ | refine subM.cons rfl rfl rfl ?_)
      · repeat (first | exact subB.nil _ | refine subB.cons rfl ?_)
      · repeat (first | exact subR.nil _ | refine subR.cons rfl rfl ?_)
      intro x hk ih
      refine go 200 ?_
      conv => whnf
      refine BrM.dec (fun hb => ?_) (fun hb => ?_)
      · have hlt : x.k < ds.length := by omega
        refine go 200 ?_
        conv => whnf
        refine Nx.idx 1 rfl rfl rfl Try.underlying39 rfl rfl rfl encI_len ht rfl rfl hlt fun b p hq => ?_
        refine go 200 ?_
        conv => whnf
        refine Nx.load1 1 rfl rfl rfl rfl (hq) rfl ?_
        refine go 200 ?_
        conv => whnf
        refine Nx.append 2 (sz := 1) (by_ := 8) (news := (encI ds[x.k])) rfl rfl rfl rfl rfl Try.underlying40 rfl rfl rfl rfl rfl (by unfold maxLen; omega) (by omega) fun A' c'' => ?_
        refine go 200 ?_
        conv => whnf
        refine Ar.i64 (by omega) (by omega) ?_
        refine go 200 ?_
        conv => whnf
        refine (ih ⟨x.k + 1, A', c''⟩ (by show x.k + 1 ≤ _; omega) (by show ds.length - (x.k + 1) < _; omega)).weak ?_ ?_ ?_ ?_
        · repeat (first | exact subE.nil _ | refine subE.cons rfl rfl ?_ | refine subE.cons' rfl (fun _ => rfl) ?_)
        · repeat (first | exact subM.nil _ | refine subM.cons rfl rfl rfl ?_)
        · repeat (first | exact subB.nil _ | refine subB.cons rfl ?_)
        · exact .cons rfl rfl (.cons rfl rfl (.cons rfl (by show _ = ownS 32 A' (x.k + 1) c'' 1 (ints (ds.take (x.k + 1))); rw [List.take_succ_eq_append_getElem hlt]; simp only [ints, List.flatMap_append, List.flatMap_cons, List.flatMap_nil, List.append_nil]) (.nil _)))
      · have hx : x.k = ds.length := by omega
        rw [hx, List.take_length]
        generalize x.B = B0
        generalize x.d = d0
        refine go 200 ?_
        conv => whnf
        refine Nx.bind (l := 14) (fun b14 => ?_) rfl
        obtain ⟨f, hf⟩ : ∃ f : Note → Bool, f = fun n => decide (n.who = who) := ⟨_, rfl⟩
        obtain ⟨e, he⟩ : ∃ e : Note → Bool, e = atP ring ds := ⟨_, rfl⟩
        refine Nx.give 3 (ownS 37 none 0 0 8 []) (own_nil _ _ _ _) ?_
        refine Nx.give 4 (ownS 37 none 0 0 8 []) (own_nil _ _ _ _) ?_
        refine Nx.loop (X := PkSt) (fun y => y.k ≤ l.length) (fun y => l.length - y.k)
          (fun y => [(0, sl A l.length c), (1, iv who), (2, iv ring), (3, sl D ds.length d), (9, sl y.A1 (flt f l y.k).length y.d1), (10, sl y.A2 (flt e l y.k).length y.d2), (11, sl B0 ds.length d0), (14, .c (.loc 14 0)), (40, sl A l.length c), (41, iv l.length), (42, iv y.k)])
          (fun y => [(14, 41, ceI (countCells (l.take y.k)))]) [(14, b14)]
          (fun y => [(0, S), (1, T), (2, ownS 32 B0 ds.length d0 1 (ints ds)), (3, ownS 37 y.A1 (flt f l y.k).length y.d1 8 (notes (flt f l y.k))), (4, ownS 37 y.A2 (flt e l y.k).length y.d2 8 (notes (flt e l y.k)))])
          ⟨0, none, 0, none, 0⟩ (Nat.zero_le _) ?_ ?_ ?_ ?_ ?_
        · repeat (first | exact subE.nil _ | refine subE.cons rfl rfl ?_ | refine subE.cons' rfl (fun _ => rfl) ?_)
        · exact .cons rfl rfl rfl (.nil _)
        · repeat (first | exact subB.nil _ | refine subB.cons rfl ?_)
        · repeat (first | exact subR.nil _ | refine subR.cons rfl rfl ?_)
        intro y hk2 ih2
        have hle1 := flt_le f l y.k
        have hle2 := flt_le e l y.k
        refine go 200 ?_
        conv => whnf
        refine BrM.dec (fun hb2 => ?_) (fun hb2 => ?_)
        · have hlt : y.k < l.length := by omega
          refine go 200 ?_
          conv => whnf
          refine Nx.idx 0 rfl rfl rfl Try.underlying22 rfl rfl rfl Note.enc_len hs rfl rfl hlt fun b p hq => ?_
          refine go 200 ?_
          conv => whnf
          refine Nx.load 0 rfl rfl rfl rfl hq rfl rfl ?_
          refine go 4 ?_
          conv => whnf
          refine Nx.joinX (X := Option Addr × Nat) (fun x => [(0, sl A l.length c), (1, iv who), (2, iv ring), (3, sl D ds.length d), (9, sl x.1 (flt f l (y.k + 1)).length x.2), (10, sl y.A2 (flt e l y.k).length y.d2), (11, sl B0 ds.length d0), (14, .c (.loc 14 0)), (16, .c (.loc 16 0)), (40, sl A l.length c), (41, iv l.length), (42, iv y.k)])
            (fun _ => [(16, 37, l[y.k].enc.map .v), (14, 41, ceI (countCells (l.take y.k)))]) [(14, b14)]
            (fun x => [(0, S), (1, T), (2, ownS 32 B0 ds.length d0 1 (ints ds)), (3, ownS 37 x.1 (flt f l (y.k + 1)).length x.2 8 (notes (flt f l (y.k + 1)))), (4, ownS 37 y.A2 (flt e l y.k).length y.d2 8 (notes (flt e l y.k)))]) (fun K => ?_) fun x => ?_
          · refine goR 200 ?_
            conv => whnf
            refine goR 200 ?_
            conv => whnf
            refine BrM.dec (fun h2 => ?_) (fun h2 => ?_)
            · have hsu := flt_yes (p := f) hlt (by rw [hf]; simpa using h2)
              refine goR 200 ?_
              conv => whnf
              refine Nx.append 3 (sz := 8) (by_ := 64) (news := l[y.k].enc) rfl rfl rfl rfl rfl Try.underlying22 rfl rfl rfl rfl rfl (by unfold maxLen; omega) (by omega) fun A' c'' => ?_
              refine goR 200 ?_
              conv => whnf
              refine Nx.weak (K (A', c'')) ?_ ?_ ?_ ?_
              · rw [hsu, List.length_append]
                repeat (first | exact subE.nil _ | refine subE.cons rfl rfl ?_ | refine subE.cons' rfl (fun _ => rfl) ?_)
              · repeat (first | exact subM.nil _ | refine subM.cons rfl rfl rfl ?_)
              · repeat (first | exact subB.nil _ | refine subB.cons rfl ?_)
              · rw [hsu, List.length_append, notes_snoc]
                repeat (first | exact subR.nil _ | refine subR.cons rfl rfl ?_)
            · have hsu := flt_no (p := f) hlt (by rw [hf]; simpa using h2)
              refine go 2 ?_
              conv => whnf
              refine Nx.weak (K (y.A1, y.d1)) ?_ ?_ ?_ ?_
              · rw [hsu]
                repeat (first | exact subE.nil _ | refine subE.cons rfl rfl ?_ | refine subE.cons' rfl (fun _ => rfl) ?_)
              · repeat (first | exact subM.nil _ | refine subM.cons rfl rfl rfl ?_)
              · repeat (first | exact subB.nil _ | refine subB.cons rfl ?_)
              · rw [hsu]
                repeat (first | exact subR.nil _ | refine subR.cons rfl rfl ?_)
          refine go 200 ?_
          conv => whnf
          refine Nx.loop (X := Tw) (fun z => z.k ≤ ds.length ∧ z.o = (decide (ds = []) || decide (l[y.k].deed ∈ ds.take z.k))) (fun z => ds.length - z.k)
            (fun z => [(0, sl A l.length c), (1, iv who), (2, iv ring), (3, sl D ds.length d), (9, sl x.1 (flt f l (y.k + 1)).length x.2), (10, sl y.A2 (flt e l y.k).length y.d2), (11, sl B0 ds.length d0), (14, .c (.loc 14 0)), (16, .c (.loc 16 0)), (17, bv z.o), (40, sl A l.length c), (41, iv l.length), (42, iv y.k), (57, sl D ds.length d), (58, iv ds.length), (59, iv z.k)])
            (fun _ => [(16, 37, l[y.k].enc.map .v), (14, 41, ceI (countCells (l.take y.k)))]) [(14, b14)]
            (fun _ => [(0, S), (1, T), (2, ownS 32 B0 ds.length d0 1 (ints ds)), (3, ownS 37 x.1 (flt f l (y.k + 1)).length x.2 8 (notes (flt f l (y.k + 1)))), (4, ownS 37 y.A2 (flt e l y.k).length y.d2 8 (notes (flt e l y.k)))])
            ⟨0, decide ((ds.length : Int) = 0)⟩ ⟨Nat.zero_le _, by cases ds <;> simp; omega⟩ ?_ ?_ ?_ ?_ ?_
          · repeat (first | exact subE.nil _ | refine subE.cons rfl rfl ?_ | refine subE.cons' rfl (fun _ => rfl) ?_)
          · repeat (first | exact subM.nil _ | refine subM.cons rfl rfl rfl ?_)
          · repeat (first | exact subB.nil _ | refine subB.cons rfl ?_)
          · repeat (first | exact subR.nil _ | refine subR.cons rfl rfl ?_)
          intro z ⟨hk3, ho⟩ ih3
          refine go 200 ?_
          conv => whnf
          refine BrM.dec (fun hb3 => ?_) (fun hb3 => ?_)
          · have hlt3 : z.k < ds.length := by omega
            have hne : ¬ ds = [] := fun h => by rw [h] at hlt3; simp at hlt3
            rw [decide_eq_false hne, Bool.false_or] at ho
            refine go 200 ?_
            conv => whnf
            refine Nx.idx 1 rfl rfl rfl Try.underlying39 rfl rfl rfl encI_len ht rfl rfl hlt3 fun b p hq5 => ?_
            refine go 200 ?_
            conv => whnf
            refine Nx.load1 1 rfl rfl rfl rfl (hq5) rfl ?_
            refine go 200 ?_
            conv => whnf
            refine BrM.mk (fun h3 => ?_) (fun h3 => ?_)
            · rw [h3] at ho
              refine go 200 ?_
              conv => whnf
              refine Ar.i64 (by omega) (by omega) ?_
              refine go 200 ?_
              conv => whnf
              refine (ih3 ⟨z.k + 1, true⟩ ⟨by show z.k + 1 ≤ _; omega, ?_⟩ (by show ds.length - (z.k + 1) < _; omega)).weak ?_ ?_ ?_ ?_
              · show true = (decide (ds = []) || decide (_ ∈ ds.take (z.k + 1)))
                have := of_decide_eq_true ho.symm
                rw [decide_eq_true (show l[y.k].deed ∈ ds.take (z.k + 1) by rw [List.take_succ_eq_append_getElem hlt3]; exact List.mem_append_left _ this)]
                simp
              · repeat (first | exact subE.nil _ | refine subE.cons rfl rfl ?_ | refine subE.cons' rfl (fun _ => rfl) ?_)
              · repeat (first | exact subM.nil _ | refine subM.cons rfl rfl rfl ?_)
              · repeat (first | exact subB.nil _ | refine subB.cons rfl ?_)
              · repeat (first | exact subR.nil _ | refine subR.cons rfl rfl ?_)
            · rw [h3] at ho
              refine go 200 ?_
              conv => whnf
              refine Ar.i64 (by omega) (by omega) ?_
              refine go 200 ?_
              conv => whnf
              refine (ih3 ⟨z.k + 1, decide (l[y.k].deed = ds[z.k])⟩ ⟨by show z.k + 1 ≤ _; omega, ?_⟩ (by show ds.length - (z.k + 1) < _; omega)).weak ?_ ?_ ?_ ?_
              · show decide _ = (decide (ds = []) || decide (_ ∈ ds.take (z.k + 1)))
                have := of_decide_eq_false ho.symm
                rw [decide_eq_false hne, Bool.false_or, decide_eq_decide, List.take_succ_eq_append_getElem hlt3]
                constructor
                · intro h
                  exact List.mem_append_right _ (List.mem_singleton.2 h)
                · intro h
                  rcases List.mem_append.1 h with h | h
                  · exact absurd h this
                  · exact List.mem_singleton.1 h
              · repeat (first | exact subE.nil _ | refine subE.cons rfl rfl ?_ | refine subE.cons' rfl (fun _ => rfl) ?_)
              · repeat (first | exact subM.nil _ | refine subM.cons rfl rfl rfl ?_)
              · repeat (first | exact subB.nil _ | refine subB.cons rfl ?_)
              · repeat (first | exact subR.nil _ | refine subR.cons rfl rfl ?_)
          · have hz : z.k = ds.length := by omega
            rw [hz, List.take_length] at ho
            generalize z.o = o at ho
            refine go 3 ?_
            conv => whnf
            refine Nx.joinX (X := Option Addr × Nat) (fun u => [(0, sl A l.length c), (1, iv who), (2, iv ring), (3, sl D ds.length d), (9, sl x.1 (flt f l (y.k + 1)).length x.2), (10, sl u.1 (flt e l (y.k + 1)).length u.2), (11, sl B0 ds.length d0), (14, .c (.loc 14 0)), (16, .c (.loc 16 0)), (40, sl A l.length c), (41, iv l.length), (42, iv y.k)])
              (fun _ => [(16, 37, l[y.k].enc.map .v), (14, 41, ceI (countCells (l.take y.k)))]) [(14, b14)]
              (fun u => [(0, S), (1, T), (2, ownS 32 B0 ds.length d0 1 (ints ds)), (3, ownS 37 x.1 (flt f l (y.k + 1)).length x.2 8 (notes (flt f l (y.k + 1)))), (4, ownS 37 u.1 (flt e l (y.k + 1)).length u.2 8 (notes (flt e l (y.k + 1))))]) (fun K => ?_) fun u => ?_
            · refine goR 200 ?_
              conv => whnf
              refine BrM.mk (fun h4 => ?_) (fun h4 => ?_)
              · rw [h4] at ho
                refine goR 200 ?_
                conv => whnf
                refine goR 200 ?_
                conv => whnf
                refine BrM.dec (fun h5 => ?_) (fun h5 => ?_)
                · have hsu := flt_yes (p := e) hlt (by rw [he, atP, decide_eq_true h5, Bool.true_and]; exact ho.symm)
                  refine goR 200 ?_
                  conv => whnf
                  refine Nx.append 4 (sz := 8) (by_ := 64) (news := l[y.k].enc) rfl rfl rfl rfl rfl Try.underlying22 rfl rfl rfl rfl rfl (by unfold maxLen; omega) (by omega) fun A' c'' => ?_
                  refine goR 200 ?_
                  conv => whnf
                  refine Nx.weak (K (A', c'')) ?_ ?_ ?_ ?_
                  · rw [hsu, List.length_append]
                    repeat (first | exact subE.nil _ | refine subE.cons rfl rfl ?_ | refine subE.cons' rfl (fun _ => rfl) ?_)
                  · repeat (first | exact subM.nil _ | refine subM.cons rfl rfl rfl ?_)
                  · repeat (first | exact subB.nil _ | refine subB.cons rfl ?_)
                  · rw [hsu, List.length_append, notes_snoc]
                    repeat (first | exact subR.nil _ | refine subR.cons rfl rfl ?_)
                · have hsu := flt_no (p := e) hlt (by rw [he, atP, decide_eq_false h5, Bool.false_and])
                  refine go 2 ?_
                  conv => whnf
                  refine Nx.weak (K (y.A2, y.d2)) ?_ ?_ ?_ ?_
                  · rw [hsu]
                    repeat (first | exact subE.nil _ | refine subE.cons rfl rfl ?_ | refine subE.cons' rfl (fun _ => rfl) ?_)
                  · repeat (first | exact subM.nil _ | refine subM.cons rfl rfl rfl ?_)
                  · repeat (first | exact subB.nil _ | refine subB.cons rfl ?_)
                  · rw [hsu]
                    repeat (first | exact subR.nil _ | refine subR.cons rfl rfl ?_)
              · rw [h4] at ho
                have hsu := flt_no (p := e) hlt (by rw [he, atP, ← ho, Bool.and_false])
                refine goR 200 ?_
                conv => whnf
                refine go 2 ?_
                conv => whnf
                refine Nx.weak (K (y.A2, y.d2)) ?_ ?_ ?_ ?_
                · rw [hsu]
                  repeat (first | exact subE.nil _ | refine subE.cons rfl rfl ?_ | refine subE.cons' rfl (fun _ => rfl) ?_)
                · repeat (first | exact subM.nil _ | refine subM.cons rfl rfl rfl ?_)
                · repeat (first | exact subB.nil _ | refine subB.cons rfl ?_)
                · rw [hsu]
                  repeat (first | exact subR.nil _ | refine subR.cons rfl rfl ?_)
            have hts : l.take (y.k + 1) = l.take y.k ++ [l[y.k]] := List.take_succ_eq_append_getElem hlt
            refine go 200 ?_
            conv => whnf
            refine BrM.dec (fun h6 => ?_) (fun h6 => ?_)
            · refine go 200 ?_
              conv => whnf
              refine BrM.dec (fun h7 => ?_) (fun h7 => ?_)
              · refine go 200 ?_
                conv => whnf
                have hc := countCells_yes (l := l.take y.k) h6 h7
                have hle := countF_le (l.take y.k) l[y.k].deed.toNat
                have hlt8 : l[y.k].deed.toNat < 8 := by omega
                have hlen : ((l.take y.k).length : Int) ≤ 1000000 := by simp; omega
                refine Nx.arrIdx (sz := 1) (by_ := 8) (q := l[y.k].deed.toNat) rfl rfl rfl rfl Try.underlying41 rfl rfl h6 (by omega) (by simp) ?_
                refine go 200 ?_
                conv => whnf
                refine Nx.loadAt 14 (y := .v (.int .i64 (countF (l.take y.k) l[y.k].deed.toNat))) rfl rfl rfl rfl rfl rfl ?_ ?_
                · show (ceI (countCells (l.take y.k)))[l[y.k].deed.toNat]? = _
                  simp [ceI, countCells, hlt8]
                refine go 200 ?_
                conv => whnf
                refine Ar.i64 (by omega) (by omega) ?_
                refine go 200 ?_
                conv => whnf
                refine Nx.arrIdx (sz := 1) (by_ := 8) (q := l[y.k].deed.toNat) rfl rfl rfl rfl Try.underlying41 rfl rfl h6 (by omega) (by simp) ?_
                refine go 200 ?_
                conv => whnf
                refine Nx.storeAt 14 rfl rfl rfl rfl rfl rfl rfl rfl ?_ rfl ?_
                · show _ < (ceI (countCells (l.take y.k))).length
                  simp [ceI, countCells, hlt8]
                refine go 200 ?_
                conv => whnf
                refine Ar.i64 (by omega) (by omega) ?_
                refine go 200 ?_
                conv => whnf
                refine (ih2 ⟨y.k + 1, x.1, x.2, u.1, u.2⟩ (by show y.k + 1 ≤ _; omega) (by show l.length - (y.k + 1) < _; omega)).weak ?_ ?_ ?_ ?_
                · repeat (first | exact subE.nil _ | refine subE.cons rfl rfl ?_ | refine subE.cons' rfl (fun _ => rfl) ?_)
                · exact .cons rfl (by show _ = ceI (countCells (l.take (y.k + 1))); rw [hts, hc]; simp [ceI, List.map_set]) rfl (.nil _)
                · repeat (first | exact subB.nil _ | refine subB.cons rfl ?_)
                · repeat (first | exact subR.nil _ | refine subR.cons rfl rfl ?_)
              · refine go 200 ?_
                conv => whnf
                have hc := countCells_no (l := l.take y.k) (n := l[y.k]) (fun h => h7 h.2)
                refine Ar.i64 (by omega) (by omega) ?_
                refine go 200 ?_
                conv => whnf
                refine (ih2 ⟨y.k + 1, x.1, x.2, u.1, u.2⟩ (by show y.k + 1 ≤ _; omega) (by show l.length - (y.k + 1) < _; omega)).weak ?_ ?_ ?_ ?_
                · repeat (first | exact subE.nil _ | refine subE.cons rfl rfl ?_ | refine subE.cons' rfl (fun _ => rfl) ?_)
                · exact .cons rfl (by show _ = ceI (countCells (l.take (y.k + 1))); rw [hts, hc]) rfl (.nil _)
                · repeat (first | exact subB.nil _ | refine subB.cons rfl ?_)
                · repeat (first | exact subR.nil _ | refine subR.cons rfl rfl ?_)
            · refine go 200 ?_
              conv => whnf
              have hc := countCells_no (l := l.take y.k) (n := l[y.k]) (fun h => h6 h.1)
              refine Ar.i64 (by omega) (by omega) ?_
              refine go 200 ?_
              conv => whnf
              refine (ih2 ⟨y.k + 1, x.1, x.2, u.1, u.2⟩ (by show y.k + 1 ≤ _; omega) (by show l.length - (y.k + 1) < _; omega)).weak ?_ ?_ ?_ ?_
              · repeat (first | exact subE.nil _ | refine subE.cons rfl rfl ?_ | refine subE.cons' rfl (fun _ => rfl) ?_)
              · exact .cons rfl (by show _ = ceI (countCells (l.take (y.k + 1))); rw [hts, hc]) rfl (.nil _)
              · repeat (first | exact subB.nil _ | refine subB.cons rfl ?_)
              · repeat (first | exact subR.nil _ | refine subR.cons rfl rfl ?_)
        · have hy : y.k = l.length := by omega
          rw [hy, flt_all, flt_all, List.take_length, hf, he]
          generalize y.A1 = A1
          generalize y.A2 = A2
          generalize y.d1 = d1
          generalize y.d2 = d2
          refine go 200 ?_
          conv => whnf
          refine Nx.drawn0 [] [.ex 0 true, .pure 1, .pure 2, .pure 3, .pure 5, .ex 4 true, .ex 6 true, .pure 7, .pure 8, .pure 9, .pure 10, .pure 11, .pure 13, .ex 12 true, .ex 14 true, .pure 15, .pure 16, .pure 17, .held 19, .ex 18 true, .held 20, .pure 21, .pure 22] rfl (by kernel_rfl) rfl (by kernel_rfl) rfl ?_ rfl ?_
          · repeat (first | exact subB.nil _ | refine subB.cons rfl ?_)
          refine Nx.runP (n := 200) rfl ?_ ?_
          · repeat (first | exact subB.nil _ | refine subB.cons rfl ?_)
          conv => whnf
          refine Nx.call [] [] rfl rfl rfl rfl rfl (awake_ok) rfl fun v Q hQ => ?_
          obtain ⟨rfl, rfl⟩ := hQ
          refine Nx.keepN [] rfl ?_ ?_ rfl ?_
          · repeat (first | exact subB.nil _ | refine subB.cons rfl ?_)
          · repeat (first | exact subM.nil _ | refine subM.cons rfl rfl rfl ?_)
          refine Nx.runP (n := 200) rfl ?_ ?_
          · repeat (first | exact subB.nil _ | refine subB.cons rfl ?_)
          conv => whnf
          refine Nx.runP (n := 200) rfl ?_ ?_
          · repeat (first | exact subB.nil _ | refine subB.cons rfl ?_)
          conv => whnf
          refine Nx.call [0] [0,5] rfl rfl rfl rfl rfl (Of_ok S _ _ l who hl hs) rfl fun v Q hQ => ?_
          obtain ⟨A5, c5, rfl, rfl⟩ := hQ
          refine Nx.keepN [] rfl ?_ ?_ rfl ?_
          · repeat (first | exact subB.nil _ | refine subB.cons rfl ?_)
          · repeat (first | exact subM.nil _ | refine subM.cons rfl rfl rfl ?_)
          refine Nx.runP (n := 200) rfl ?_ ?_
          · repeat (first | exact subB.nil _ | refine subB.cons rfl ?_)
          conv => whnf
          have hfl := List.length_filter_le (fun n : Note => decide (n.who = who)) l
          have hel := List.length_filter_le (atP ring ds) l
          generalize l.filter (fun n => decide (n.who = who)) = m1 at hfl
          refine Nx.call [5,3] [5,3] rfl rfl rfl rfl rfl (same_ok _ _ _ _ _ _ m1 m1 (by omega) (ownS_sees 37 A5 m1.length c5 8 (notes m1)) (ownS_sees 37 A1 m1.length d1 8 (notes m1))) rfl fun v Q hQ => ?_
          rw [decide_eq_true rfl] at hQ
          obtain ⟨rfl, rfl⟩ := hQ
          refine Nx.keepN [] rfl ?_ ?_ rfl ?_
          · repeat (first | exact subB.nil _ | refine subB.cons rfl ?_)
          · repeat (first | exact subM.nil _ | refine subM.cons rfl rfl rfl ?_)
          refine Nx.runP (n := 200) rfl ?_ ?_
          · repeat (first | exact subB.nil _ | refine subB.cons rfl ?_)
          conv => whnf
          refine Nx.runP (n := 200) rfl ?_ ?_
          · repeat (first | exact subB.nil _ | refine subB.cons rfl ?_)
          conv => whnf
          refine Nx.call [0,2] [0,2,6] rfl rfl rfl rfl rfl (At_ok S _ _ _ _ _ l ds ring hl hw hs (ownS_sees 32 B0 ds.length d0 1 (ints ds))) rfl fun v Q hQ => ?_
          obtain ⟨A6, c6, rfl, rfl⟩ := hQ
          refine Nx.keepN [] rfl ?_ ?_ rfl ?_
          · repeat (first | exact subB.nil _ | refine subB.cons rfl ?_)
          · repeat (first | exact subM.nil _ | refine subM.cons rfl rfl rfl ?_)
          refine Nx.runP (n := 200) rfl ?_ ?_
          · repeat (first | exact subB.nil _ | refine subB.cons rfl ?_)
          conv => whnf
          generalize l.filter (atP ring ds) = m2 at hel
          refine Nx.call [6,4] [6,4] rfl rfl rfl rfl rfl (same_ok _ _ _ _ _ _ m2 m2 (by omega) (ownS_sees 37 A6 m2.length c6 8 (notes m2)) (ownS_sees 37 A2 m2.length d2 8 (notes m2))) rfl fun v Q hQ => ?_
          rw [decide_eq_true rfl] at hQ
          obtain ⟨rfl, rfl⟩ := hQ
          refine Nx.keepN [] rfl ?_ ?_ rfl ?_
          · repeat (first | exact subB.nil _ | refine subB.cons rfl ?_)
          · repeat (first | exact subM.nil _ | refine subM.cons rfl rfl rfl ?_)
          refine Nx.runP (n := 200) rfl ?_ ?_
          · repeat (first | exact subB.nil _ | refine subB.cons rfl ?_)
          conv => whnf
          refine Nx.runP (n := 200) rfl ?_ ?_
          · repeat (first | exact subB.nil _ | refine subB.cons rfl ?_)
          conv => whnf
          refine Nx.call [0] [0] rfl rfl rfl rfl rfl (Counts_ok S _ _ l hl hs) rfl fun v Q hQ => ?_
          obtain ⟨rfl, rfl⟩ := hQ
          refine Nx.keepN [] rfl ?_ ?_ rfl ?_
          · repeat (first | exact subB.nil _ | refine subB.cons rfl ?_)
          · repeat (first | exact subM.nil _ | refine subM.cons rfl rfl rfl ?_)
          refine Nx.runP (n := 200) rfl ?_ ?_
          · repeat (first | exact subB.nil _ | refine subB.cons rfl ?_)
          conv => whnf
          refine Nx.hoEqS (b := true) rfl (.inl rfl) rfl rfl rfl rfl (by kernel_rfl) (eq41 _ _ _ _ _ _ _ _) rfl ?_
          refine Nx.runP (n := 200) rfl ?_ ?_
          · repeat (first | exact subB.nil _ | refine subB.cons rfl ?_)
          conv => whnf
          refine go 200 ?_
          conv => whnf
          refine Nx.ret [0, 1] Try.func4 rfl rfl ?_
          exact ⟨rfl, rfl⟩
  · rw [decide_eq_false h0]
    refine go 200 ?_
    conv => whnf
    refine go 200 ?_
    conv => whnf
    refine Nx.call [] [] rfl rfl rfl rfl rfl (awake_ok) rfl fun v Q hQ => ?_
    obtain ⟨rfl, rfl⟩ := hQ
    refine go 200 ?_
    conv => whnf
    refine Nx.ret [0, 1] Try.func4 rfl rfl ?_
    exact ⟨rfl, rfl⟩
end Go.Proofs.Ytnnhgopibbdlkaa
