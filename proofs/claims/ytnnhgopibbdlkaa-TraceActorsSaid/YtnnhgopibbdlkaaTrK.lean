/- TraceActors: its walk and its law. -/
import Derived.Test.YtnnhgopibbdlkaaTrJ
namespace Go.Proofs.Ytnnhgopibbdlkaa
open Go.RowKit
attribute [local irreducible] Nx Ar

theorem han_eq (l : List Note) (who ring deed : Int) (h : 0 ≤ who) : l.filter (hanP who ring deed) = ofAt who ring deed l := by
  unfold ofAt
  rw [List.filter_filter]
  apply List.filter_congr
  intro n _
  have h0 : ¬ who < 0 := by omega
  simp [hanP, atP, h0, Bool.and_comm, Bool.and_left_comm, Bool.and_assoc]
def retP (who : Int) (n : Note) : Bool := decide (n.who = who) && decide (n.deed = 4)
theorem ret_eq (l : List Note) (who : Int) : (l.filter (retP who)).map Note.code = codesTo (l.filter fun n => decide (n.who = who)) := by
  unfold codesTo
  rw [List.filter_filter]
  congr 1
  apply List.filter_congr
  intro n _
  simp [retP, Bool.and_comm]

structure AcSt where
  k : Nat
  r : Bool
  a : Int
structure AcI (h : List Note) (i0 : Int) (x : AcSt) : Prop where
  k : x.k ≤ h.length
  a : -9223372036854775808 ≤ x.a
  e : risingL h i0 = (x.r && risingL (h.drop x.k) x.a)

theorem TraceActors_ok (S : SP) (A : Option Addr) (c : Nat) (l : List Note) (who ring i0 : Int) (h63 : -9223372036854775808 ≤ i0) (hs : Sees S A l.length 8 (notes l)) :
    FnOk Try.prog 9 [.slice A l.length c, .int .i64 who, .int .i64 ring, .int .i64 i0] [S] (fun v Q => v = .bool true ∧ Q = [S]) := by
  refine FnOk.start Try.func9 rfl rfl rfl rfl fun F os tape output => ?_
  refine go 200 ?_
  conv => whnf
  refine Nx.call [0] [0] rfl rfl rfl rfl rfl (small_ok S A c l.length) rfl fun v Q hQ => ?_
  obtain ⟨rfl, rfl⟩ := hQ
  by_cases h0 : l.length ≤ 120
  · have hl : l.length ≤ 1000000 := by omega
    rw [decide_eq_true h0]
    refine go 200 ?_
    conv => whnf
    refine go 200 ?_
    conv => whnf
    refine BrM.dec (fun h1 => ?_) (fun h1 => ?_)
    · refine go 200 ?_
      conv => whnf
      refine Nx.call [] [] rfl rfl rfl rfl rfl (awake_ok) rfl fun v Q hQ => ?_
      obtain ⟨rfl, rfl⟩ := hQ
      refine go 200 ?_
      conv => whnf
      refine Nx.ret [0] Try.func9 rfl rfl ?_
      exact ⟨rfl, rfl⟩
    · refine go 200 ?_
      conv => whnf
      have e2 := han_eq l who ring 2 (by omega)
      have e3 := han_eq l who ring 3 (by omega)
      obtain ⟨h, hh⟩ : ∃ h, h = ofAt who ring 2 l := ⟨_, rfl⟩
      obtain ⟨m, hm⟩ : ∃ m, m = ofAt who ring 3 l := ⟨_, rfl⟩
      rw [← hh] at e2
      rw [← hm] at e3
      have hhl := ofAt_len who ring 2 l
      have hml := ofAt_len who ring 3 l
      rw [← hh] at hhl
      rw [← hm] at hml
      refine Nx.call [0] [0,1] rfl rfl rfl rfl rfl (Handled_ok S _ _ l who ring 2 hl hs) rfl fun v Q hQ => ?_
      simp only [e2] at hQ
      obtain ⟨A1, c1, rfl, rfl⟩ := hQ
      refine go 200 ?_
      conv => whnf
      refine Nx.call [0] [0,2] rfl rfl rfl rfl rfl (Handled_ok S _ _ l who ring 3 hl hs) rfl fun v Q hQ => ?_
      simp only [e3] at hQ
      obtain ⟨A2, c2, rfl, rfl⟩ := hQ
      refine go 200 ?_
      conv => whnf
      refine Nx.call [0] [0,3] rfl rfl rfl rfl rfl (Events_ok S _ _ l who ring hl hs) rfl fun v Q hQ => ?_
      simp only [← hh, List.length_map] at hQ
      obtain ⟨A3, c3, rfl, rfl⟩ := hQ
      refine go 200 ?_
      conv => whnf
      refine BrM.dec (fun hb => ?_) (fun hb => ?_)
      · exact absurd rfl hb
      refine go 200 ?_
      conv => whnf
      refine Nx.loop (AcI h i0) (fun x => h.length - x.k)
        (fun x => [(0, sl A l.length c), (1, iv who), (2, iv ring), (3, iv i0), (9, sl A1 h.length c1), (10, sl A2 m.length c2), (11, sl A3 h.length c3), (12, bv x.r), (13, iv x.a), (48, iv h.length), (49, iv x.k)]) (fun _ => []) [] (fun _ => [(0, S), (1, ownS 37 A1 h.length c1 8 (notes h)), (2, ownS 37 A2 m.length c2 8 (notes m)), (3, ownS 34 A3 h.length c3 2 (evs (h.map Note.ev)))])
        ⟨0, true, i0⟩ ⟨Nat.zero_le _, h63, by simp⟩ ?_ ?_ ?_ ?_ ?_
      · repeat (first | exact subE.nil _ | refine subE.cons rfl rfl ?_ | refine subE.cons' rfl (fun _ => rfl) ?_)
      · repeat (first | exact subM.nil _ | refine subM.cons rfl rfl rfl ?_)
      · repeat (first | exact subB.nil _ | refine subB.cons rfl ?_)
      · repeat (first | exact subR.nil _ | refine subR.cons rfl rfl ?_)
      intro x hI ih
      have hk := hI.k
      have ha := hI.a
      have he := hI.e
      refine go 200 ?_
      conv => whnf
      refine BrM.dec (fun hb2 => ?_) (fun hb2 => ?_)
      · have hlt : x.k < h.length := by omega
        have hlt2 : x.k < (h.map Note.ev).length := by rw [List.length_map]; exact hlt
        have hj := risingL_at hlt x.a
        refine go 200 ?_
        conv => whnf
        refine Nx.drawn0 [1, 3] [.pure 0, .pure 1, .held 2, .held 3, .pure 4, .pure 5, .held 6, .pure 7, .held 8, .held 9] rfl (by kernel_rfl) rfl (by kernel_rfl) rfl ?_ rfl ?_
        · repeat (first | exact subB.nil _ | refine subB.cons rfl ?_)
        refine Nx.runP (n := 200) rfl ?_ ?_
        · repeat (first | exact subB.nil _ | refine subB.cons rfl ?_)
        conv => whnf
        refine Nx.hoIdx 3 rfl rfl rfl Try.underlying55 rfl rfl rfl Ev.enc_len (ownS_sees 34 A3 h.length c3 2 (evs (h.map Note.ev))) (by simp) rfl hlt2 fun b1 p1 hq1 => ?_
        refine Nx.runP (n := 200) rfl ?_ ?_
        · repeat (first | exact subB.nil _ | refine subB.cons rfl ?_)
        conv => whnf
        refine Nx.hoLoad rfl rfl rfl rfl (List.mem_cons_of_mem _ List.mem_cons_self) hq1 rfl rfl ?_
        refine Nx.runP (n := 200) rfl ?_ ?_
        · repeat (first | exact subB.nil _ | refine subB.cons rfl ?_)
        conv => whnf
        refine Nx.hoIdx 1 rfl rfl rfl Try.underlying22 rfl rfl rfl Note.enc_len (ownS_sees 37 A1 h.length c1 8 (notes h)) rfl rfl hlt fun b2 p2 hq2 => ?_
        refine Nx.runP (n := 200) rfl ?_ ?_
        · repeat (first | exact subB.nil _ | refine subB.cons rfl ?_)
        conv => whnf
        refine Nx.hoLoad rfl rfl rfl rfl List.mem_cons_self (SeesAt.cut hq2 5 2 (by rw [Note.enc_len]; decide)) rfl rfl ?_
        refine Nx.runP (n := 200) rfl ?_ ?_
        · repeat (first | exact subB.nil _ | refine subB.cons rfl ?_)
        conv => whnf
        refine Nx.hoEqS rfl (.inr rfl) rfl rfl rfl rfl (by kernel_rfl) (eq34 (h.map Note.ev)[x.k] h[x.k].ev) rfl ?_
        refine Nx.runP (n := 200) rfl ?_ ?_
        · repeat (first | exact subB.nil _ | refine subB.cons rfl ?_)
        conv => whnf
        rw [decide_eq_true (List.getElem_map (l := h) Note.ev (i := x.k))]
        refine go 200 ?_
        conv => whnf
        refine go 200 ?_
        conv => whnf
        refine BrM.mk (fun hr => ?_) (fun hr => ?_)
        · rw [hr, Bool.true_and, hj] at he
          refine go 200 ?_
          conv => whnf
          refine Nx.idx 1 rfl rfl rfl Try.underlying22 rfl rfl rfl Note.enc_len (ownS_sees 37 A1 h.length c1 8 (notes h)) rfl rfl hlt fun b p hq => ?_
          refine go 200 ?_
          conv => whnf
          refine Nx.load1 1 rfl rfl rfl rfl (SeesAt.sub hq 4 rfl) rfl ?_
          refine go 200 ?_
          conv => whnf
          refine BrM.dec (fun h3 => ?_) (fun h3 => ?_)
          · refine go 200 ?_
            conv => whnf
            refine Ar.i64 (by omega) (by omega) ?_
            refine go 200 ?_
            conv => whnf
            refine Ar.i64 (by omega) (by omega) ?_
            refine go 200 ?_
            conv => whnf
            refine (ih ⟨x.k + 1, decide (x.a ≤ 4611686018427387904), min x.a 4611686018427387904 + 1⟩ ⟨by show x.k + 1 ≤ _; omega, by show _ ≤ min x.a _ + 1; omega, ?_⟩ (by show h.length - (x.k + 1) < _; omega)).weak ?_ ?_ ?_ ?_
            · rw [he]
              by_cases h4 : x.a ≤ 4611686018427387904
              · rw [if_pos ⟨h3, h4⟩, decide_eq_true h4, Bool.true_and]
                show _ = risingL _ (min x.a 4611686018427387904 + 1)
                rw [Int.min_eq_left h4]
              · rw [if_neg (fun h => h4 h.2), decide_eq_false h4, Bool.false_and]
            · repeat (first | exact subE.nil _ | refine subE.cons rfl rfl ?_ | refine subE.cons' rfl (fun _ => rfl) ?_)
            · repeat (first | exact subM.nil _ | refine subM.cons rfl rfl rfl ?_)
            · repeat (first | exact subB.nil _ | refine subB.cons rfl ?_)
            · repeat (first | exact subR.nil _ | refine subR.cons rfl rfl ?_)
          · rw [if_neg (fun h => h3 h.1)] at he
            refine go 200 ?_
            conv => whnf
            refine Ar.i64 (by omega) (by omega) ?_
            refine go 200 ?_
            conv => whnf
            refine Ar.i64 (by omega) (by omega) ?_
            refine go 200 ?_
            conv => whnf
            refine (ih ⟨x.k + 1, false, min x.a 4611686018427387904 + 1⟩ ⟨by show x.k + 1 ≤ _; omega, by show _ ≤ min x.a _ + 1; omega, by rw [he]; rfl⟩ (by show h.length - (x.k + 1) < _; omega)).weak ?_ ?_ ?_ ?_
            · repeat (first | exact subE.nil _ | refine subE.cons rfl rfl ?_ | refine subE.cons' rfl (fun _ => rfl) ?_)
            · repeat (first | exact subM.nil _ | refine subM.cons rfl rfl rfl ?_)
            · repeat (first | exact subB.nil _ | refine subB.cons rfl ?_)
            · repeat (first | exact subR.nil _ | refine subR.cons rfl rfl ?_)
        · rw [hr, Bool.false_and] at he
          refine go 200 ?_
          conv => whnf
          refine Ar.i64 (by omega) (by omega) ?_
          refine go 200 ?_
          conv => whnf
          refine Ar.i64 (by omega) (by omega) ?_
          refine go 200 ?_
          conv => whnf
          refine (ih ⟨x.k + 1, false, min x.a 4611686018427387904 + 1⟩ ⟨by show x.k + 1 ≤ _; omega, by show _ ≤ min x.a _ + 1; omega, by rw [he]; rfl⟩ (by show h.length - (x.k + 1) < _; omega)).weak ?_ ?_ ?_ ?_
          · repeat (first | exact subE.nil _ | refine subE.cons rfl rfl ?_ | refine subE.cons' rfl (fun _ => rfl) ?_)
          · repeat (first | exact subM.nil _ | refine subM.cons rfl rfl rfl ?_)
          · repeat (first | exact subB.nil _ | refine subB.cons rfl ?_)
          · repeat (first | exact subR.nil _ | refine subR.cons rfl rfl ?_)
      · have hx : x.k = h.length := by omega
        rw [hx, List.drop_length, risingL, Bool.and_true] at he
        obtain ⟨r, hr⟩ : ∃ r, r = x.r := ⟨_, rfl⟩
        rw [← hr] at he ⊢
        refine go 7 ?_
        conv => whnf
        refine Nx.joinR (E := [(0, sl A l.length c), (1, iv who), (2, iv ring), (3, iv i0), (12, bv r), (15, iv (lastSeq m))]) (M := []) (B := []) (R := [(0, S)]) (fun K => ?_) ?_
        · refine goR 200 ?_
          conv => whnf
          refine goR 200 ?_
          conv => whnf
          refine BrM.dec (fun h5 => ?_) (fun h5 => ?_)
          · have hlt : m.length - 1 < m.length := by omega
            refine goR 200 ?_
            conv => whnf
            refine Ar.i64 (by omega) (by omega) ?_
            refine go 200 ?_
            conv => whnf
            refine Nx.idx 2 rfl rfl rfl Try.underlying22 rfl rfl rfl Note.enc_len (ownS_sees 37 A2 m.length c2 8 (notes m)) rfl (by omega) hlt fun b p hq => ?_
            refine goR 200 ?_
            conv => whnf
            refine Nx.load1 2 rfl rfl rfl rfl (SeesAt.sub hq 4 rfl) rfl ?_
            refine goR 200 ?_
            conv => whnf
            refine Nx.weak K ?_ ?_ ?_ ?_
            · have e : lastSeq m = m[m.length - 1].seq := by
                have e : m.getLast? = some m[m.length - 1] := by rw [List.getLast?_eq_getElem?, List.getElem?_eq_getElem hlt]
                unfold lastSeq
                rw [e]
              rw [e]
              repeat (first | exact subE.nil _ | refine subE.cons rfl rfl ?_ | refine subE.cons' rfl (fun _ => rfl) ?_)
            · repeat (first | exact subM.nil _ | refine subM.cons rfl rfl rfl ?_)
            · repeat (first | exact subB.nil _ | refine subB.cons rfl ?_)
            · repeat (first | exact subR.nil _ | refine subR.cons rfl rfl ?_)
          · refine go 2 ?_
            conv => whnf
            refine Nx.weak K ?_ ?_ ?_ ?_
            · have e : lastSeq m = -1 := by
                have e : m = [] := List.eq_nil_of_length_eq_zero (by omega)
                rw [e]
                rfl
              rw [e]
              repeat (first | exact subE.nil _ | refine subE.cons rfl rfl ?_ | refine subE.cons' rfl (fun _ => rfl) ?_)
            · repeat (first | exact subM.nil _ | refine subM.cons rfl rfl rfl ?_)
            · repeat (first | exact subB.nil _ | refine subB.cons rfl ?_)
            · repeat (first | exact subR.nil _ | refine subR.cons rfl rfl ?_)
        refine go 200 ?_
        conv => whnf
        refine Nx.give 4 (ownS 35 none 0 0 1 []) (own_nil _ _ _ _) ?_
        obtain ⟨f, hf⟩ : ∃ f : Note → Bool, f = retP who := ⟨_, rfl⟩
        have ecs := ret_eq l who
        rw [← hf] at ecs
        obtain ⟨cs, hcs⟩ : ∃ cs, cs = codesTo (l.filter fun n => decide (n.who = who)) := ⟨_, rfl⟩
        rw [← hcs] at ecs
        have hcl : cs.length ≤ l.length := by rw [← ecs, List.length_map]; exact List.length_filter_le _ _
        refine Nx.loop (X := KSt) (fun x => x.k ≤ l.length) (fun x => l.length - x.k)
          (fun x => [(0, sl A l.length c), (1, iv who), (2, iv ring), (3, iv i0), (12, bv r), (15, iv (lastSeq m)), (16, sl x.B (flt f l x.k).length x.d), (90, sl A l.length c), (91, iv l.length), (92, iv x.k)]) (fun _ => []) [] (fun x => [(0, S), (4, ownS 35 x.B (flt f l x.k).length x.d 1 (ints ((flt f l x.k).map Note.code)))])
          ⟨0, none, 0⟩ (Nat.zero_le _) ?_ ?_ ?_ ?_ ?_
        · repeat (first | exact subE.nil _ | refine subE.cons rfl rfl ?_ | refine subE.cons' rfl (fun _ => rfl) ?_)
        · repeat (first | exact subM.nil _ | refine subM.cons rfl rfl rfl ?_)
        · repeat (first | exact subB.nil _ | refine subB.cons rfl ?_)
        · repeat (first | exact subR.nil _ | refine subR.cons rfl rfl ?_)
        intro y hk2 ih2
        have hle := flt_le f l y.k
        refine go 200 ?_
        conv => whnf
        refine BrM.dec (fun hb3 => ?_) (fun hb3 => ?_)
        · have hlt : y.k < l.length := by omega
          refine go 200 ?_
          conv => whnf
          refine Nx.idx 0 rfl rfl rfl Try.underlying22 rfl rfl rfl Note.enc_len hs rfl rfl hlt fun b p hq => ?_
          refine go 200 ?_
          conv => whnf
          refine Nx.load 0 rfl rfl rfl rfl hq rfl rfl ?_
          refine go 200 ?_
          conv => whnf
          refine BrM.dec (fun h6 => ?_) (fun h6 => ?_)
          · refine go 200 ?_
            conv => whnf
            refine BrM.dec (fun h7 => ?_) (fun h7 => ?_)
            · have hsu := flt_yes (p := f) hlt (by rw [hf]; simp [retP, h6, h7])
              refine go 200 ?_
              conv => whnf
              refine Nx.append 4 (sz := 1) (by_ := 8) (news := (encI l[y.k].code)) rfl rfl rfl rfl rfl Try.underlying57 rfl rfl rfl rfl rfl (by unfold maxLen; omega) (by omega) fun A' c'' => ?_
              refine go 200 ?_
              conv => whnf
              refine Ar.i64 (by omega) (by omega) ?_
              refine go 200 ?_
              conv => whnf
              refine (ih2 ⟨y.k + 1, A', c''⟩ (by show y.k + 1 ≤ _; omega) (by show l.length - (y.k + 1) < _; omega)).weak ?_ ?_ ?_ ?_
              · exact .cons rfl rfl (.cons rfl rfl (.cons rfl rfl (.cons rfl rfl (.cons rfl rfl (.cons rfl rfl (.cons rfl (by rw [hsu]; simp) (.cons rfl rfl (.cons rfl rfl (.cons rfl (by simp) (.nil _))))))))))
              · repeat (first | exact subM.nil _ | refine subM.cons rfl rfl rfl ?_)
              · repeat (first | exact subB.nil _ | refine subB.cons rfl ?_)
              · exact .cons rfl rfl (.cons rfl (by rw [hsu]; simp) (.nil _))
            · have hsu := flt_no (p := f) hlt (by rw [hf]; simp [retP, h7])
              refine go 200 ?_
              conv => whnf
              refine Ar.i64 (by omega) (by omega) ?_
              refine go 200 ?_
              conv => whnf
              refine (ih2 ⟨y.k + 1, y.B, y.d⟩ (by show y.k + 1 ≤ _; omega) (by show l.length - (y.k + 1) < _; omega)).weak ?_ ?_ ?_ ?_
              · exact .cons rfl rfl (.cons rfl rfl (.cons rfl rfl (.cons rfl rfl (.cons rfl rfl (.cons rfl rfl (.cons rfl (by rw [hsu]) (.cons rfl rfl (.cons rfl rfl (.cons rfl (by simp) (.nil _))))))))))
              · repeat (first | exact subM.nil _ | refine subM.cons rfl rfl rfl ?_)
              · repeat (first | exact subB.nil _ | refine subB.cons rfl ?_)
              · exact .cons rfl rfl (.cons rfl (by rw [hsu]) (.nil _))
          · have hsu := flt_no (p := f) hlt (by rw [hf]; simp [retP, h6])
            refine go 200 ?_
            conv => whnf
            refine Ar.i64 (by omega) (by omega) ?_
            refine go 200 ?_
            conv => whnf
            refine (ih2 ⟨y.k + 1, y.B, y.d⟩ (by show y.k + 1 ≤ _; omega) (by show l.length - (y.k + 1) < _; omega)).weak ?_ ?_ ?_ ?_
            · exact .cons rfl rfl (.cons rfl rfl (.cons rfl rfl (.cons rfl rfl (.cons rfl rfl (.cons rfl rfl (.cons rfl (by rw [hsu]) (.cons rfl rfl (.cons rfl rfl (.cons rfl (by simp) (.nil _))))))))))
            · repeat (first | exact subM.nil _ | refine subM.cons rfl rfl rfl ?_)
            · repeat (first | exact subB.nil _ | refine subB.cons rfl ?_)
            · exact .cons rfl rfl (.cons rfl (by rw [hsu]) (.nil _))
        · have hy : y.k = l.length := by omega
          have hfl : (flt f l y.k).length = cs.length := by rw [← ecs, List.length_map, hy, flt_all]
          have hfm : (flt f l y.k).map Note.code = cs := by rw [← ecs, hy, flt_all]
          rw [hfm, hfl]
          generalize y.B = B4
          generalize y.d = d4
          refine go 200 ?_
          conv => whnf
          refine Nx.call [0] [0,5] rfl rfl rfl rfl rfl (Calls_ok S _ _ l who hl hs) rfl fun v Q hQ => ?_
          simp only [← hcs] at hQ
          obtain ⟨A5, c5, rfl, rfl⟩ := hQ
          refine go 200 ?_
          conv => whnf
          refine BrM.dec (fun hb4 => ?_) (fun hb4 => ?_)
          · exact absurd rfl hb4
          refine go 200 ?_
          conv => whnf
          refine Nx.loop (X := BhSt) (fun x => x.k ≤ cs.length) (fun x => cs.length - x.k)
            (fun x => [(0, sl A l.length c), (1, iv who), (2, iv ring), (3, iv i0), (12, bv r), (15, iv (lastSeq m)), (16, sl B4 cs.length d4), (19, sl A5 cs.length c5), (120, iv cs.length), (121, iv x.k)]) (fun _ => []) [] (fun _ => [(0, S), (4, ownS 35 B4 cs.length d4 1 (ints cs)), (5, ownS 35 A5 cs.length c5 1 (ints cs))])
            ⟨0⟩ (Nat.zero_le _) ?_ ?_ ?_ ?_ ?_
          · repeat (first | exact subE.nil _ | refine subE.cons rfl rfl ?_ | refine subE.cons' rfl (fun _ => rfl) ?_)
          · repeat (first | exact subM.nil _ | refine subM.cons rfl rfl rfl ?_)
          · repeat (first | exact subB.nil _ | refine subB.cons rfl ?_)
          · repeat (first | exact subR.nil _ | refine subR.cons rfl rfl ?_)
          intro z hk3 ih3
          refine go 200 ?_
          conv => whnf
          refine BrM.dec (fun hb5 => ?_) (fun hb5 => ?_)
          · have hlt : z.k < cs.length := by omega
            refine go 200 ?_
            conv => whnf
            refine Nx.drawn0 [4, 5] [.pure 0, .pure 1, .held 2, .held 3, .pure 4, .pure 5, .held 6, .held 7, .pure 8] rfl (by kernel_rfl) rfl (by kernel_rfl) rfl ?_ rfl ?_
            · repeat (first | exact subB.nil _ | refine subB.cons rfl ?_)
            refine Nx.runP (n := 200) rfl ?_ ?_
            · repeat (first | exact subB.nil _ | refine subB.cons rfl ?_)
            conv => whnf
            refine Nx.hoIdx 5 rfl rfl rfl Try.underlying57 rfl rfl rfl encI_len (ownS_sees 35 A5 cs.length c5 1 (ints cs)) rfl rfl hlt fun b1 p1 hq1 => ?_
            refine Nx.runP (n := 200) rfl ?_ ?_
            · repeat (first | exact subB.nil _ | refine subB.cons rfl ?_)
            conv => whnf
            refine Nx.hoLoad1 rfl rfl rfl rfl (List.mem_cons_of_mem _ List.mem_cons_self) hq1 rfl ?_
            refine Nx.runP (n := 200) rfl ?_ ?_
            · repeat (first | exact subB.nil _ | refine subB.cons rfl ?_)
            conv => whnf
            refine Nx.hoIdx 4 rfl rfl rfl Try.underlying57 rfl rfl rfl encI_len (ownS_sees 35 B4 cs.length d4 1 (ints cs)) rfl rfl hlt fun b2 p2 hq2 => ?_
            refine Nx.runP (n := 200) rfl ?_ ?_
            · repeat (first | exact subB.nil _ | refine subB.cons rfl ?_)
            conv => whnf
            refine Nx.hoLoad1 rfl rfl rfl rfl List.mem_cons_self hq2 rfl ?_
            refine Nx.runP (n := 200) rfl ?_ ?_
            · repeat (first | exact subB.nil _ | refine subB.cons rfl ?_)
            conv => whnf
            refine go 200 ?_
            conv => whnf
            refine BrM.dec (fun hb6 => ?_) (fun hb6 => ?_)
            · exact absurd rfl hb6
            refine go 200 ?_
            conv => whnf
            refine Ar.i64 (by omega) (by omega) ?_
            refine go 200 ?_
            conv => whnf
            refine (ih3 ⟨z.k + 1⟩ (by show z.k + 1 ≤ _; omega) (by show cs.length - (z.k + 1) < _; omega)).weak ?_ ?_ ?_ ?_
            · repeat (first | exact subE.nil _ | refine subE.cons rfl rfl ?_ | refine subE.cons' rfl (fun _ => rfl) ?_)
            · repeat (first | exact subM.nil _ | refine subM.cons rfl rfl rfl ?_)
            · repeat (first | exact subB.nil _ | refine subB.cons rfl ?_)
            · repeat (first | exact subR.nil _ | refine subR.cons rfl rfl ?_)
          · refine go 200 ?_
            conv => whnf
            refine Nx.call [] [] rfl rfl rfl rfl rfl (awake_ok) rfl fun v Q hQ => ?_
            obtain ⟨rfl, rfl⟩ := hQ
            refine go 200 ?_
            conv => whnf
            refine go 200 ?_
            conv => whnf
            refine Nx.call [0] [0] rfl rfl rfl rfl rfl (Cursor_ok S _ _ l who ring hl hs) rfl fun v Q hQ => ?_
            rw [← hm] at hQ
            obtain ⟨rfl, rfl⟩ := hQ
            refine go 200 ?_
            conv => whnf
            refine BrM.dec (fun hb7 => ?_) (fun hb7 => ?_)
            · refine go 200 ?_
              conv => whnf
              refine Nx.call [0] [0] rfl rfl rfl rfl rfl (Rising_ok S _ _ l who ring i0 h63 hl hs) rfl fun v Q hQ => ?_
              rw [← hh, he] at hQ
              obtain ⟨rfl, rfl⟩ := hQ
              refine go 200 ?_
              conv => whnf
              refine Nx.ret [0] Try.func9 rfl rfl ?_
              exact ⟨by simp [oneV], rfl⟩
            · exact absurd rfl hb7
  · rw [decide_eq_false h0]
    refine go 200 ?_
    conv => whnf
    refine go 200 ?_
    conv => whnf
    refine Nx.call [] [] rfl rfl rfl rfl rfl (awake_ok) rfl fun v Q hQ => ?_
    obtain ⟨rfl, rfl⟩ := hQ
    refine go 200 ?_
    conv => whnf
    refine Nx.ret [0] Try.func9 rfl rfl ?_
    exact ⟨rfl, rfl⟩
end Go.Proofs.Ytnnhgopibbdlkaa
