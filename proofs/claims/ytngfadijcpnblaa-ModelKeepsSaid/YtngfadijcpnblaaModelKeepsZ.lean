/- ModelKeeps: true for every input, and the arguments read as they did. -/
import Derived.Test.YtngfadijcpnblaaMg
import Derived.Test.YtngfadijcpnblaaRows
set_option linter.unusedSimpArgs false
set_option linter.unusedVariables false
/- Rows of norialaw23: operations among the arguments. -/
namespace Go.Proofs.Ytngfadijcpnblaa
open Go.ChangeShapes Go.WideShapes Go.ChangeAt Go.RowKit Go.Deep
set_option maxRecDepth 100000
theorem laid0 : laidOutB Try.prog = true := by kernel_rfl
theorem own0 : ownKnob Try.prog.godebug = none := by kernel_rfl
theorem chk0 : Try.checked.prog = Try.prog := rfl
section
variable {H : Type} {enc : TypeId × Value → H} {P : Program} {w : World} {base : Nat} {spare : Nat → Bool} {held : Bool}
theorem open_cells {α : Type} {encA : α → List Value} {Q : α → Prop} {t e : TypeId} {C : Nat} {fuel : Nat} {cs0 : List Value} {x0 : DataW H × List MemPlace} (ht : P.underlying t = some (.slice e)) (hC : P.cellsOf e = C) (hC0 : 0 < C)
    (hopen : ∀ (n : Nat) (cs : List Value) (y : DataW H × List MemPlace), DataW.trod enc P w base spare held n e cs = some y → ∃ x, cs = encA x ∧ Q x) (he : ∀ x, (encA x).length = C)
    (h : DataW.trod enc P w base spare held fuel t cs0 = some x0) :
    ∃ (A : Option Addr) (l : List α) (c : Nat), cs0 = [.slice A l.length c] ∧ Rd (hw w) A l.length C (l.flatMap encA) ∧ (∀ x ∈ l, Q x) ∧ l.length ≤ c ∧ c ≤ maxLen := by
  rcases open_slice ht h with ⟨hcs, _⟩ | ⟨a, len, cap, m, n, D, Pl, hcs, _, hlc, hcm, hm, _, hi⟩
  · exact ⟨none, [], 0, hcs, ⟨by simp, fun h => by simp at h⟩, by simp, Nat.le_refl _, Nat.zero_le _⟩
  · have hml : len ≤ m := by rw [hm]; split <;> omega
    obtain ⟨l, hl, hq⟩ := list_of (F := fun i x => w.cells? base (a.add (i * C)) C = some (encA x) ∧ Q x) len (fun i hi' => by
      obtain ⟨cs', h1, h2⟩ := hi i (by omega)
      obtain ⟨x, rfl, hx⟩ := hopen _ _ _ h2
      rw [hC] at h1
      exact ⟨x, h1, hx⟩)
    subst hl
    refine ⟨some a, l, cap, hcs, ⟨flat_len he l, fun hpos => ?_⟩, fun x hx => ?_, hlc, hcm⟩
    · have hcell : ∀ j, j < l.length * C → w.cell? (a.add j) = (l.flatMap encA)[j]? := by
        intro j hj
        have hjC : j % C < C := Nat.mod_lt _ hC0
        have hjd : j / C < l.length := Nat.div_lt_of_lt_mul (by rw [Nat.mul_comm]; exact hj)
        have e1 : j = j / C * C + j % C := by rw [Nat.mul_comm]; exact (Nat.div_add_mod j C).symm
        obtain ⟨_, _, hat⟩ := World.cells?_some (hq _ hjd).1
        have h2 := hat _ hjC
        rw [Go.Deep.add_add, ← e1] at h2
        rw [h2, ← flat_at he l _ hjd _ hjC, ← e1]
      have h0 := hcell 0 (by exact Nat.mul_pos hpos hC0)
      have hlen := flat_len he l
      have hp0 : 0 < (l.flatMap encA).length := by rw [hlen]; exact Nat.mul_pos hpos hC0
      rw [List.getElem?_eq_getElem hp0] at h0
      obtain ⟨b, off, spot⟩ := a
      have hspot : spot = none := by simpa [Addr.add] using World.cell?_spot h0
      subst hspot
      unfold World.cell? at h0
      split at h0
      · rename_i c tt fr hb
        simp only [Addr.add, if_true] at hb
        refine ⟨b, off, c, tt, fr, rfl, hb, fun j hj => ?_⟩
        have := hcell j hj
        rw [← this, add_plain]
        unfold World.cell?
        dsimp only
        rw [hb]
        rfl
      · cases h0
    · obtain ⟨i, hi1, rfl⟩ := List.getElem_of_mem hx
      exact (hq i hi1).2

end
structure OpI (x : OpH) : Prop where
  kind : I64 x.o.kind
  who : I64 x.o.who
  ring : I64 x.o.ring
  at' : I64 x.o.from'
  nn : I64 x.o.n.who ∧ I64 x.o.n.ring ∧ I64 x.o.n.deed ∧ I64 x.o.n.lo ∧ I64 x.o.n.seq ∧ I64 x.o.n.x.key ∧ I64 x.o.n.x.val ∧ I64 x.o.n.code
theorem open_op {H : Type} {enc : TypeId × Value → H} {W : World} {base : Nat} {sp : Nat → Bool} {held : Bool} {fuel : Nat} {cs : List Value} {y : DataW H × List MemPlace} (hf : DataW.trod enc Try.prog W base sp held fuel 44 cs = some y) :
    ∃ x : OpH, cs = x.enc ∧ OpOk (hw W) x ∧ OpI x := by
  obtain ⟨xs, n, _, _, hlen, hxl, hfld⟩ := DataW.trod_struct Try.underlying44 hf
  have hxl : xs.length = 9 := hxl
  have hlen : cs.length = 16 := hlen.trans (by kernel_rfl)
  have at_ : ∀ i, i < 9 → ∃ z, xs[i]? = some z := fun i hi => ⟨_, List.getElem?_eq_getElem (by omega)⟩
  have c2 : Try.prog.cellsOf 2 = 1 := by kernel_rfl
  have c3 : Try.prog.cellsOf 3 = 1 := by kernel_rfl
  have c4 : Try.prog.cellsOf 4 = 1 := by kernel_rfl
  have c35 : Try.prog.cellsOf 35 = 1 := by kernel_rfl
  have c36 : Try.prog.cellsOf 36 = 1 := by kernel_rfl
  have c39 : Try.prog.cellsOf 39 = 2 := by kernel_rfl
  have c42 : Try.prog.cellsOf 42 = 8 := by kernel_rfl
  have g0 : DataW.trod enc Try.prog W base sp held n 3 ((cs.drop 0).take (Try.prog.cellsOf 3)) = xs[0]? := hfld 0 _ rfl
  rw [c3] at g0
  have g1 : DataW.trod enc Try.prog W base sp held n 3 ((cs.drop 1).take (Try.prog.cellsOf 3)) = xs[1]? := hfld 1 _ rfl
  rw [c3] at g1
  have g2 : DataW.trod enc Try.prog W base sp held n 3 ((cs.drop 2).take (Try.prog.cellsOf 3)) = xs[2]? := hfld 2 _ rfl
  rw [c3] at g2
  have g3 : DataW.trod enc Try.prog W base sp held n 2 ((cs.drop 3).take (Try.prog.cellsOf 2)) = xs[3]? := hfld 3 _ rfl
  rw [c2] at g3
  have g4 : DataW.trod enc Try.prog W base sp held n 4 ((cs.drop 4).take (Try.prog.cellsOf 4)) = xs[4]? := hfld 4 _ rfl
  rw [c4] at g4
  have g5 : DataW.trod enc Try.prog W base sp held n 35 ((cs.drop 5).take (Try.prog.cellsOf 35)) = xs[5]? := hfld 5 _ rfl
  rw [c35] at g5
  have g6 : DataW.trod enc Try.prog W base sp held n 35 ((cs.drop 6).take (Try.prog.cellsOf 35)) = xs[6]? := hfld 6 _ rfl
  rw [c35] at g6
  have g7 : DataW.trod enc Try.prog W base sp held n 36 ((cs.drop 7).take (Try.prog.cellsOf 36)) = xs[7]? := hfld 7 _ rfl
  rw [c36] at g7
  have g8 : DataW.trod enc Try.prog W base sp held n 42 ((cs.drop 8).take (Try.prog.cellsOf 42)) = xs[8]? := hfld 8 _ rfl
  rw [c42] at g8
  obtain ⟨z0, e0⟩ := at_ 0 (by omega)
  rw [e0] at g0
  obtain ⟨z1, e1⟩ := at_ 1 (by omega)
  rw [e1] at g1
  obtain ⟨z2, e2⟩ := at_ 2 (by omega)
  rw [e2] at g2
  obtain ⟨z3, e3⟩ := at_ 3 (by omega)
  rw [e3] at g3
  obtain ⟨z4, e4⟩ := at_ 4 (by omega)
  rw [e4] at g4
  obtain ⟨z5, e5⟩ := at_ 5 (by omega)
  rw [e5] at g5
  obtain ⟨z6, e6⟩ := at_ 6 (by omega)
  rw [e6] at g6
  obtain ⟨z7, e7⟩ := at_ 7 (by omega)
  rw [e7] at g7
  obtain ⟨z8, e8⟩ := at_ 8 (by omega)
  rw [e8] at g8
  obtain ⟨n0, q0, _, w0⟩ := DataW.trod_int Try.underlying3 g0
  obtain ⟨n1, q1, _, w1⟩ := DataW.trod_int Try.underlying3 g1
  obtain ⟨n2, q2, _, w2⟩ := DataW.trod_int Try.underlying3 g2
  obtain ⟨n3, q3, _, w3⟩ := DataW.trod_int Try.underlying2 g3
  obtain ⟨n4, q4, _⟩ := DataW.trod_bool Try.underlying4 g4
  obtain ⟨A5, l5, k5, q5, r5, w5, h5, _⟩ := open_cells (encA := inC) (Q := I64) Try.underlying35 c3 (by omega) (fun n cs y hy => by
    obtain ⟨k, hk, _, hw⟩ := DataW.trod_int Try.underlying3 hy
    exact ⟨k, hk, I64.of_wf hw⟩) (fun _ => rfl) g5
  obtain ⟨A6, l6, k6, q6, r6, w6, h6, _⟩ := open_cells (encA := inC) (Q := I64) Try.underlying35 c3 (by omega) (fun n cs y hy => by
    obtain ⟨k, hk, _, hw⟩ := DataW.trod_int Try.underlying3 hy
    exact ⟨k, hk, I64.of_wf hw⟩) (fun _ => rfl) g6
  obtain ⟨A7, l7, k7, q7, r7, w7, h7, _⟩ := open_cells (encA := evC) (Q := fun x => I64 x.key ∧ I64 x.val) Try.underlying36 c39 (by omega) (fun n cs y hy => by
    obtain ⟨l, hl, hw⟩ := trod_ints 4 (t := 39) (by kernel_rfl) hy
    have hl2 : cs.length = 2 := by
      obtain ⟨_, _, _, _, hlen, _⟩ := DataW.trod_struct Try.underlying39 hy
      exact hlen.trans c39
    rw [hl] at hl2
    match l, hl2, hl, hw with
    | [a, b], _, hl, hw => exact ⟨⟨a, b⟩, hl, hw a (by simp), hw b (by simp)⟩) (fun _ => rfl) g7
  obtain ⟨l8, q8, w8⟩ := trod_ints 4 (t := 42) (by kernel_rfl) g8
  match cs, hlen with
  | [a0, a1, a2, a3, a4, a5, a6, a7, b0, b1, b2, b3, b4, b5, b6, b7], _ =>
    simp at q0 q1 q2 q3 q4 q5 q6 q7
    have q8 : [b0, b1, b2, b3, b4, b5, b6, b7] = ints64 l8 := q8
    match l8, q8, w8 with
    | [d0, d1, d2, d3, d4, d5, d6, d7], q8, w8 =>
      simp at q8
      obtain ⟨rfl, rfl, rfl, rfl, rfl, rfl, rfl, rfl⟩ := q8
      subst q0 q1 q2 q3 q4 q5 q6 q7
      exact ⟨⟨⟨n0, n1, n2, n3, n4, l5, l6, l7, ⟨d0, d1, d2, d3, d4, ⟨d5, d6⟩, d7⟩⟩, A5, k5, A6, k6, A7, k7⟩, rfl, ⟨r5, r6, r7, h5⟩, ⟨I64.of_wf w0, I64.of_wf w1, I64.of_wf w2, I64.of_wf w3, w8 d0 (by simp), w8 d1 (by simp), w8 d2 (by simp), w8 d3 (by simp), w8 d4 (by simp), w8 d5 (by simp), w8 d6 (by simp), w8 d7 (by simp)⟩⟩
theorem open_ops {H : Type} {enc : TypeId × Value → H} {W : World} {base : Nat} {sp : Nat → Bool} {held : Bool} {r : Reach} {b0 : Nat} {v : Value} {d : DataW H} {p : List MemPlace} (hval : Value.okWide Try.prog W r b0 22 v) (h : DataW.Trod enc Try.prog W base sp held 22 v d p) :
    ∃ (A : Option Addr) (l : List OpH) (c : Nat), v = .slice A l.length c ∧ Rd (hw W) A l.length 16 (l.flatMap OpH.enc) ∧ (∀ x ∈ l, OpOk (hw W) x ∧ OpI x) ∧ l.length ≤ c ∧ c ≤ maxLen :=
  open_flat (encA := OpH.enc) (Q := fun x => OpOk (hw W) x ∧ OpI x) Try.underlying22 (show Try.prog.cellsOf 44 = 16 by kernel_rfl) (by omega) (fun _ _ _ hy => open_op hy) OpH.enc_len hval h
end Go.Proofs.Ytngfadijcpnblaa

/- ModelKeeps: what stays as it is, plain. -/
namespace Go.Proofs.Ytngfadijcpnblaa
structure Kp (M : MdR) : Prop where
  ev : ∀ f ∈ M.facts, ∀ k : Nat, (h : k < f.x.length) → eventF M.facts f.n.ring (f.n.lo + k) = some f.x[k]
/-- From one to the next: nothing is taken back. -/
structure Up (M M' : MdR) : Prop where
  rd : ∀ (k : Nat) r, M.readers[k]? = some r → ∃ r', M'.readers[k]? = some r' ∧ cursorF M.facts r.who r.ring r.start ≤ cursorF M'.facts r'.who r'.ring r'.start
  ev : ∀ ring i, (eventF M.facts ring i).isSome = true → (eventF M'.facts ring i).isSome = true
  lg : M.logs.length ≤ M'.logs.length
theorem Up.of {M M' : MdR} (hf : M'.facts = M.facts) (hr : ∃ rs, M'.readers = M.readers ++ rs) (hl : M.logs.length ≤ M'.logs.length) : Up M M' := by
  obtain ⟨rs, hr⟩ := hr
  refine ⟨fun k r h => ⟨r, ?_, by rw [hf]; exact Int.le_refl _⟩, fun ring i h => by rw [hf]; exact h, hl⟩
  rw [hr, List.getElem?_append_left (List.getElem?_eq_some_iff.1 h).1]
  exact h
theorem Kp.of {M M' : MdR} (hf : M'.facts = M.facts) (h : Kp M) : Kp M' := ⟨by rw [hf]; exact h.ev⟩
theorem anyEv_no {fs : List Fact} {ring lo : Int} {n q : Nat} (h : ¬anyEv fs ring lo n = true) (hq : q < n) : eventF fs ring (lo + q) = none := by
  cases he : eventF fs ring (lo + q) with
  | none => rfl
  | some e => exact absurd (anyEv_yes hq (by rw [he]; rfl)) h
theorem judge_pub {M : MdR} {n : Nt} {k : Nat} : (M.judge n).2 = 0 → k < (M.judge n).1.length → n.deed = 1 ∧ n.lo + k ≤ n.seq ∧ eventF M.facts n.ring (n.lo + k) = none := by
  unfold MdR.judge
  split
  · intro _ h; simp at h
  split
  · intro _ h; simp at h
  split
  · intro _ h; simp at h
  split
  · unfold MdR.writes
    split
    · intro _ h; simp at h
    split
    · split <;> (intro _ h; simp at h)
    split
    · intro _ h; simp at h
    split
    · intro _ h; simp at h
    split
    · rename_i hd
      unfold MdR.showsR
      dsimp only
      split
      · intro _ h; simp at h
      split
      · intro _ h; simp at h
      split
      · intro _ h; simp at h
      split
      · intro _ h; simp at h
      split
      · intro _ h; simp at h
      rename_i hany
      intro _ h
      dsimp only at h
      rw [List.length_take] at h
      exact ⟨hd, by omega, anyEv_no hany (by omega)⟩
    split
    · split <;> (intro _ h; simp at h)
    split <;> (intro _ h; simp at h)
  · intro _ h; simp at h
theorem moves_le {M : MdR} {r : RdM} {n : Nt} (h : M.moves r n = 0) : cursorF M.facts r.who r.ring r.start ≤ n.seq := by
  unfold MdR.moves at h
  split at h
  · cases h
  · omega
theorem judge_moved {P : MdP} {M : MdR} (hs : Sim P M) {n : Nt} (h0 : (M.judge n).2 = 0) (hd : n.deed = 3) {k : Nat} {r : RdM} (hk : M.readers[k]? = some r) (hw : n.who = r.who) (hr : n.ring = r.ring) : cursorF M.facts r.who r.ring r.start ≤ n.seq := by
  have key : M.reads n = 0 → cursorF M.facts r.who r.ring r.start ≤ n.seq := by
    unfold MdR.reads
    split
    · intro h; cases h
    rename_i k2 hat
    split
    · intro h; cases h
    rename_i r2 hr2
    obtain ⟨hk2, h3, _⟩ := findI_is hat
    have e2 : M.readers[k2] = r2 := by
      have := List.getElem?_eq_some_iff.1 hr2
      exact this.2
    rw [e2] at h3
    simp only [Bool.and_eq_true, decide_eq_true_eq] at h3
    have ek : k2 = k := hs.r1 k2 k r2 r hr2 hk (by rw [h3.1, hw]) (by rw [h3.2, hr])
    subst ek
    rw [hk] at hr2
    cases hr2
    split
    · intro h; cases h
    unfold MdR.readsAt
    dsimp only
    rw [if_neg (by omega), if_pos hd]
    exact moves_le
  unfold MdR.judge at h0
  split at h0
  · cases h0
  split at h0
  · exact key h0
  split at h0
  · exact key h0
  split at h0
  · unfold MdR.writes at h0
    split at h0
    · cases h0
    rw [if_neg (by omega), if_pos (by omega)] at h0
    cases h0
  · exact key h0
theorem Up.take {P : MdP} {M : MdR} (hs : Sim P M) (n : Nt) : Up M (M.take n).1 := by
  unfold MdR.take
  split
  · rename_i h0
    refine ⟨fun k r hk => ⟨r, hk, ?_⟩, fun ring i h => ?_, Nat.le_refl _⟩
    · show _ ≤ cursorF (M.facts ++ [_]) _ _ _
      rw [cursorF_snoc]
      split
      · rename_i h
        exact judge_moved hs h0 h.2.2 hk h.1 h.2.1
      · exact Int.le_refl _
    · show (eventF (M.facts ++ [_]) ring i).isSome = true
      rw [eventF_snoc]
      cases he : eventF M.facts ring i with
      | none => rw [he] at h; cases h
      | some x => rfl
  · exact Up.of rfl ⟨[], by simp⟩ (Nat.le_refl _)
theorem Kp.take {M : MdR} (h : Kp M) (n : Nt) : Kp (M.take n).1 := by
  unfold MdR.take
  split
  · rename_i h0
    refine ⟨fun f hf k hk => ?_⟩
    replace hf : f ∈ M.facts ++ [⟨n, (M.judge n).1⟩] := hf
    show eventF (M.facts ++ [⟨n, (M.judge n).1⟩]) _ _ = _
    rw [eventF_snoc]
    rcases List.mem_append.1 hf with hf | hf
    · rw [h.ev f hf k hk]
    · simp only [List.mem_singleton] at hf
      subst hf
      obtain ⟨a, b, c⟩ := judge_pub h0 hk
      dsimp only
      rw [c]
      dsimp only
      have hp : Fact.pubs ⟨n, (M.judge n).1⟩ n.ring (n.lo + k) = true := by
        unfold Fact.pubs
        simp only [a, decide_true, Bool.true_and, Bool.and_true, Bool.and_eq_true, decide_eq_true_eq]
        exact ⟨by omega, b⟩
      rw [if_pos hp]
      have e : (n.lo + (k : Int) - n.lo).toNat = k := by omega
      rw [e, List.getD_eq_getElem?_getD, List.getElem?_eq_getElem hk]; rfl
  · exact h
theorem up_op {P : MdP} {M : MdR} (hs : Sim P M) (hk : Kp M) (o : Opn) : Up M (M.op o).1 ∧ Kp (M.op o).1 := by
  have same : Up M M ∧ Kp M := ⟨Up.of rfl ⟨[], by simp⟩ (Nat.le_refl _), hk⟩
  unfold MdR.op
  split
  · unfold MdR.addLog
    split
    · exact same
    split
    · exact same
    · exact ⟨Up.of rfl ⟨[], by simp⟩ (by show _ ≤ (M.logs ++ _).length; simp), ⟨hk.ev⟩⟩
  split
  · unfold MdR.addWriter
    split
    · exact same
    split
    · exact same
    split
    · exact same
    · exact ⟨Up.of rfl ⟨[], by simp⟩ (Nat.le_refl _), ⟨hk.ev⟩⟩
  split
  · unfold MdR.addReader
    split
    · exact same
    split
    · exact same
    split
    · exact same
    split
    · exact same
    · exact ⟨Up.of rfl ⟨_, rfl⟩ (Nat.le_refl _), ⟨hk.ev⟩⟩
  split
  · unfold MdR.addPool
    split
    · exact same
    split
    · exact same
    split
    · exact same
    split
    · exact same
    split
    · exact same
    · exact ⟨Up.of rfl ⟨_, rfl⟩ (Nat.le_refl _), ⟨hk.ev⟩⟩
  split
  · unfold MdR.send
    split
    · exact same
    split
    · exact same
    · exact ⟨Up.of rfl ⟨[], by simp⟩ (Nat.le_refl _), ⟨hk.ev⟩⟩
  split
  · exact ⟨Up.take hs _, hk.take _⟩
  · exact same
end Go.Proofs.Ytngfadijcpnblaa

/- ModelKeeps, walked. -/
namespace Go.Proofs.Ytngfadijcpnblaa
open Go.RowKit
set_option maxRecDepth 20000
set_option maxHeartbeats 8000000
section
variable {g : Cx} {β : Nat → Nat} {env : Env} {mem : Mem} {bnd : Bnd} {L : Res} {a : Act} {w : World} {N : Act → World → Prop} {Q : Exit → Act → World → Prop}
/-- An element's place in a slice of the call's own. -/
theorem Nx.idxT (nm : Nat) {α : Type} {enc : α → List Value} {l : List α} {o : Oper} {t e e2 : TypeId} {x i : Operand} {A : Option Addr} {n c : Nat} {kk : IntKind} {iv : Int} {L' : Res} {sz j by_ : Nat}
    (ho : o.op = .indexAddr t x i) (hx : ev env x = some (.c (.v (.slice A n c)))) (hi : ev env i = some (.c (.v (.int kk iv)))) (ht : g.P.underlying t = some (.slice e)) (he : elemI g.P e = some (sz, by_)) (hd : dstOk g.n o.dst = true)
    (hp : takeR nm L = some (ownT e2 A n c sz (l.flatMap enc), L')) (henc : ∀ x, (enc x).length = sz) (hn : n = l.length) (hj : iv = j) (hlt : j < l.length)
    (hk : ∀ b p, A = some ⟨b, p, none⟩ → SeesAt (ownT e2 A n c sz (l.flatMap enc)) b (p + j * sz) (enc l[j]) → Nx g (putE o.dst (.c (.v (.pointer (some ⟨b, p + j * sz, none⟩)))) env) mem bnd L N) : Nx g env mem bnd L (OneC g o N Q) := by
  subst hj
  subst hn
  intro β a w hr
  obtain ⟨ei, zz, hei, hz, hzs, hpos, hez, hby⟩ := elemI_ok he
  obtain ⟨r, h, x1, x2, x3, r1, h1', h2', y1, y2, y3, y4, y5, y6⟩ := hr.picked (takeR_pick hp)
  have hd1 : r1.dj h1' := PH.dj_mono x3 y1 y2
  obtain ⟨b, p, hA, cs, tt, fr, hb, hc⟩ := (ownT_sees e2 A l.length c sz (l.flatMap enc)).at hd1 y5 hlt
  subst hA
  have hsee : SeesAt (ownT e2 (some ⟨b, p, none⟩) l.length c sz (l.flatMap enc)) b (p + j * sz) (enc l[j]) := by
    intro r2 h2 d2 s2
    obtain ⟨b', p', hA', cs', tt', fr', hb', hc'⟩ := (ownT_sees e2 (some ⟨b, p, none⟩) l.length c sz (l.flatMap enc)).at d2 s2 hlt
    cases hA'
    exact ⟨cs', tt', fr', hb', fun j' hj' => by rw [hc' j' (by rw [henc] at hj'; exact hj'), flat_at henc l j hlt j' (by rw [henc] at hj'; exact hj')]⟩
  have hrun : (execOp a.eval o).run g.P w = .ok (.value (.pointer (some ⟨b, p + j * sz, none⟩))) w := by
    have e1 : a.eval x = .slice (some ⟨b, p, none⟩) l.length c := hr.ev hx
    have e2 : a.eval i = .int kk j := hr.ev hi
    have e3 : (j : Int) < l.length := by omega
    simp [execOp, ho, e1, e2, Instr.indexAt, asIntOf, run_underlying ht, sizeOf, typeInfo, hei, hez, add_plain']
    intro hbad
    omega
  exact wp_value hrun (hk b p rfl hsee β _ _ (hr.put o.dst (.c (.v (.pointer (some ⟨b, p + j * sz, none⟩)))) hd))
end
theorem inC_set : ∀ (l : List Int) (i : Nat) (v : Int), (l.flatMap inC).set (i * 1) (.int .i64 v) = (l.set i v).flatMap inC
  | [], i, v => by simp
  | a :: l, 0, v => by simp [inC]
  | a :: l, i + 1, v => by
    have h := inC_set l i v
    simp only [Nat.mul_one] at h ⊢
    simp [inC, List.set_cons_succ] at h ⊢
    exact h
/-- A list on the way from old values to new ones. -/
structure LsI (good : Nat → Int → Prop) (old : List Int) (i : Nat) (ls : List Int) : Prop where
  len : ls.length = max old.length i
  new : ∀ k, (h : k < ls.length) → k < i → good k ls[k]
  old : ∀ k, (h : k < ls.length) → i ≤ k → ∃ h' : k < old.length, ls[k] = old[k]
section
variable {good : Nat → Int → Prop} {old ls : List Int} {i : Nat}
theorem LsI.zero : LsI good old 0 old := ⟨by omega, fun k h hk => by omega, fun k h _ => ⟨h, rfl⟩⟩
theorem LsI.set (h : LsI good old i ls) (hi : i < ls.length) {v : Int} (hg : good i v) : LsI good old (i + 1) (ls.set i v) := by
  have hl := h.len
  refine ⟨by rw [List.length_set]; omega, fun k hk h1 => ?_, fun k hk h1 => ?_⟩
  · rw [List.length_set] at hk
    by_cases e : i = k
    · subst e; simpa using hg
    · rw [List.getElem_set_ne e]
      exact h.new k hk (by omega)
  · rw [List.length_set] at hk
    rw [List.getElem_set_ne (by omega)]
    exact h.old k hk (by omega)
theorem LsI.app (h : LsI good old i ls) (hi : ls.length ≤ i) {v : Int} (hg : good i v) : LsI good old (i + 1) (ls ++ [v]) := by
  have hl := h.len
  refine ⟨by rw [List.length_append, List.length_singleton]; omega, fun k hk h1 => ?_, fun k hk h1 => ?_⟩
  · rw [List.length_append, List.length_singleton] at hk
    by_cases e : k < ls.length
    · rw [List.getElem_append_left e]
      exact h.new k e (by omega)
    · have : k = i := by omega
      subst this
      rw [List.getElem_append_right (by omega)]
      simpa using hg
  · rw [List.length_append, List.length_singleton] at hk
    omega
theorem LsI.full (h : LsI good old i ls) (ho : old.length ≤ i) : ls.length = i ∧ ∀ k, (hk : k < ls.length) → good k ls[k] := by
  have hl := h.len
  exact ⟨by omega, fun k hk => h.new k hk (by omega)⟩
end
/-- The k-th cursor; the k-th length. -/
def GdC (M : MdR) (k : Nat) (v : Int) : Prop := ∃ r, M.readers[k]? = some r ∧ v = cursorF M.facts r.who r.ring r.start
def GdL (M : MdR) (k : Nat) (v : Int) : Prop := ∃ n : Nat, v = n ∧ (∀ j : Nat, j < n → (eventF M.facts k j).isSome = true) ∧ eventF M.facts k n = none
theorem GdC.le {M M' : MdR} (hu : Up M M') {k : Nat} {v v' : Int} (h : GdC M k v) (h' : GdC M' k v') : v ≤ v' := by
  obtain ⟨r, hr, rfl⟩ := h
  obtain ⟨r', hr', rfl⟩ := h'
  obtain ⟨r2, h2, hle⟩ := hu.rd k r hr
  rw [hr'] at h2
  cases h2
  exact hle
theorem GdL.le {M M' : MdR} (hu : Up M M') {k : Nat} {v v' : Int} (h : GdL M k v) (h' : GdL M' k v') : v ≤ v' := by
  obtain ⟨n, rfl, a, _⟩ := h
  obtain ⟨n', rfl, _, b⟩ := h'
  by_cases e : n ≤ n'
  · omega
  · have := hu.ev k n' (a n' (by omega))
    rw [b] at this
    cases this
theorem event_in {M : MdR} (hv : MdV M) {ring i : Int} {e : Ev} (h : eventF M.facts ring i = some e) : 0 ≤ i ∧ i ≤ 4611686018427387904 ∧ ∃ f ∈ M.facts, f.n.ring = ring := by
  unfold eventF at h
  split at h
  · cases h
  · rename_i k hk
    obtain ⟨hl, hp, _⟩ := findI_is hk
    have hfm := List.getElem_mem hl
    unfold Fact.pubs at hp
    simp only [Bool.and_eq_true, decide_eq_true_eq] at hp
    have := hv.pub _ hfm hp.1.1.2
    exact ⟨by omega, by omega, _, hfm, hp.1.1.1⟩
theorem Sim.fring' {P : MdP} {M : MdR} (h : Sim P M) {f : Fact} (hf : f ∈ M.facts) : 0 ≤ f.n.ring ∧ f.n.ring < M.logs.length := by
  rcases h.known f hf with ⟨w, hw, _, e⟩ | ⟨r, hr, _, e⟩
  · rw [← e]; exact h.wring w hw
  · rw [← e]; exact h.rring r hr
structure KpX where
  M : MdH
  W : RefH
  cs : List Int
  cA : Option Addr
  cc : Nat
  ls : List Int
  lA : Option Addr
  lc : Nat
  i : Nat
structure LsX where
  cs : List Int
  cA : Option Addr
  cc : Nat
  i : Nat
attribute [local irreducible] Nx Ar BrM headC OneC HoC AftC planHead endF
theorem keeps_ok (m : PH) (l : List OpH) (A : Option Addr) (c : Nat) (hl : l.length ≤ 9223372036854775807) (hs : Rd m A l.length 16 (l.flatMap OpH.enc)) (hok : ∀ x ∈ l, OpOk m x) :
    FnOk Try.prog 4 [.slice A l.length c] [roAll m] (fun v _ => v = .bool true) := by
  have hS := roAll_sees hs
  have hsm := small7_ok m l A c hl hs hok
  by_cases sm : (∀ x ∈ l, OpS x) ∧ l.length ≤ 120
  case neg =>
    rw [decide_eq_false sm] at hsm
    refine FnOk.start Try.func4 rfl rfl rfl rfl fun F os tape output => ?_
    refine go 200 ?_
    conv => whnf
    repeat' (first | ((first | refine BrM.t rfl ?_ | refine BrM.f rfl ?_ | refine BrM.dec (fun _ => ?_) (fun _ => ?_) | refine BrM.mk (fun _ => ?_) (fun _ => ?_) | refine Ar.i64 (by omega) (by omega) ?_ | refine gO rfl ?_ | refine gP rfl (by repeat constructor) ?_) <;> conv => whnf) | (refine atCall 7 ?_; refine cE [0] [0] rfl rfl rfl rfl rfl (hsm) rfl ?_) | (refine (atCall 8) ?_; refine Nx.call [] [] rfl rfl rfl rfl rfl (awake_ok) rfl fun v Q hQ => ?_; obtain rfl := hQ) | (refine atRet ?_; refine Nx.ret [] Try.func4 rfl rfl ?_; (exact rfl)) | refine Nx.late ?_)
  rw [decide_eq_true sm] at hsm
  have hl120 := sm.2
  refine FnOk.start Try.func4 rfl rfl rfl rfl fun F os tape output => ?_
  refine Nx.give 5 (ownT 2 none 0 0 1 []) (ownT_nil _ _ _ _ _) ?_
  refine Nx.give 6 (ownT 2 none 0 0 1 []) (ownT_nil _ _ _ _ _) ?_
  refine go 200 ?_
  conv => whnf
  repeat' (first | ((first | refine BrM.not (by omega) ?_ | refine BrM.t rfl ?_ | refine BrM.f rfl ?_ | refine BrM.dec (fun _ => ?_) (fun _ => ?_) | refine BrM.mk (fun _ => ?_) (fun _ => ?_) | refine Ar.i64 (by omega) (by omega) ?_ | refine gO rfl ?_ | refine gP rfl (by repeat constructor) ?_) <;> conv => whnf) | (refine atCall 7 ?_; refine cE [0] [9] rfl rfl rfl rfl rfl (hsm) rfl ?_) | (fail) | refine Nx.late ?_)
  refine Nx.call [] [1] rfl rfl rfl rfl rfl New_ok rfl fun v Q hQ => ?_
  obtain ⟨M0, rfl, eM, rfl⟩ := hQ
  repeat' (first | ((first | refine BrM.t rfl ?_ | refine BrM.f rfl ?_ | refine BrM.dec (fun _ => ?_) (fun _ => ?_) | refine BrM.mk (fun _ => ?_) (fun _ => ?_) | refine Ar.i64 (by omega) (by omega) ?_ | refine gO rfl ?_ | refine gP rfl (by repeat constructor) ?_) <;> conv => whnf) | (fail) | refine Nx.late ?_)
  refine Nx.bind (l := 27) (fun b => ?_) rfl
  refine Nx.realP 4 (l := 27) rfl rfl ?_
  refine Nx.out 27 rfl rfl rfl rfl ?_
  refine Nx.turn [27] [2] [(RefH.new b).sp] rfl (fun r h hs => ?_) ?_
  · obtain ⟨r1, h1, h2, a1, a2, a3, a4, a5, a6⟩ := hs
    exact ⟨r1, h1, h2, a1, a2, a3, a4, RefH.new_sp b _ _ a5, a6⟩
  obtain ⟨W0, hW0⟩ : ∃ W0, W0 = RefH.new b := ⟨_, rfl⟩
  have eW : W0.p = ⟨[], [], [], 0, []⟩ := by rw [hW0]; rfl
  have eWr : W0.readers.length = 0 := by rw [hW0]; rfl
  have eWl : W0.logs.length = 0 := by rw [hW0]; rfl
  have eWb : b = W0.b := by rw [hW0]; rfl
  rw [← hW0, eWb]
  refine Nx.loop (X := KpX) (fun x => x.i ≤ l.length ∧ x.M.b = M0.b ∧ x.W.b = W0.b ∧ Bnd8 x.M.p x.i ∧ BndR x.W.p x.i ∧ Sim x.M.p x.W.p ∧ Kp x.W.p ∧ (x.cs.length = x.W.readers.length ∧ ∀ k, (h : k < x.cs.length) → GdC x.W.p k x.cs[k]) ∧ (x.ls.length = x.W.logs.length ∧ ∀ k, (h : k < x.ls.length) → GdL x.W.p k x.ls[k])) (fun x => l.length - x.i)
    (fun x => [(3, .c (.v (ptr M0.b))), (4, .c (.v (ptr W0.b))), (5, sl x.cA x.cs.length x.cc), (6, sl x.lA x.ls.length x.lc), (28, sl A l.length c), (29, iv l.length), (30, iv x.i)]) (fun _ => []) [] (fun x => [(1, x.M.sp), (2, x.W.sp), (9, roAll m), (5, ownT 2 x.cA x.cs.length x.cc 1 (x.cs.flatMap inC)), (6, ownT 2 x.lA x.ls.length x.lc 1 (x.ls.flatMap inC))]) ⟨M0, W0, [], none, 0, [], none, 0, 0⟩ ⟨Nat.zero_le _, rfl, rfl, by dsimp only; rw [eM]; exact Bnd8.nil, by dsimp only; rw [eW]; exact BndR.nil, by dsimp only; rw [eM, eW]; exact Sim.nil, by dsimp only; rw [eW]; exact ⟨fun f hf => by cases hf⟩, ⟨by dsimp only; rw [eWr]; rfl, fun k h => absurd h (Nat.not_lt_zero _)⟩, ⟨by dsimp only; rw [eWl]; rfl, fun k h => absurd h (Nat.not_lt_zero _)⟩⟩ ?_ ?_ ?_ ?_ ?_
  all_goals repeat (first | exact .nil _ | refine .cons rfl ?_ | refine .cons rfl rfl ?_ | refine .cons rfl rfl rfl ?_ | refine .cons' rfl (fun _ => rfl) ?_)
  intro ⟨M, W, cs0, cA0, cc0, ls0, lA0, lc0, i⟩ ⟨hi, hMb, hWb, hB, hBR, hG, hKp, ⟨hcl, hcg⟩, ⟨hll, hlg⟩⟩ ih
  dsimp only at hi hMb hWb hB hBR hG hKp hcl hcg hll hlg ih ⊢
  by_cases hlt : i < l.length
  case neg =>
    repeat' (first | ((first | refine BrM.not (by omega) ?_ | refine BrM.t rfl ?_ | refine BrM.f rfl ?_ | refine BrM.dec (fun _ => ?_) (fun _ => ?_) | refine BrM.mk (fun _ => ?_) (fun _ => ?_) | refine Ar.i64 (by omega) (by omega) ?_ | refine gO rfl ?_ | refine gP rfl (by repeat constructor) ?_) <;> conv => whnf) | (refine (atCall 8) ?_; refine Nx.call [] [] rfl rfl rfl rfl rfl (awake_ok) rfl fun v Q hQ => ?_; obtain rfl := hQ) | (refine atRet ?_; refine Nx.ret [] Try.func4 rfl rfl ?_; (exact rfl)) | refine Nx.late ?_)
  have hxm := List.getElem_mem hlt
  have smx := sm.1 _ hxm
  have hdo := do_ok m M W hG (hG.mdw hB (by omega)) (hG.mdv hBR (by omega)) l[i] (hok _ hxm) smx
  rw [hMb, hWb] at hdo
  unfold OpH.v at hdo
  have hah : (l[i]).o.ahead.length ≤ 1000 := by have := smx.2.1; omega
  have hB2 := op_bnd hB hG (l[i]).o hah
  have hR2 := hBR.op hG (l[i]).o hah
  have hG2 := (hG.op (l[i]).o).2
  obtain ⟨hU, hK2⟩ := up_op hG hKp (l[i]).o
  repeat' (first | ((first | refine BrM.yes (by omega) ?_ | refine BrM.t rfl ?_ | refine BrM.f rfl ?_ | refine BrM.dec (fun _ => ?_) (fun _ => ?_) | refine BrM.mk (fun _ => ?_) (fun _ => ?_) | refine Ar.i64 (by omega) (by omega) ?_ | refine gO rfl ?_ | refine gP rfl (by repeat constructor) ?_) <;> conv => whnf) | (refine atIdx ?_; refine Nx.idx 9 (j := i) rfl rfl rfl Try.underlying22 rfl rfl rfl OpH.enc_len hS rfl (by omega) (by omega) fun _ _ _ => ?_) | (refine atLoad ?_; first | (refine Nx.load1 9 rfl rfl rfl rfl (SeesAt.sub (by assumption) _ rfl) rfl ?_) | (refine Nx.load1 9 rfl rfl rfl rfl (by assumption) rfl ?_) | (refine Nx.load 9 rfl rfl rfl rfl (by assumption) rfl rfl ?_)) | refine Nx.late ?_)
  refine Nx.also 9 8 (roAll m) rfl (fun _ _ h => h) ?_
  refine Nx.call [1, 2, 8] [1, 2] rfl rfl rfl rfl rfl hdo rfl fun v Q hQ => ?_
  obtain ⟨M', W', e1, e2, e3, e4, rfl, rfl⟩ := hQ
  rw [← e3] at hB2 hG2
  rw [← e4] at hR2 hG2 hU hK2
  have eMb := e1.trans hMb
  have eWb' := e2.trans hWb
  have hm := hG2.mdw hB2 (by omega)
  have hv := hG2.mdv hR2 (by omega)
  obtain ⟨hl8, hl5, hl2⟩ := hv.lens
  have olr : W.readers.length ≤ W'.readers.length := by
    by_cases e : W.readers.length = 0
    · omega
    · have hk : W.readers.length - 1 < W.readers.length := by omega
      obtain ⟨r', h', _⟩ := hU.rd _ _ (RefH.gr hk)
      have := (List.getElem?_eq_some_iff.1 h').1
      rw [W'.lr] at this
      omega
  have oll : W.logs.length ≤ W'.logs.length := hU.lg
  have w0 : SeesAt W'.sp W0.b (addN 0 0) [.slice W'.lA W'.logs.length W'.lc] := by rw [← eWb']; exact W'.seeB.sub 0 rfl
  have w2 : SeesAt W'.sp W0.b (addN 0 2) [.slice W'.rA W'.readers.length W'.rc] := by rw [← eWb']; exact W'.seeB.sub 2 rfl
  have w4 : SeesAt W'.sp W0.b (addN 0 4) [.slice W'.fA W'.facts.length W'.fc] := by rw [← eWb']; exact W'.seeB.sub 4 rfl
  have hR := W'.seeR
  have hF := W'.seeF
  repeat' (first | ((first | refine BrM.not (by omega) ?_ | refine BrM.t rfl ?_ | refine BrM.f rfl ?_ | refine BrM.dec (fun _ => ?_) (fun _ => ?_) | refine BrM.mk (fun _ => ?_) (fun _ => ?_) | refine Ar.i64 (by omega) (by omega) ?_ | refine gO rfl ?_ | refine gP rfl (by repeat constructor) ?_) <;> conv => whnf) | (refine atLoad ?_; refine Nx.load1 2 rfl rfl rfl rfl (w2) rfl ?_) | refine Nx.late ?_)
  refine Nx.loop (X := LsX) (fun x => x.i ≤ W'.readers.length ∧ LsI (GdC W'.p) cs0 x.i x.cs) (fun x => W'.readers.length - x.i)
    (fun x => [(3, .c (.v (ptr M0.b))), (4, .c (.v (ptr W0.b))), (28, sl A l.length c), (29, iv l.length), (30, iv i), (5, sl x.cA x.cs.length x.cc), (6, sl lA0 ls0.length lc0), (42, sl W'.rA W'.readers.length W'.rc), (43, iv W'.readers.length), (44, iv x.i)]) (fun _ => []) [] (fun x => [(1, M'.sp), (2, W'.sp), (9, roAll m), (5, ownT 2 x.cA x.cs.length x.cc 1 (x.cs.flatMap inC)), (6, ownT 2 lA0 ls0.length lc0 1 (ls0.flatMap inC))]) ⟨cs0, cA0, cc0, 0⟩ ⟨Nat.zero_le _, LsI.zero⟩ ?_ ?_ ?_ ?_ ?_
  all_goals repeat (first | exact .nil _ | refine .cons rfl ?_ | refine .cons rfl rfl ?_ | refine .cons rfl rfl rfl ?_ | refine .cons' rfl (fun _ => rfl) ?_)
  intro ⟨cs, cA, cc, j⟩ ⟨hj, hI⟩ ih2
  dsimp only at hj hI ih2 ⊢
  have hIl := hI.len
  by_cases hjl : j < W'.readers.length
  · have hC := Cursor_ok M' hm W'.readers[j].r.who W'.readers[j].r.ring
    have hgr := RefH.gr (M := W') hjl
    rw [hG2.cursorE hgr, eMb] at hC
    obtain ⟨cu, hcu⟩ : ∃ cu, cu = cursorF W'.p.facts W'.readers[j].r.who W'.readers[j].r.ring W'.readers[j].r.start := ⟨_, rfl⟩
    rw [← hcu] at hC
    have hgood : GdC W'.p j cu := ⟨_, hgr, hcu⟩
    by_cases hjc : j < cs.length
    · obtain ⟨h', e5⟩ := hI.old j hjc (Nat.le_refl _)
      have hle : cs[j] ≤ cu := by rw [e5]; exact GdC.le hU (hcg j h') hgood
      repeat' (first | ((first | refine BrM.yes (by omega) ?_ | refine BrM.not (by omega) ?_ | refine BrM.t rfl ?_ | refine BrM.f rfl ?_ | refine BrM.dec (fun _ => ?_) (fun _ => ?_) | refine BrM.mk (fun _ => ?_) (fun _ => ?_) | refine Ar.i64 (by omega) (by omega) ?_ | refine gO rfl ?_ | refine gP rfl (by repeat constructor) ?_) <;> conv => whnf) | (refine atIdx ?_; refine Nx.idxT 5 (j := j) rfl rfl rfl Try.underlying23 rfl rfl rfl inC_len rfl rfl hjc fun bt pt hBt hse => ?_) | (refine atIdx ?_; refine Nx.idx 2 (j := j) rfl rfl rfl Try.underlying31 rfl rfl rfl RRdH.enc_len hR rfl (by omega) (by omega) fun _ _ _ => ?_) | (refine atLoad ?_; first | (refine Nx.load1 2 rfl rfl rfl rfl (SeesAt.sub (by assumption) _ rfl) rfl ?_) | (refine Nx.load1 2 rfl rfl rfl rfl (by assumption) rfl ?_) | (refine Nx.load 2 rfl rfl rfl rfl (by assumption) rfl rfl ?_)) | (refine atLoad ?_; first | (refine Nx.load1 5 rfl rfl rfl rfl (SeesAt.sub (by assumption) _ rfl) rfl ?_) | (refine Nx.load1 5 rfl rfl rfl rfl (by assumption) rfl ?_) | (refine Nx.load 5 rfl rfl rfl rfl (by assumption) rfl rfl ?_)) | (refine atCall 16 ?_; refine cE [1] [1] rfl rfl rfl rfl rfl (hC) rfl ?_) | (refine atStore ?_; refine Nx.storeW 5 (ownT 2 cA cs.length cc 1 ((cs.flatMap inC).set (j * 1) (.int .i64 cu))) rfl rfl rfl rfl rfl rfl rfl rfl rfl (by rw [hBt]; exact ownT_set (j := j * 1) (by omega)) ?_; rw [inC_set]) | refine Nx.late ?_)
      refine (ih2 ⟨cs.set j cu, cA, cc, j + 1⟩ ⟨by dsimp only; omega, hI.set hjc hgood⟩ (by dsimp only; omega)).weak ?_ ?_ ?_ ?_
      all_goals (try dsimp only)
      all_goals (try rw [List.length_set])
      all_goals repeat (first | exact .nil _ | refine .cons rfl ?_ | refine .cons rfl rfl ?_ | refine .cons rfl rfl rfl ?_ | refine .cons' rfl (fun _ => rfl) ?_)
    · repeat' (first | ((first | refine BrM.yes (by omega) ?_ | refine BrM.not (by omega) ?_ | refine BrM.t rfl ?_ | refine BrM.f rfl ?_ | refine BrM.dec (fun _ => ?_) (fun _ => ?_) | refine BrM.mk (fun _ => ?_) (fun _ => ?_) | refine Ar.i64 (by omega) (by omega) ?_ | refine gO rfl ?_ | refine gP rfl (by repeat constructor) ?_) <;> conv => whnf) | (refine atIdx ?_; refine Nx.idx 2 (j := j) rfl rfl rfl Try.underlying31 rfl rfl rfl RRdH.enc_len hR rfl (by omega) (by omega) fun _ _ _ => ?_) | (refine atLoad ?_; first | (refine Nx.load1 2 rfl rfl rfl rfl (SeesAt.sub (by assumption) _ rfl) rfl ?_) | (refine Nx.load1 2 rfl rfl rfl rfl (by assumption) rfl ?_) | (refine Nx.load 2 rfl rfl rfl rfl (by assumption) rfl rfl ?_)) | (refine atCall 16 ?_; refine cE [1] [1] rfl rfl rfl rfl rfl (hC) rfl ?_) | (refine atApp ?_; refine Nx.appendT 5 (sz := 1) (by_ := 8) (news := [.int .i64 cu]) rfl rfl rfl rfl rfl Try.underlying23 rfl rfl rfl rfl rfl (by decide) (by unfold maxLen; omega) (by omega) fun A' c'' => ?_; rw [show cs.flatMap inC ++ [.int .i64 cu] = (cs ++ [cu]).flatMap inC by simp [inC], show cs.length + 1 = (cs ++ [cu]).length by simp]) | refine Nx.late ?_)
      refine (ih2 ⟨cs ++ [cu], A', c'', j + 1⟩ ⟨by dsimp only; omega, hI.app (by omega) hgood⟩ (by dsimp only; omega)).weak ?_ ?_ ?_ ?_
      all_goals repeat (first | exact .nil _ | refine .cons rfl ?_ | refine .cons rfl rfl ?_ | refine .cons rfl rfl rfl ?_ | refine .cons' rfl (fun _ => rfl) ?_)
  clear ih2
  have ej : j = W'.readers.length := by omega
  subst ej
  obtain ⟨hcl2, hcg2⟩ := hI.full (by omega)
  repeat' (first | ((first | refine BrM.not (by omega) ?_ | refine BrM.t rfl ?_ | refine BrM.f rfl ?_ | refine BrM.dec (fun _ => ?_) (fun _ => ?_) | refine BrM.mk (fun _ => ?_) (fun _ => ?_) | refine Ar.i64 (by omega) (by omega) ?_ | refine gO rfl ?_ | refine gP rfl (by repeat constructor) ?_) <;> conv => whnf) | (refine atLoad ?_; refine Nx.load1 2 rfl rfl rfl rfl (w0) rfl ?_) | refine Nx.late ?_)
  refine Nx.loop (X := LsX) (fun x => x.i ≤ W'.logs.length ∧ LsI (GdL W'.p) ls0 x.i x.cs) (fun x => W'.logs.length - x.i)
    (fun x => [(3, .c (.v (ptr M0.b))), (4, .c (.v (ptr W0.b))), (28, sl A l.length c), (29, iv l.length), (30, iv i), (5, sl cA cs.length cc), (6, sl x.cA x.cs.length x.cc), (91, iv W'.logs.length), (92, iv x.i)]) (fun _ => []) [] (fun x => [(1, M'.sp), (2, W'.sp), (9, roAll m), (5, ownT 2 cA cs.length cc 1 (cs.flatMap inC)), (6, ownT 2 x.cA x.cs.length x.cc 1 (x.cs.flatMap inC))]) ⟨ls0, lA0, lc0, 0⟩ ⟨Nat.zero_le _, LsI.zero⟩ ?_ ?_ ?_ ?_ ?_
  all_goals repeat (first | exact .nil _ | refine .cons rfl ?_ | refine .cons rfl rfl ?_ | refine .cons rfl rfl rfl ?_ | refine .cons' rfl (fun _ => rfl) ?_)
  intro ⟨ls, lA, lc, k⟩ ⟨hk, hL⟩ ih2
  dsimp only at hk hL ih2 ⊢
  have hLl := hL.len
  have eln : M'.p.logs.length = W'.logs.length := hG2.len_l
  by_cases hkl : k < W'.logs.length
  · have hN := Length_ok M' hm k
    rw [eMb] at hN
    repeat' (first | ((first | refine BrM.yes (by omega) ?_ | refine BrM.t rfl ?_ | refine BrM.f rfl ?_ | refine BrM.dec (fun _ => ?_) (fun _ => ?_) | refine BrM.mk (fun _ => ?_) (fun _ => ?_) | refine Ar.i64 (by omega) (by omega) ?_ | refine gO rfl ?_ | refine gP rfl (by repeat constructor) ?_) <;> conv => whnf) | refine Nx.late ?_)
    refine Nx.call [1] [1] rfl rfl rfl rfl rfl hN rfl fun v Q hQ => ?_
    obtain ⟨n, rfl, q1, rfl⟩ := hQ
    have hgood : GdL W'.p k n := by
      have hev : ∀ i : Int, M'.p.event k i = eventF W'.p.facts k i := fun i => hG2.eventE k i (by omega) (by omega)
      exact ⟨n, rfl, fun j hj => by rw [← hev]; exact q1.1 j hj, by rw [← hev]; exact q1.2⟩
    by_cases hkc : k < ls.length
    · obtain ⟨h', e5⟩ := hL.old k hkc (Nat.le_refl _)
      have hle : ls[k] ≤ n := by rw [e5]; exact GdL.le hU (hlg k h') hgood
      repeat' (first | ((first | refine BrM.yes (by omega) ?_ | refine BrM.not (by omega) ?_ | refine BrM.t rfl ?_ | refine BrM.f rfl ?_ | refine BrM.dec (fun _ => ?_) (fun _ => ?_) | refine BrM.mk (fun _ => ?_) (fun _ => ?_) | refine Ar.i64 (by omega) (by omega) ?_ | refine gO rfl ?_ | refine gP rfl (by repeat constructor) ?_) <;> conv => whnf) | (refine atIdx ?_; refine Nx.idxT 6 (j := k) rfl rfl rfl Try.underlying23 rfl rfl rfl inC_len rfl rfl hkc fun bt pt hBt hse => ?_) | (refine atLoad ?_; first | (refine Nx.load1 6 rfl rfl rfl rfl (SeesAt.sub (by assumption) _ rfl) rfl ?_) | (refine Nx.load1 6 rfl rfl rfl rfl (by assumption) rfl ?_) | (refine Nx.load 6 rfl rfl rfl rfl (by assumption) rfl rfl ?_)) | (refine atStore ?_; refine Nx.storeW 6 (ownT 2 lA ls.length lc 1 ((ls.flatMap inC).set (k * 1) (.int .i64 n))) rfl rfl rfl rfl rfl rfl rfl rfl rfl (by rw [hBt]; exact ownT_set (j := k * 1) (by omega)) ?_; rw [inC_set]) | refine Nx.late ?_)
      refine (ih2 ⟨ls.set k n, lA, lc, k + 1⟩ ⟨by dsimp only; omega, hL.set hkc hgood⟩ (by dsimp only; omega)).weak ?_ ?_ ?_ ?_
      all_goals (try dsimp only)
      all_goals (try rw [List.length_set])
      all_goals repeat (first | exact .nil _ | refine .cons rfl ?_ | refine .cons rfl rfl ?_ | refine .cons rfl rfl rfl ?_ | refine .cons' rfl (fun _ => rfl) ?_)
    · repeat' (first | ((first | refine BrM.yes (by omega) ?_ | refine BrM.not (by omega) ?_ | refine BrM.t rfl ?_ | refine BrM.f rfl ?_ | refine BrM.dec (fun _ => ?_) (fun _ => ?_) | refine BrM.mk (fun _ => ?_) (fun _ => ?_) | refine Ar.i64 (by omega) (by omega) ?_ | refine gO rfl ?_ | refine gP rfl (by repeat constructor) ?_) <;> conv => whnf) | (refine atApp ?_; refine Nx.appendT 6 (sz := 1) (by_ := 8) (news := [.int .i64 n]) rfl rfl rfl rfl rfl Try.underlying23 rfl rfl rfl rfl rfl (by decide) (by unfold maxLen; omega) (by omega) fun A' c'' => ?_; rw [show ls.flatMap inC ++ [.int .i64 (n : Int)] = (ls ++ [(n : Int)]).flatMap inC by simp [inC], show ls.length + 1 = (ls ++ [(n : Int)]).length by simp]) | refine Nx.late ?_)
      refine (ih2 ⟨ls ++ [(n : Int)], A', c'', k + 1⟩ ⟨by dsimp only; omega, hL.app (by omega) hgood⟩ (by dsimp only; omega)).weak ?_ ?_ ?_ ?_
      all_goals repeat (first | exact .nil _ | refine .cons rfl ?_ | refine .cons rfl rfl ?_ | refine .cons rfl rfl rfl ?_ | refine .cons' rfl (fun _ => rfl) ?_)
  clear ih2
  have ek : k = W'.logs.length := by omega
  subst ek
  obtain ⟨hll2, hlg2⟩ := hL.full (by omega)
  repeat' (first | ((first | refine BrM.not (by omega) ?_ | refine BrM.t rfl ?_ | refine BrM.f rfl ?_ | refine BrM.dec (fun _ => ?_) (fun _ => ?_) | refine BrM.mk (fun _ => ?_) (fun _ => ?_) | refine Ar.i64 (by omega) (by omega) ?_ | refine gO rfl ?_ | refine gP rfl (by repeat constructor) ?_) <;> conv => whnf) | (refine atLoad ?_; refine Nx.load1 2 rfl rfl rfl rfl (w4) rfl ?_) | refine Nx.late ?_)
  refine Nx.loop (X := Nat) (fun q => q ≤ W'.facts.length) (fun q => W'.facts.length - q)
    (fun q => [(3, .c (.v (ptr M0.b))), (4, .c (.v (ptr W0.b))), (28, sl A l.length c), (29, iv l.length), (30, iv i), (5, sl cA cs.length cc), (6, sl lA ls.length lc), (126, sl W'.fA W'.facts.length W'.fc), (127, iv W'.facts.length), (128, iv q)]) (fun _ => []) [] (fun _ => [(1, M'.sp), (2, W'.sp), (9, roAll m), (5, ownT 2 cA cs.length cc 1 (cs.flatMap inC)), (6, ownT 2 lA ls.length lc 1 (ls.flatMap inC))]) 0 (Nat.zero_le _) ?_ ?_ ?_ ?_ ?_
  all_goals repeat (first | exact .nil _ | refine .cons rfl ?_ | refine .cons rfl rfl ?_ | refine .cons rfl rfl rfl ?_ | refine .cons' rfl (fun _ => rfl) ?_)
  intro q hq ih2
  by_cases hql : q < W'.facts.length
  · obtain ⟨f, hf⟩ : ∃ f, f = W'.facts[q] := ⟨_, rfl⟩
    have hfm : f ∈ W'.facts := by rw [hf]; exact List.getElem_mem hql
    have hfp := List.mem_map_of_mem (f := RFaH.f) hfm
    have hE := RefH.fev (M := W') hfm
    have hfx := hv.fx _ hfp
    repeat' (first | ((first | refine BrM.yes (by omega) ?_ | refine BrM.t rfl ?_ | refine BrM.f rfl ?_ | refine BrM.dec (fun _ => ?_) (fun _ => ?_) | refine BrM.mk (fun _ => ?_) (fun _ => ?_) | refine Ar.i64 (by omega) (by omega) ?_ | refine gO rfl ?_ | refine gP rfl (by repeat constructor) ?_) <;> conv => whnf) | (refine atIdx ?_; refine Nx.idx 2 (j := q) rfl rfl rfl Try.underlying32 rfl rfl rfl RFaH.enc_len hF rfl (by omega) (by omega) fun b p hqq => ?_; rw [← hf] at hqq) | (refine atLoad ?_; first | (refine Nx.load1 2 rfl rfl rfl rfl (SeesAt.sub (by assumption) _ rfl) rfl ?_) | (refine Nx.load1 2 rfl rfl rfl rfl (by assumption) rfl ?_) | (refine Nx.load 2 rfl rfl rfl rfl (by assumption) rfl rfl ?_)) | refine Nx.late ?_)
    refine Nx.loop (X := Nat) (fun d => d ≤ f.f.x.length) (fun d => f.f.x.length - d)
      (fun d => [(3, .c (.v (ptr M0.b))), (4, .c (.v (ptr W0.b))), (28, sl A l.length c), (29, iv l.length), (30, iv i), (5, sl cA cs.length cc), (6, sl lA ls.length lc), (126, sl W'.fA W'.facts.length W'.fc), (127, iv W'.facts.length), (128, iv q), (16, .c (.loc 16 0)), (133, sl f.xA f.f.x.length f.xc), (134, iv f.f.x.length), (135, iv d)]) (fun _ => [(16, 59, [.v (.int .i64 f.f.n.who), .v (.int .i64 f.f.n.ring), .v (.int .i64 f.f.n.deed), .v (.int .i64 f.f.n.lo), .v (.int .i64 f.f.n.seq), .v (.int .i64 f.f.n.x.key), .v (.int .i64 f.f.n.x.val), .v (.int .i64 f.f.n.code), .v (.slice f.xA f.f.x.length f.xc)])]) [] (fun _ => [(1, M'.sp), (2, W'.sp), (9, roAll m), (5, ownT 2 cA cs.length cc 1 (cs.flatMap inC)), (6, ownT 2 lA ls.length lc 1 (ls.flatMap inC))]) 0 (Nat.zero_le _) ?_ ?_ ?_ ?_ ?_
    all_goals repeat (first | exact .nil _ | refine .cons rfl ?_ | refine .cons rfl rfl ?_ | refine .cons rfl rfl rfl ?_ | refine .cons' rfl (fun _ => rfl) ?_)
    intro d hd ih3
    by_cases hdl : d < f.f.x.length
    · have hev := hK2.ev _ hfp d hdl
      obtain ⟨x0, x1, _⟩ := event_in hv hev
      obtain ⟨g0, g1⟩ := hG2.fring' hfp
      have hEv := Event_ok M' hm f.f.n.ring (f.f.n.lo + d)
      rw [hG2.eventE _ _ g0 (by rw [hG2.len_l]; exact g1), hev, eMb] at hEv
      have key : ∀ e : Ev, (if BinOp.neq = BinOp.eql then decide (e = e) else !decide (e = e)) = false := fun e => by simp
      repeat' (first | (refine atBr ?_; refine BrM.f ((key f.f.x[d])) ?_; conv => whnf) | ((first | refine BrM.yes (by omega) ?_ | refine BrM.not (by omega) ?_ | refine BrM.t rfl ?_ | refine BrM.f rfl ?_ | refine BrM.dec (fun _ => ?_) (fun _ => ?_) | refine BrM.mk (fun _ => ?_) (fun _ => ?_) | refine Ar.i64 (by omega) (by omega) ?_ | refine gO rfl ?_ | refine gP rfl (by repeat constructor) ?_) <;> conv => whnf) | (refine atOne ?_; refine Nx.eqS rfl (.inr rfl) rfl rfl rfl rfl (by kernel_rfl) (eq39 f.f.x[d] f.f.x[d]) rfl ?_) | (refine atIdx ?_; refine Nx.idx 2 (j := d) rfl rfl rfl Try.underlying36 rfl rfl rfl evC_len hE rfl (by omega) (by omega) fun _ _ _ => ?_) | (refine atLoad ?_; first | (refine Nx.load1 2 rfl rfl rfl rfl (SeesAt.sub (by assumption) _ rfl) rfl ?_) | (refine Nx.load1 2 rfl rfl rfl rfl (by assumption) rfl ?_) | (refine Nx.load 2 rfl rfl rfl rfl (by assumption) rfl rfl ?_)) | (refine atCall 12 ?_; refine cE [1] [1] rfl rfl rfl rfl rfl (hEv) rfl ?_) | refine Nx.late ?_)
      refine (ih3 (d + 1) (by omega) (by omega)).weak ?_ ?_ ?_ ?_
      all_goals repeat (first | exact .nil _ | refine .cons rfl ?_ | refine .cons rfl rfl ?_ | refine .cons rfl rfl rfl ?_ | refine .cons' rfl (fun _ => rfl) ?_)
    · repeat' (first | ((first | refine BrM.not (by omega) ?_ | refine BrM.t rfl ?_ | refine BrM.f rfl ?_ | refine BrM.dec (fun _ => ?_) (fun _ => ?_) | refine BrM.mk (fun _ => ?_) (fun _ => ?_) | refine Ar.i64 (by omega) (by omega) ?_ | refine gO rfl ?_ | refine gP rfl (by repeat constructor) ?_) <;> conv => whnf) | refine Nx.late ?_)
      refine (ih2 (q + 1) (by omega) (by omega)).weak ?_ ?_ ?_ ?_
      all_goals repeat (first | exact .nil _ | refine .cons rfl ?_ | refine .cons rfl rfl ?_ | refine .cons rfl rfl rfl ?_ | refine .cons' rfl (fun _ => rfl) ?_)
  · repeat' (first | ((first | refine BrM.not (by omega) ?_ | refine BrM.t rfl ?_ | refine BrM.f rfl ?_ | refine BrM.dec (fun _ => ?_) (fun _ => ?_) | refine BrM.mk (fun _ => ?_) (fun _ => ?_) | refine Ar.i64 (by omega) (by omega) ?_ | refine gO rfl ?_ | refine gP rfl (by repeat constructor) ?_) <;> conv => whnf) | refine Nx.late ?_)
    refine (ih ⟨M', W', cs, cA, cc, ls, lA, lc, i + 1⟩ ⟨by dsimp only; omega, eMb, eWb', hB2, hR2, hG2, hK2, ⟨hcl2, hcg2⟩, ⟨hll2, hlg2⟩⟩ (by dsimp only; omega)).weak ?_ ?_ ?_ ?_
    all_goals repeat (first | exact .nil _ | refine .cons rfl ?_ | refine .cons rfl rfl ?_ | refine .cons rfl rfl rfl ?_ | refine .cons' rfl (fun _ => rfl) ?_)
end Go.Proofs.Ytngfadijcpnblaa

/- ModelKeeps: true for every input, and the arguments read as they did. -/
namespace Go.Proofs.Ytngfadijcpnblaa
open Go.ChangeShapes Go.WideShapes Go.ChangeAt Go.RowKit
set_option maxRecDepth 20000 in
theorem modelKeeps_lifted (os : Os) (started : os.Started) (H : Type) (enc : TypeId × Value → H) :
    ReturnsInHanded {} Try.checked os 4 .any (Rows.modelKeepsSpec.pre6 enc Try.prog Try.f4 Rows.modelKeepsRow.domain false) (Rows.modelKeepsSpec.post enc Try.prog Try.f4 false true false false) := by
  refine law_lifted (C := Try.checked) (tb := 4) laid0 rfl rfl Try.underlying4 ?_ (by kernel_rfl) own0 started (by kernel_rfl) Try.func4
    (ChangeSpec.witness6 (enc := enc) (C := Try.checked) false ⟨#[], #[.slice none 0 0], []⟩ 8 (by kernel_rfl) (by kernel_rfl) (by kernel_rfl) (by kernel_rfl)) ?_
  · intro ds hl
    match ds, hl with
    | [d1], _ => exact ⟨rfl, rfl, rfl⟩
  intro W base args ds ps hval hA
  rw [Try.params4] at hval hA
  rw [chk0] at hval hA
  obtain ⟨v0, r0, d0, e0, p0, q0, rfl, rfl, rfl, h0, hA⟩ := trodAll_cons hA
  obtain ⟨rfl, rfl, rfl⟩ := trodAll_nil hA
  obtain ⟨A, l, c, rfl, hs, hok, hlc, hc⟩ := open_ops (hval 0 22 v0 rfl rfl) h0
  have hl : l.length ≤ 9223372036854775807 := by unfold maxLen at hc; omega
  exact (keeps_ok (hw W) l A c hl hs fun x hx => (hok x hx).1).law fun v Q h => h
theorem modelKeeps_holds : Rows.ModelKeepsSaid :=
  OpenClaim.holds_of_wide 4 Try.f4 rfl rfl rfl rfl rfl rfl rfl ⟨rfl, rfl, rfl, rfl, rfl⟩ rfl rfl rfl rfl rfl (by kernel_rfl) Try.func4 (by kernel_rfl)
    (of_decide_eq_true (by kernel_rfl)) (by unfold Func.isWrapper; first | (rw [if_pos (by decide +kernel)]; kernel_rfl) | (rw [if_neg (by decide +kernel)]; exact ⟨rfl, rfl⟩))
    (fun os started H enc _ => modelKeeps_lifted os started H enc)
end Go.Proofs.Ytngfadijcpnblaa
