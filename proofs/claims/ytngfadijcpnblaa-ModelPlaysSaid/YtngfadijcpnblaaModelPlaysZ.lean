/- ModelPlays: true for every input, and the arguments read as they did. -/
import Derived.Test.YtngfadijcpnblaaMg
import Derived.Test.YtngfadijcpnblaaRows
set_option linter.unusedSimpArgs false
set_option linter.unusedVariables false
/- Rows of norialaw23: operations among the arguments. -/
namespace Go.Proofs.Ytngfadijcpnblaa
open Go.ChangeShapes Go.WideShapes Go.ChangeAt Go.RowKit Go.Deep
set_option maxRecDepth 100000
theorem laid0 : laidOutB Try.prog = true := by kernel_rfl
theorem own0 : ownKnob Try.prog.godebug = none := by kernel_rfl
theorem chk0 : Try.checked.prog = Try.prog := rfl
section
variable {H : Type} {enc : TypeId × Value → H} {P : Program} {w : World} {base : Nat} {spare : Nat → Bool} {held : Bool}
theorem open_cells {α : Type} {encA : α → List Value} {Q : α → Prop} {t e : TypeId} {C : Nat} {fuel : Nat} {cs0 : List Value} {x0 : DataW H × List MemPlace} (ht : P.underlying t = some (.slice e)) (hC : P.cellsOf e = C) (hC0 : 0 < C)
    (hopen : ∀ (n : Nat) (cs : List Value) (y : DataW H × List MemPlace), DataW.trod enc P w base spare held n e cs = some y → ∃ x, cs = encA x ∧ Q x) (he : ∀ x, (encA x).length = C)
    (h : DataW.trod enc P w base spare held fuel t cs0 = some x0) :
    ∃ (A : Option Addr) (l : List α) (c : Nat), cs0 = [.slice A l.length c] ∧ Rd (hw w) A l.length C (l.flatMap encA) ∧ (∀ x ∈ l, Q x) ∧ l.length ≤ c ∧ c ≤ maxLen := by
  rcases open_slice ht h with ⟨hcs, _⟩ | ⟨a, len, cap, m, n, D, Pl, hcs, _, hlc, hcm, hm, _, hi⟩
  · exact ⟨none, [], 0, hcs, ⟨by simp, fun h => by simp at h⟩, by simp, Nat.le_refl _, Nat.zero_le _⟩
  · have hml : len ≤ m := by rw [hm]; split <;> omega
    obtain ⟨l, hl, hq⟩ := list_of (F := fun i x => w.cells? base (a.add (i * C)) C = some (encA x) ∧ Q x) len (fun i hi' => by
      obtain ⟨cs', h1, h2⟩ := hi i (by omega)
      obtain ⟨x, rfl, hx⟩ := hopen _ _ _ h2
      rw [hC] at h1
      exact ⟨x, h1, hx⟩)
    subst hl
    refine ⟨some a, l, cap, hcs, ⟨flat_len he l, fun hpos => ?_⟩, fun x hx => ?_, hlc, hcm⟩
    · have hcell : ∀ j, j < l.length * C → w.cell? (a.add j) = (l.flatMap encA)[j]? := by
        intro j hj
        have hjC : j % C < C := Nat.mod_lt _ hC0
        have hjd : j / C < l.length := Nat.div_lt_of_lt_mul (by rw [Nat.mul_comm]; exact hj)
        have e1 : j = j / C * C + j % C := by rw [Nat.mul_comm]; exact (Nat.div_add_mod j C).symm
        obtain ⟨_, _, hat⟩ := World.cells?_some (hq _ hjd).1
        have h2 := hat _ hjC
        rw [Go.Deep.add_add, ← e1] at h2
        rw [h2, ← flat_at he l _ hjd _ hjC, ← e1]
      have h0 := hcell 0 (by exact Nat.mul_pos hpos hC0)
      have hlen := flat_len he l
      have hp0 : 0 < (l.flatMap encA).length := by rw [hlen]; exact Nat.mul_pos hpos hC0
      rw [List.getElem?_eq_getElem hp0] at h0
      obtain ⟨b, off, spot⟩ := a
      have hspot : spot = none := by simpa [Addr.add] using World.cell?_spot h0
      subst hspot
      unfold World.cell? at h0
      split at h0
      · rename_i c tt fr hb
        simp only [Addr.add, if_true] at hb
        refine ⟨b, off, c, tt, fr, rfl, hb, fun j hj => ?_⟩
        have := hcell j hj
        rw [← this, add_plain]
        unfold World.cell?
        dsimp only
        rw [hb]
        rfl
      · cases h0
    · obtain ⟨i, hi1, rfl⟩ := List.getElem_of_mem hx
      exact (hq i hi1).2

end
structure OpI (x : OpH) : Prop where
  kind : I64 x.o.kind
  who : I64 x.o.who
  ring : I64 x.o.ring
  at' : I64 x.o.from'
  nn : I64 x.o.n.who ∧ I64 x.o.n.ring ∧ I64 x.o.n.deed ∧ I64 x.o.n.lo ∧ I64 x.o.n.seq ∧ I64 x.o.n.x.key ∧ I64 x.o.n.x.val ∧ I64 x.o.n.code
theorem open_op {H : Type} {enc : TypeId × Value → H} {W : World} {base : Nat} {sp : Nat → Bool} {held : Bool} {fuel : Nat} {cs : List Value} {y : DataW H × List MemPlace} (hf : DataW.trod enc Try.prog W base sp held fuel 44 cs = some y) :
    ∃ x : OpH, cs = x.enc ∧ OpOk (hw W) x ∧ OpI x := by
  obtain ⟨xs, n, _, _, hlen, hxl, hfld⟩ := DataW.trod_struct Try.underlying44 hf
  have hxl : xs.length = 9 := hxl
  have hlen : cs.length = 16 := hlen.trans (by kernel_rfl)
  have at_ : ∀ i, i < 9 → ∃ z, xs[i]? = some z := fun i hi => ⟨_, List.getElem?_eq_getElem (by omega)⟩
  have c2 : Try.prog.cellsOf 2 = 1 := by kernel_rfl
  have c3 : Try.prog.cellsOf 3 = 1 := by kernel_rfl
  have c4 : Try.prog.cellsOf 4 = 1 := by kernel_rfl
  have c35 : Try.prog.cellsOf 35 = 1 := by kernel_rfl
  have c36 : Try.prog.cellsOf 36 = 1 := by kernel_rfl
  have c39 : Try.prog.cellsOf 39 = 2 := by kernel_rfl
  have c42 : Try.prog.cellsOf 42 = 8 := by kernel_rfl
  have g0 : DataW.trod enc Try.prog W base sp held n 3 ((cs.drop 0).take (Try.prog.cellsOf 3)) = xs[0]? := hfld 0 _ rfl
  rw [c3] at g0
  have g1 : DataW.trod enc Try.prog W base sp held n 3 ((cs.drop 1).take (Try.prog.cellsOf 3)) = xs[1]? := hfld 1 _ rfl
  rw [c3] at g1
  have g2 : DataW.trod enc Try.prog W base sp held n 3 ((cs.drop 2).take (Try.prog.cellsOf 3)) = xs[2]? := hfld 2 _ rfl
  rw [c3] at g2
  have g3 : DataW.trod enc Try.prog W base sp held n 2 ((cs.drop 3).take (Try.prog.cellsOf 2)) = xs[3]? := hfld 3 _ rfl
  rw [c2] at g3
  have g4 : DataW.trod enc Try.prog W base sp held n 4 ((cs.drop 4).take (Try.prog.cellsOf 4)) = xs[4]? := hfld 4 _ rfl
  rw [c4] at g4
  have g5 : DataW.trod enc Try.prog W base sp held n 35 ((cs.drop 5).take (Try.prog.cellsOf 35)) = xs[5]? := hfld 5 _ rfl
  rw [c35] at g5
  have g6 : DataW.trod enc Try.prog W base sp held n 35 ((cs.drop 6).take (Try.prog.cellsOf 35)) = xs[6]? := hfld 6 _ rfl
  rw [c35] at g6
  have g7 : DataW.trod enc Try.prog W base sp held n 36 ((cs.drop 7).take (Try.prog.cellsOf 36)) = xs[7]? := hfld 7 _ rfl
  rw [c36] at g7
  have g8 : DataW.trod enc Try.prog W base sp held n 42 ((cs.drop 8).take (Try.prog.cellsOf 42)) = xs[8]? := hfld 8 _ rfl
  rw [c42] at g8
  obtain ⟨z0, e0⟩ := at_ 0 (by omega)
  rw [e0] at g0
  obtain ⟨z1, e1⟩ := at_ 1 (by omega)
  rw [e1] at g1
  obtain ⟨z2, e2⟩ := at_ 2 (by omega)
  rw [e2] at g2
  obtain ⟨z3, e3⟩ := at_ 3 (by omega)
  rw [e3] at g3
  obtain ⟨z4, e4⟩ := at_ 4 (by omega)
  rw [e4] at g4
  obtain ⟨z5, e5⟩ := at_ 5 (by omega)
  rw [e5] at g5
  obtain ⟨z6, e6⟩ := at_ 6 (by omega)
  rw [e6] at g6
  obtain ⟨z7, e7⟩ := at_ 7 (by omega)
  rw [e7] at g7
  obtain ⟨z8, e8⟩ := at_ 8 (by omega)
  rw [e8] at g8
  obtain ⟨n0, q0, _, w0⟩ := DataW.trod_int Try.underlying3 g0
  obtain ⟨n1, q1, _, w1⟩ := DataW.trod_int Try.underlying3 g1
  obtain ⟨n2, q2, _, w2⟩ := DataW.trod_int Try.underlying3 g2
  obtain ⟨n3, q3, _, w3⟩ := DataW.trod_int Try.underlying2 g3
  obtain ⟨n4, q4, _⟩ := DataW.trod_bool Try.underlying4 g4
  obtain ⟨A5, l5, k5, q5, r5, w5, h5, _⟩ := open_cells (encA := inC) (Q := I64) Try.underlying35 c3 (by omega) (fun n cs y hy => by
    obtain ⟨k, hk, _, hw⟩ := DataW.trod_int Try.underlying3 hy
    exact ⟨k, hk, I64.of_wf hw⟩) (fun _ => rfl) g5
  obtain ⟨A6, l6, k6, q6, r6, w6, h6, _⟩ := open_cells (encA := inC) (Q := I64) Try.underlying35 c3 (by omega) (fun n cs y hy => by
    obtain ⟨k, hk, _, hw⟩ := DataW.trod_int Try.underlying3 hy
    exact ⟨k, hk, I64.of_wf hw⟩) (fun _ => rfl) g6
  obtain ⟨A7, l7, k7, q7, r7, w7, h7, _⟩ := open_cells (encA := evC) (Q := fun x => I64 x.key ∧ I64 x.val) Try.underlying36 c39 (by omega) (fun n cs y hy => by
    obtain ⟨l, hl, hw⟩ := trod_ints 4 (t := 39) (by kernel_rfl) hy
    have hl2 : cs.length = 2 := by
      obtain ⟨_, _, _, _, hlen, _⟩ := DataW.trod_struct Try.underlying39 hy
      exact hlen.trans c39
    rw [hl] at hl2
    match l, hl2, hl, hw with
    | [a, b], _, hl, hw => exact ⟨⟨a, b⟩, hl, hw a (by simp), hw b (by simp)⟩) (fun _ => rfl) g7
  obtain ⟨l8, q8, w8⟩ := trod_ints 4 (t := 42) (by kernel_rfl) g8
  match cs, hlen with
  | [a0, a1, a2, a3, a4, a5, a6, a7, b0, b1, b2, b3, b4, b5, b6, b7], _ =>
    simp at q0 q1 q2 q3 q4 q5 q6 q7
    have q8 : [b0, b1, b2, b3, b4, b5, b6, b7] = ints64 l8 := q8
    match l8, q8, w8 with
    | [d0, d1, d2, d3, d4, d5, d6, d7], q8, w8 =>
      simp at q8
      obtain ⟨rfl, rfl, rfl, rfl, rfl, rfl, rfl, rfl⟩ := q8
      subst q0 q1 q2 q3 q4 q5 q6 q7
      exact ⟨⟨⟨n0, n1, n2, n3, n4, l5, l6, l7, ⟨d0, d1, d2, d3, d4, ⟨d5, d6⟩, d7⟩⟩, A5, k5, A6, k6, A7, k7⟩, rfl, ⟨r5, r6, r7, h5⟩, ⟨I64.of_wf w0, I64.of_wf w1, I64.of_wf w2, I64.of_wf w3, w8 d0 (by simp), w8 d1 (by simp), w8 d2 (by simp), w8 d3 (by simp), w8 d4 (by simp), w8 d5 (by simp), w8 d6 (by simp), w8 d7 (by simp)⟩⟩
theorem open_ops {H : Type} {enc : TypeId × Value → H} {W : World} {base : Nat} {sp : Nat → Bool} {held : Bool} {r : Reach} {b0 : Nat} {v : Value} {d : DataW H} {p : List MemPlace} (hval : Value.okWide Try.prog W r b0 22 v) (h : DataW.Trod enc Try.prog W base sp held 22 v d p) :
    ∃ (A : Option Addr) (l : List OpH) (c : Nat), v = .slice A l.length c ∧ Rd (hw W) A l.length 16 (l.flatMap OpH.enc) ∧ (∀ x ∈ l, OpOk (hw W) x ∧ OpI x) ∧ l.length ≤ c ∧ c ≤ maxLen :=
  open_flat (encA := OpH.enc) (Q := fun x => OpOk (hw W) x ∧ OpI x) Try.underlying22 (show Try.prog.cellsOf 44 = 16 by kernel_rfl) (by omega) (fun _ _ _ hy => open_op hy) OpH.enc_len hval h
end Go.Proofs.Ytngfadijcpnblaa

/- ModelPlays: true for every input, and the arguments read as they did. -/
namespace Go.Proofs.Ytngfadijcpnblaa
open Go.ChangeShapes Go.WideShapes Go.ChangeAt Go.RowKit
set_option maxRecDepth 100000 in
theorem open_i64s {H : Type} {enc : TypeId × Value → H} {W : World} {base : Nat} {sp : Nat → Bool} {held : Bool} {r : Reach} {b0 : Nat} {v : Value} {d : DataW H} {p : List MemPlace} (hval : Value.okWide Try.prog W r b0 23 v) (h : DataW.Trod enc Try.prog W base sp held 23 v d p) :
    ∃ (A : Option Addr) (l : List Int) (c : Nat), v = .slice A l.length c ∧ Rd (hw W) A l.length 1 (l.flatMap inC) ∧ (∀ x ∈ l, I64 x) ∧ l.length ≤ c ∧ c ≤ maxLen :=
  open_flat (encA := inC) (Q := I64) Try.underlying23 (show Try.prog.cellsOf 2 = 1 by kernel_rfl) (by omega) (fun n cs y hy => by
    obtain ⟨k, hk, _, hw⟩ := DataW.trod_int Try.underlying2 hy
    exact ⟨k, hk, I64.of_wf hw⟩) (fun _ => rfl) hval h
set_option maxRecDepth 20000 in
theorem modelPlays_lifted (os : Os) (started : os.Started) (H : Type) (enc : TypeId × Value → H) :
    ReturnsInHanded {} Try.checked os 3 .any (Rows.modelPlaysSpec.pre6 enc Try.prog Try.f3 Rows.modelPlaysRow.domain false) (Rows.modelPlaysSpec.post enc Try.prog Try.f3 false true false false) := by
  refine law_lifted (C := Try.checked) (tb := 4) laid0 rfl rfl Try.underlying4 ?_ (by kernel_rfl) own0 started (by kernel_rfl) Try.func3
    (ChangeSpec.witness6 (enc := enc) (C := Try.checked) false ⟨#[], #[.slice none 0 0, .slice none 0 0], []⟩ 8 (by kernel_rfl) (by kernel_rfl) (by kernel_rfl) (by kernel_rfl)) ?_
  · intro ds hl
    match ds, hl with
    | [d1, d2], _ => exact ⟨rfl, rfl, rfl⟩
  intro W base args ds ps hval hA
  rw [Try.params3] at hval hA
  rw [chk0] at hval hA
  obtain ⟨v0, r0, d0, e0, p0, q0, rfl, rfl, rfl, h0, hA⟩ := trodAll_cons hA
  obtain ⟨v1, r1, d1, e1, p1, q1, rfl, rfl, rfl, h1, hA⟩ := trodAll_cons hA
  obtain ⟨rfl, rfl, rfl⟩ := trodAll_nil hA
  obtain ⟨A, l, c, rfl, hs, hok, hlc, hc⟩ := open_ops (hval 0 22 v0 rfl rfl) h0
  obtain ⟨A1, l1, c1, rfl, hs1, hok1, hlc1, hc1⟩ := open_i64s (hval 1 23 v1 rfl rfl) h1
  have hl : l.length ≤ 9223372036854775807 := by unfold maxLen at hc; omega
  have hl1 : l1.length ≤ 9223372036854775807 := by unfold maxLen at hc1; omega
  exact (plays_ok (hw W) l A c hl hs (fun x hx => (hok x hx).1) l1 A1 c1 hl1 hs1 fun a ha => (hok1 a ha).2).law fun v Q h => h
theorem modelPlays_holds : Rows.ModelPlaysSaid :=
  OpenClaim.holds_of_wide 3 Try.f3 rfl rfl rfl rfl rfl rfl rfl ⟨rfl, rfl, rfl, rfl, rfl⟩ rfl rfl rfl rfl rfl (by kernel_rfl) Try.func3 (by kernel_rfl)
    (of_decide_eq_true (by kernel_rfl)) (by unfold Func.isWrapper; first | (rw [if_pos (by decide +kernel)]; kernel_rfl) | (rw [if_neg (by decide +kernel)]; exact ⟨rfl, rfl⟩))
    (fun os started H enc _ => modelPlays_lifted os started H enc)
end Go.Proofs.Ytngfadijcpnblaa
