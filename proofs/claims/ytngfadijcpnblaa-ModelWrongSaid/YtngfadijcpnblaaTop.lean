/- From a contract of a law to its row: arguments opened, 'true' given back, nothing old turned. -/
import Derived.Test.YtngfadijcpnblaaSx
import Derived.ProofKit
import Derived.SizedLaws
import Derived.Carry
import Derived.OpenShut
import Derived.Deep.Slices
namespace Go.Proofs.Ytngfadijcpnblaa
open Go.ChangeShapes Go.WideShapes Go.ChangeAt Go.RowKit Go.Deep

theorem below_of_le {W w' : World} (h : PH.le (hw W) (hw w')) (ho : w'.os = W.os) (ht : w'.tape = W.tape) (hu : w'.output = W.output) : Below W.heap.size W w' := by
  refine ⟨ho, ht, hu, ?_, ?_⟩
  · rcases Nat.eq_zero_or_pos W.heap.size with h0 | h0
    · omega
    · have hl : W.heap.size - 1 < W.heap.size := by omega
      have := h _ _ (show hw W (W.heap.size - 1) = some W.heap[W.heap.size - 1] from Array.getElem?_eq_getElem hl)
      have := (Array.getElem?_eq_some_iff.1 this).1
      omega
  · intro k hk
    have := h k _ (show hw W k = some W.heap[k] from Array.getElem?_eq_getElem hk)
    exact this.trans (Array.getElem?_eq_getElem hk).symm

theorem FnOk.law {P : Program} {f : FuncId} {args : List Value} {W : World} {Q0 : Value → List SP → Prop} (h : FnOk P f args [roAll (hw W)] Q0) (hq : ∀ v Q, Q0 v Q → v = .bool true) :
    Calls P f args.toArray W fun e W' => e = .returned (.bool true) ∧ Below W.heap.size W W' :=
  (h.2 [roAll (hw W)] W ((SatW.start W).dup (pers_roAll _))).mono fun e w' ⟨v, Q, h1, h2, h3, h4, h5, h6⟩ => by
    have := hq v Q h2
    subst this
    obtain ⟨r, hh, a, b, c, d⟩ := h6
    exact ⟨h1, below_of_le (SatW.stays ⟨r, hh, a, b, c, Sat.app_right d⟩) h3 h4 h5⟩

theorem FnOk.law2 {P : Program} {f : FuncId} {args : List Value} {W : World} {Q0 : Value → List SP → Prop} (h : FnOk P f args [roAll (hw W), roAll (hw W)] Q0) (hq : ∀ v Q, Q0 v Q → v = .bool true) :
    Calls P f args.toArray W fun e W' => e = .returned (.bool true) ∧ Below W.heap.size W W' :=
  (h.2 [roAll (hw W)] W (((SatW.start W).dup (pers_roAll _)).dup (pers_roAll _))).mono fun e w' ⟨v, Q, h1, h2, h3, h4, h5, h6⟩ => by
    have := hq v Q h2
    subst this
    obtain ⟨r, hh, a, b, c, d⟩ := h6
    exact ⟨h1, below_of_le (SatW.stays ⟨r, hh, a, b, c, Sat.app_right d⟩) h3 h4 h5⟩

theorem TrodAll_stays {H : Type} {enc : TypeId × Value → H} {P : Program} (hl : laidOutB P = true) {W W' : World} (hb : Below W.heap.size W W') :
    ∀ {ts : List TypeId} {vs : List Value} {ds : List (DataW H)} {ps : List MemPlace}, (ts.all fun t => P.readableRec t && decide (t < P.types.size)) = true →
      DataW.TrodAll enc P W 0 (fun _ => true) true ts vs ds ps → (∀ x ∈ ps, x.block < W.heap.size) → DataW.TrodAll enc P W' 0 (fun b => decide (b < W.heap.size)) true ts vs ds ps
  | [], vs, ds, ps, _, h, _ => by
    obtain ⟨rfl, rfl, rfl⟩ := trodAll_nil h
    exact trodAll_mk0
  | t :: ts, vs, ds, ps, hr, h, hlt => by
    obtain ⟨v, vs', d, ds', p, q, rfl, rfl, rfl, h1, h2⟩ := trodAll_cons h
    simp only [List.all_cons, Bool.and_eq_true, decide_eq_true_eq] at hr
    exact trodAll_cons_mk (Below.trod hl hr.1.1 hr.1.2 h1 hb fun x hx => hlt x (List.mem_append_left _ hx)) (TrodAll_stays hl hb (by simpa using hr.2) h2 fun x hx => hlt x (List.mem_append_right _ hx))

theorem trodAll_len {H : Type} {enc : TypeId × Value → H} {P : Program} {w : World} {base : Nat} {spare : Nat → Bool} {held : Bool} :
    ∀ {ts : List TypeId} {vs : List Value} {ds : List (DataW H)} {ps : List MemPlace}, DataW.TrodAll enc P w base spare held ts vs ds ps → ds.length = ts.length
  | [], vs, ds, ps, h => by
    obtain ⟨rfl, rfl, rfl⟩ := trodAll_nil h
    rfl
  | t :: ts, vs, ds, ps, h => by
    obtain ⟨v, vs', d, ds', p, q, rfl, rfl, rfl, h1, h2⟩ := trodAll_cons h
    simp [trodAll_len h2]

/-- A law: true, and the arguments read as they did. -/
theorem law_lifted {C : Checked} {f : FuncId} {fn : Func} {s : ChangeSpec} {tb : TypeId} {conds : List PathCond} {os : Os} {H : Type} {enc : TypeId × Value → H} (hl : laidOutB C.prog = true)
    (hvars : s.vars = []) (hrt : fn.resultTypes = #[tb]) (htb : C.prog.underlying tb = some .bool)
    (hfn : ∀ ds : List (DataW H), ds.length = fn.params.toList.length → (s.fn H ds).results = [.lit (.bool true)] ∧ (s.fn H ds).args = ds ∧ (s.fn H ds).vars = [])
    (hrd : (fn.params.toList.all fun t => C.prog.readableRec t && decide (t < C.prog.types.size)) = true)
    (own : ownKnob C.prog.godebug = none) (started : os.Started) (noInit : C.prog.inits.idxOf? f = none) (hfu : C.prog.funcs[f]? = some fn)
    (witness : ∃ (w : World) (tape : Tape) (i : Input), w.os = os ∧ (w.forCall tape i).Shaped C.prog ∧ i.vars = [] ∧ Input.okWide C.prog (w.forCall tape i) .any w.heap.size f i ∧
      s.pre6 enc C.prog fn conds false (w.forCall tape i).memory i.args ∧ ({} : Assume).holds C.prog (lone (Frame.enter C.prog f i.args .normal) [] (w.forCall tape i)))
    (contract : ∀ (W : World) (base : Nat) (args : List Value) (ds : List (DataW H)) (ps : List MemPlace),
      (∀ (j : Nat) t v, fn.params[j]? = some t → args[j]? = some v → Value.okWide C.prog W .any base t v) →
      DataW.TrodAll enc C.prog W 0 (fun _ => true) true fn.params.toList args ds ps →
      Calls C.prog f args.toArray W fun e W' => e = .returned (.bool true) ∧ Below W.heap.size W W') :
    ReturnsInHanded {} C os f .any (s.pre6 enc C.prog fn conds false) (s.post enc C.prog fn false true false false) := by
  refine returnsInHanded_of_change_sized (C := C) own started noInit hfu witness ?_
  intro W base args ds gs before hval hW _ _ _
  have hW' := hW
  obtain ⟨p, q, hA, hV, rfl, _, _⟩ := hW
  rw [hvars] at hV
  obtain ⟨rfl, rfl⟩ := trodVars_none hV
  have hlen := trodAll_len hA
  have hc := contract W base args.toList ds p (fun j t v h1 h2 => hval j t v h1 (by simpa using h2)) hA
  refine hc.mono fun e W' ⟨he, hb⟩ => ⟨_, he, ?_⟩
  obtain ⟨h1, h2, h3⟩ := hfn ds hlen
  have hlt : ∀ x ∈ p, x.block < W.heap.size := fun x hx => hW'.lt x (List.mem_append_left _ hx)
  refine ⟨ds, [], p ++ [], [], p, [], hW', ?_, ?_, ?_, hb.frame _, fun h => by cases h⟩
  · rw [List.append_nil, h1, hrt]
    exact trodAll_mk1 (shut_bool htb true)
  · rw [List.append_nil, h2]
    exact TrodAll_stays hl hb hrd hA hlt
  · rw [List.append_nil, h3, hvars]
    rfl

/-- .. with the bytes that the arguments take: a law: true, and the arguments read as they did. -/
theorem law_lifted_sized {C : Checked} {f : FuncId} {fn : Func} {s : ChangeSpec} {tb : TypeId} {conds : List PathCond} {os : Os} {H : Type} {enc : TypeId × Value → H} (hl : laidOutB C.prog = true)
    (hvars : s.vars = []) (hrt : fn.resultTypes = #[tb]) (htb : C.prog.underlying tb = some .bool)
    (hfn : ∀ ds : List (DataW H), ds.length = fn.params.toList.length → (s.fn H ds).results = [.lit (.bool true)] ∧ (s.fn H ds).args = ds ∧ (s.fn H ds).vars = [])
    (hrd : (fn.params.toList.all fun t => C.prog.readableRec t && decide (t < C.prog.types.size)) = true)
    (own : ownKnob C.prog.godebug = none) (started : os.Started) (noInit : C.prog.inits.idxOf? f = none) (hfu : C.prog.funcs[f]? = some fn)
    (witness : ∃ (w : World) (tape : Tape) (i : Input), w.os = os ∧ (w.forCall tape i).Shaped C.prog ∧ i.vars = [] ∧ Input.okWide C.prog (w.forCall tape i) .any w.heap.size f i ∧
      s.pre6 enc C.prog fn conds false (w.forCall tape i).memory i.args ∧ ({} : Assume).holds C.prog (lone (Frame.enter C.prog f i.args .normal) [] (w.forCall tape i)))
    (contract : ∀ (W : World) (base : Nat) (args : List Value) (ds : List (DataW H)) (ps : List MemPlace),
      (∀ (j : Nat) t v, fn.params[j]? = some t → args[j]? = some v → Value.okWide C.prog W .any base t v) →
      DataW.TrodAll enc C.prog W 0 (fun _ => true) true fn.params.toList args ds ps →
      (DataW.weightsEach C.prog (fn.params.toList ++ s.plain.varTypes C.prog) (ds ++ [])).all (· ≤ reachBytes) = true →
      Calls C.prog f args.toArray W fun e W' => e = .returned (.bool true) ∧ Below W.heap.size W W') :
    ReturnsInHanded {} C os f .any (s.pre6 enc C.prog fn conds false) (s.post enc C.prog fn false true false false) := by
  refine returnsInHanded_of_change_sized (C := C) own started noInit hfu witness ?_
  intro W base args ds gs before hval hW _ hsz _
  have hW' := hW
  obtain ⟨p, q, hA, hV, rfl, _, _⟩ := hW
  rw [hvars] at hV
  obtain ⟨rfl, rfl⟩ := trodVars_none hV
  have hlen := trodAll_len hA
  have hc := contract W base args.toList ds p (fun j t v h1 h2 => hval j t v h1 (by simpa using h2)) hA hsz
  refine hc.mono fun e W' ⟨he, hb⟩ => ⟨_, he, ?_⟩
  obtain ⟨h1, h2, h3⟩ := hfn ds hlen
  have hlt : ∀ x ∈ p, x.block < W.heap.size := fun x hx => hW'.lt x (List.mem_append_left _ hx)
  refine ⟨ds, [], p ++ [], [], p, [], hW', ?_, ?_, ?_, hb.frame _, fun h => by cases h⟩
  · rw [List.append_nil, h1, hrt]
    exact trodAll_mk1 (shut_bool htb true)
  · rw [List.append_nil, h2]
    exact TrodAll_stays hl hb hrd hA hlt
  · rw [List.append_nil, h3, hvars]
    rfl

theorem slice_len {H : Type} {enc : TypeId × Value → H} {P : Program} {w : World} {base : Nat} {spare : Nat → Bool} {held : Bool} {t e : TypeId} {A : Option Addr} {n c : Nat} {d : DataW H} {p : List MemPlace} (ht : P.underlying t = some (.slice e)) (h : DataW.Trod enc P w base spare held t (.slice A n c) d p) :
    n = 0 ∨ ∃ xs ys, d = .slice xs ys ∧ xs.length = n := by
  obtain ⟨fuel, hf⟩ := h
  rcases open_slice ht hf with ⟨hcs, _⟩ | ⟨a, len', cap', m, k, D, Pl, hcs, _, hlc, hcm, hm, hx, hi⟩
  · simp [Value.cells] at hcs
    exact .inl hcs.2.1
  · simp [Value.cells] at hcs
    obtain ⟨rfl, rfl, rfl⟩ := hcs
    simp only [Prod.mk.injEq] at hx
    exact .inr ⟨_, _, hx.1, by simp⟩

/-! ### Arguments opened -/
def I64 (n : Int) : Prop := -9223372036854775808 ≤ n ∧ n ≤ 9223372036854775807
theorem I64.of_wf {n : Int} (h : (Lit.int .i64 n).wf = true) : I64 n := by
  simp [Lit.wf, IntKind.min, IntKind.max, IntKind.signed, IntKind.bits] at h
  exact ⟨by omega, by omega⟩

def tiled (P : Program) (ok : TypeId → Bool) (T : Nat) : Nat → List Field → Bool
  | o, [] => o == T
  | o, f :: r => f.offset == o && (ok f.type && tiled P ok T (o + P.cellsOf f.type) r)
def intTree (P : Program) : Nat → TypeId → Bool
  | 0, _ => false
  | n + 1, t => match P.underlying t with
    | some (.int .i64) => true
    | some (.struct fs) => tiled P (intTree P n) (P.cellsOf t) 0 fs.toList
    | _ => false
abbrev ints64 (l : List Int) : List Value := l.map fun n => .int .i64 n
section
variable {H : Type} {enc : TypeId × Value → H} {P : Program} {w : World} {base : Nat} {spare : Nat → Bool} {held : Bool}
theorem trod_ints : ∀ (k : Nat) {fuel : Nat} {t : TypeId} {cs : List Value} {x : DataW H × List MemPlace}, intTree P k t = true → DataW.trod enc P w base spare held fuel t cs = some x →
    ∃ l : List Int, cs = ints64 l ∧ ∀ n ∈ l, I64 n
  | 0, _, _, _, _, h, _ => by simp [intTree] at h
  | k + 1, fuel, t, cs, x, h, ht => by
    unfold intTree at h
    split at h
    · rename_i hu
      obtain ⟨n, rfl, _, hw⟩ := DataW.trod_int hu ht
      exact ⟨[n], rfl, by simpa using I64.of_wf hw⟩
    · rename_i fs hu
      obtain ⟨xs, n, _, _, hlen, hxl, hf⟩ := DataW.trod_struct hu ht
      have hall : ∀ f ∈ fs.toList, intTree P k f.type = true → ∃ l : List Int, (cs.drop f.offset).take (P.cellsOf f.type) = ints64 l ∧ ∀ n ∈ l, I64 n := by
        intro f hfm hi
        obtain ⟨i, hi1, hi2⟩ := List.getElem_of_mem hfm
        have hil : i < fs.size := by simpa using hi1
        have h1 := hf i f (by rw [← hi2]; simp [hil])
        rw [List.getElem?_eq_getElem (by omega)] at h1
        exact trod_ints k hi h1
      have key : ∀ (l : List Field) (o : Nat), (∀ f ∈ l, f ∈ fs.toList) → tiled P (intTree P k) (P.cellsOf t) o l = true → ∃ z : List Int, cs.drop o = ints64 z ∧ ∀ n ∈ z, I64 n := by
        intro l
        induction l with
        | nil =>
          intro o _ ho
          simp only [tiled, beq_iff_eq] at ho
          exact ⟨[], by rw [List.drop_eq_nil_of_le (by omega)]; rfl, by simp⟩
        | cons f r ih =>
          intro o hm ho
          simp only [tiled, Bool.and_eq_true, beq_iff_eq] at ho
          obtain ⟨z1, e1, r1⟩ := hall f (hm f (by simp)) ho.2.1
          obtain ⟨z2, e2, r2⟩ := ih _ (fun g hg => hm g (by simp [hg])) ho.2.2
          refine ⟨z1 ++ z2, ?_, ?_⟩
          · rw [← List.take_append_drop (P.cellsOf f.type) (cs.drop o), List.drop_drop, e2, ← ho.1, e1]
            simp
          · intro n hn
            rcases List.mem_append.1 hn with hn | hn
            · exact r1 n hn
            · exact r2 n hn
      obtain ⟨z, e, r⟩ := key fs.toList 0 (fun _ h => h) h
      exact ⟨z, by simpa using e, r⟩
    · simp at h

theorem list_of {α : Type} {F : Nat → α → Prop} : ∀ (n : Nat), (∀ i, i < n → ∃ x, F i x) → ∃ l : List α, l.length = n ∧ ∀ i (h : i < l.length), F i l[i]
  | 0, _ => ⟨[], rfl, fun i h => by simp at h⟩
  | n + 1, h => by
    obtain ⟨l, hl, hf⟩ := list_of n fun i hi => h i (by omega)
    obtain ⟨x, hx⟩ := h n (by omega)
    refine ⟨l ++ [x], by simp [hl], fun i hi => ?_⟩
    rw [List.getElem_append]
    split
    · rename_i h1; exact hf i h1
    · rename_i h1
      have : i = n := by simp at hi; omega
      subst this
      simpa using hx

/-- A slice of what is laid flat: its elements, where they lie. -/
theorem open_flat {α : Type} {encA : α → List Value} {Q : α → Prop} {t e : TypeId} {C : Nat} {r : Reach} {b0 : Nat} {v : Value} {d : DataW H} {p : List MemPlace} (ht : P.underlying t = some (.slice e)) (hC : P.cellsOf e = C) (hC0 : 0 < C)
    (hopen : ∀ (n : Nat) (cs : List Value) (y : DataW H × List MemPlace), DataW.trod enc P w base spare held n e cs = some y → ∃ x, cs = encA x ∧ Q x) (he : ∀ x, (encA x).length = C)
    (hval : Value.okWide P w r b0 t v) (h : DataW.Trod enc P w base spare held t v d p) :
    ∃ (A : Option Addr) (l : List α) (c : Nat), v = .slice A l.length c ∧ Rd (hw w) A l.length C (l.flatMap encA) ∧ (∀ x ∈ l, Q x) ∧ l.length ≤ c ∧ c ≤ maxLen := by
  obtain ⟨a0, len, cap, rfl⟩ := okWide_slice ht hval
  obtain ⟨fuel, hf⟩ := h
  rcases open_slice ht hf with ⟨hcs, _⟩ | ⟨a, len', cap', m, n, D, Pl, hcs, _, hlc, hcm, hm, _, hi⟩
  · simp [Value.cells] at hcs
    obtain ⟨rfl, rfl, rfl⟩ := hcs
    exact ⟨none, [], 0, rfl, ⟨by simp, fun h => by simp at h⟩, by simp, Nat.le_refl _, Nat.zero_le _⟩
  · simp [Value.cells] at hcs
    obtain ⟨rfl, rfl, rfl⟩ := hcs
    have hml : len ≤ m := by rw [hm]; split <;> omega
    obtain ⟨l, hl, hq⟩ := list_of (F := fun i x => w.cells? base (a.add (i * C)) C = some (encA x) ∧ Q x) len (fun i hi' => by
      obtain ⟨cs', h1, h2⟩ := hi i (by omega)
      obtain ⟨x, rfl, hx⟩ := hopen _ _ _ h2
      rw [hC] at h1
      exact ⟨x, h1, hx⟩)
    subst hl
    refine ⟨some a, l, cap, rfl, ⟨flat_len he l, fun hpos => ?_⟩, fun x hx => ?_, hlc, hcm⟩
    · have hcell : ∀ j, j < l.length * C → w.cell? (a.add j) = (l.flatMap encA)[j]? := by
        intro j hj
        have hjC : j % C < C := Nat.mod_lt _ hC0
        have hjd : j / C < l.length := Nat.div_lt_of_lt_mul (by rw [Nat.mul_comm]; exact hj)
        have e1 : j = j / C * C + j % C := by rw [Nat.mul_comm]; exact (Nat.div_add_mod j C).symm
        obtain ⟨_, _, hat⟩ := World.cells?_some (hq _ hjd).1
        have h2 := hat _ hjC
        rw [Go.Deep.add_add, ← e1] at h2
        rw [h2, ← flat_at he l _ hjd _ hjC, ← e1]
      have h0 := hcell 0 (by exact Nat.mul_pos hpos hC0)
      have hlen := flat_len he l
      have hp0 : 0 < (l.flatMap encA).length := by rw [hlen]; exact Nat.mul_pos hpos hC0
      rw [List.getElem?_eq_getElem hp0] at h0
      obtain ⟨b, off, spot⟩ := a
      have hspot : spot = none := by simpa [Addr.add] using World.cell?_spot h0
      subst hspot
      unfold World.cell? at h0
      split at h0
      · rename_i c tt fr hb
        simp only [Addr.add, if_true] at hb
        refine ⟨b, off, c, tt, fr, rfl, hb, fun j hj => ?_⟩
        have := hcell j hj
        rw [← this, add_plain]
        unfold World.cell?
        dsimp only
        rw [hb]
        rfl
      · cases h0
    · obtain ⟨i, hi1, rfl⟩ := List.getElem_of_mem hx
      exact (hq i hi1).2

theorem open_i64 {r : Reach} {b0 : Nat} {t : TypeId} {v : Value} {d : DataW H} {p : List MemPlace} (ht : P.underlying t = some (.int .i64)) (hval : Value.okWide P w r b0 t v) (h : DataW.Trod enc P w base spare held t v d p) :
    ∃ n, v = .int .i64 n ∧ I64 n := by
  obtain ⟨n, h1, _, _, h2⟩ := open_int ht hval h
  exact ⟨n, h1, I64.of_wf h2⟩
end
end Go.Proofs.Ytngfadijcpnblaa
