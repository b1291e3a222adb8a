/- The program's model: functions that only look. -/
import Derived.Test.YtngfadijcpnblaaMb
import Derived.ProofKit
import Derived.SizedLaws
import Derived.Carry
import Derived.OpenShut
import Derived.Deep.Slices
import Derived.Lib.Bytes
import Derived.Deep.AppendSrc
import Derived.Deep.Upon
import Derived.Test.YtngfadijcpnblaaProg
set_option linter.unusedSimpArgs false
set_option linter.unusedVariables false
/- From a contract of a law to its row: arguments opened, 'true' given back, nothing old turned. -/
namespace Go.Proofs.Ytngfadijcpnblaa
open Go.ChangeShapes Go.WideShapes Go.ChangeAt Go.RowKit Go.Deep

theorem below_of_le {W w' : World} (h : PH.le (hw W) (hw w')) (ho : w'.os = W.os) (ht : w'.tape = W.tape) (hu : w'.output = W.output) : Below W.heap.size W w' := by
  refine ⟨ho, ht, hu, ?_, ?_⟩
  · rcases Nat.eq_zero_or_pos W.heap.size with h0 | h0
    · omega
    · have hl : W.heap.size - 1 < W.heap.size := by omega
      have := h _ _ (show hw W (W.heap.size - 1) = some W.heap[W.heap.size - 1] from Array.getElem?_eq_getElem hl)
      have := (Array.getElem?_eq_some_iff.1 this).1
      omega
  · intro k hk
    have := h k _ (show hw W k = some W.heap[k] from Array.getElem?_eq_getElem hk)
    exact this.trans (Array.getElem?_eq_getElem hk).symm

theorem FnOk.law {P : Program} {f : FuncId} {args : List Value} {W : World} {Q0 : Value → List SP → Prop} (h : FnOk P f args [roAll (hw W)] Q0) (hq : ∀ v Q, Q0 v Q → v = .bool true) :
    Calls P f args.toArray W fun e W' => e = .returned (.bool true) ∧ Below W.heap.size W W' :=
  (h.2 [roAll (hw W)] W ((SatW.start W).dup (pers_roAll _))).mono fun e w' ⟨v, Q, h1, h2, h3, h4, h5, h6⟩ => by
    have := hq v Q h2
    subst this
    obtain ⟨r, hh, a, b, c, d⟩ := h6
    exact ⟨h1, below_of_le (SatW.stays ⟨r, hh, a, b, c, Sat.app_right d⟩) h3 h4 h5⟩

theorem FnOk.law2 {P : Program} {f : FuncId} {args : List Value} {W : World} {Q0 : Value → List SP → Prop} (h : FnOk P f args [roAll (hw W), roAll (hw W)] Q0) (hq : ∀ v Q, Q0 v Q → v = .bool true) :
    Calls P f args.toArray W fun e W' => e = .returned (.bool true) ∧ Below W.heap.size W W' :=
  (h.2 [roAll (hw W)] W (((SatW.start W).dup (pers_roAll _)).dup (pers_roAll _))).mono fun e w' ⟨v, Q, h1, h2, h3, h4, h5, h6⟩ => by
    have := hq v Q h2
    subst this
    obtain ⟨r, hh, a, b, c, d⟩ := h6
    exact ⟨h1, below_of_le (SatW.stays ⟨r, hh, a, b, c, Sat.app_right d⟩) h3 h4 h5⟩

theorem TrodAll_stays {H : Type} {enc : TypeId × Value → H} {P : Program} (hl : laidOutB P = true) {W W' : World} (hb : Below W.heap.size W W') :
    ∀ {ts : List TypeId} {vs : List Value} {ds : List (DataW H)} {ps : List MemPlace}, (ts.all fun t => P.readableRec t && decide (t < P.types.size)) = true →
      DataW.TrodAll enc P W 0 (fun _ => true) true ts vs ds ps → (∀ x ∈ ps, x.block < W.heap.size) → DataW.TrodAll enc P W' 0 (fun b => decide (b < W.heap.size)) true ts vs ds ps
  | [], vs, ds, ps, _, h, _ => by
    obtain ⟨rfl, rfl, rfl⟩ := trodAll_nil h
    exact trodAll_mk0
  | t :: ts, vs, ds, ps, hr, h, hlt => by
    obtain ⟨v, vs', d, ds', p, q, rfl, rfl, rfl, h1, h2⟩ := trodAll_cons h
    simp only [List.all_cons, Bool.and_eq_true, decide_eq_true_eq] at hr
    exact trodAll_cons_mk (Below.trod hl hr.1.1 hr.1.2 h1 hb fun x hx => hlt x (List.mem_append_left _ hx)) (TrodAll_stays hl hb (by simpa using hr.2) h2 fun x hx => hlt x (List.mem_append_right _ hx))

theorem trodAll_len {H : Type} {enc : TypeId × Value → H} {P : Program} {w : World} {base : Nat} {spare : Nat → Bool} {held : Bool} :
    ∀ {ts : List TypeId} {vs : List Value} {ds : List (DataW H)} {ps : List MemPlace}, DataW.TrodAll enc P w base spare held ts vs ds ps → ds.length = ts.length
  | [], vs, ds, ps, h => by
    obtain ⟨rfl, rfl, rfl⟩ := trodAll_nil h
    rfl
  | t :: ts, vs, ds, ps, h => by
    obtain ⟨v, vs', d, ds', p, q, rfl, rfl, rfl, h1, h2⟩ := trodAll_cons h
    simp [trodAll_len h2]

/-- A law: true, and the arguments read as they did. -/
theorem law_lifted {C : Checked} {f : FuncId} {fn : Func} {s : ChangeSpec} {tb : TypeId} {conds : List PathCond} {os : Os} {H : Type} {enc : TypeId × Value → H} (hl : laidOutB C.prog = true)
    (hvars : s.vars = []) (hrt : fn.resultTypes = #[tb]) (htb : C.prog.underlying tb = some .bool)
    (hfn : ∀ ds : List (DataW H), ds.length = fn.params.toList.length → (s.fn H ds).results = [.lit (.bool true)] ∧ (s.fn H ds).args = ds ∧ (s.fn H ds).vars = [])
    (hrd : (fn.params.toList.all fun t => C.prog.readableRec t && decide (t < C.prog.types.size)) = true)
    (own : ownKnob C.prog.godebug = none) (started : os.Started) (noInit : C.prog.inits.idxOf? f = none) (hfu : C.prog.funcs[f]? = some fn)
    (witness : ∃ (w : World) (tape : Tape) (i : Input), w.os = os ∧ (w.forCall tape i).Shaped C.prog ∧ i.vars = [] ∧ Input.okWide C.prog (w.forCall tape i) .any w.heap.size f i ∧
      s.pre6 enc C.prog fn conds false (w.forCall tape i).memory i.args ∧ ({} : Assume).holds C.prog (lone (Frame.enter C.prog f i.args .normal) [] (w.forCall tape i)))
    (contract : ∀ (W : World) (base : Nat) (args : List Value) (ds : List (DataW H)) (ps : List MemPlace),
      (∀ (j : Nat) t v, fn.params[j]? = some t → args[j]? = some v → Value.okWide C.prog W .any base t v) →
      DataW.TrodAll enc C.prog W 0 (fun _ => true) true fn.params.toList args ds ps →
      Calls C.prog f args.toArray W fun e W' => e = .returned (.bool true) ∧ Below W.heap.size W W') :
    ReturnsInHanded {} C os f .any (s.pre6 enc C.prog fn conds false) (s.post enc C.prog fn false true false false) := by
  refine returnsInHanded_of_change_sized (C := C) own started noInit hfu witness ?_
  intro W base args ds gs before hval hW _ _ _
  have hW' := hW
  obtain ⟨p, q, hA, hV, rfl, _, _⟩ := hW
  rw [hvars] at hV
  obtain ⟨rfl, rfl⟩ := trodVars_none hV
  have hlen := trodAll_len hA
  have hc := contract W base args.toList ds p (fun j t v h1 h2 => hval j t v h1 (by simpa using h2)) hA
  refine hc.mono fun e W' ⟨he, hb⟩ => ⟨_, he, ?_⟩
  obtain ⟨h1, h2, h3⟩ := hfn ds hlen
  have hlt : ∀ x ∈ p, x.block < W.heap.size := fun x hx => hW'.lt x (List.mem_append_left _ hx)
  refine ⟨ds, [], p ++ [], [], p, [], hW', ?_, ?_, ?_, hb.frame _, fun h => by cases h⟩
  · rw [List.append_nil, h1, hrt]
    exact trodAll_mk1 (shut_bool htb true)
  · rw [List.append_nil, h2]
    exact TrodAll_stays hl hb hrd hA hlt
  · rw [List.append_nil, h3, hvars]
    rfl

/-- .. with the bytes that the arguments take: a law: true, and the arguments read as they did. -/
theorem law_lifted_sized {C : Checked} {f : FuncId} {fn : Func} {s : ChangeSpec} {tb : TypeId} {conds : List PathCond} {os : Os} {H : Type} {enc : TypeId × Value → H} (hl : laidOutB C.prog = true)
    (hvars : s.vars = []) (hrt : fn.resultTypes = #[tb]) (htb : C.prog.underlying tb = some .bool)
    (hfn : ∀ ds : List (DataW H), ds.length = fn.params.toList.length → (s.fn H ds).results = [.lit (.bool true)] ∧ (s.fn H ds).args = ds ∧ (s.fn H ds).vars = [])
    (hrd : (fn.params.toList.all fun t => C.prog.readableRec t && decide (t < C.prog.types.size)) = true)
    (own : ownKnob C.prog.godebug = none) (started : os.Started) (noInit : C.prog.inits.idxOf? f = none) (hfu : C.prog.funcs[f]? = some fn)
    (witness : ∃ (w : World) (tape : Tape) (i : Input), w.os = os ∧ (w.forCall tape i).Shaped C.prog ∧ i.vars = [] ∧ Input.okWide C.prog (w.forCall tape i) .any w.heap.size f i ∧
      s.pre6 enc C.prog fn conds false (w.forCall tape i).memory i.args ∧ ({} : Assume).holds C.prog (lone (Frame.enter C.prog f i.args .normal) [] (w.forCall tape i)))
    (contract : ∀ (W : World) (base : Nat) (args : List Value) (ds : List (DataW H)) (ps : List MemPlace),
      (∀ (j : Nat) t v, fn.params[j]? = some t → args[j]? = some v → Value.okWide C.prog W .any base t v) →
      DataW.TrodAll enc C.prog W 0 (fun _ => true) true fn.params.toList args ds ps →
      (DataW.weightsEach C.prog (fn.params.toList ++ s.plain.varTypes C.prog) (ds ++ [])).all (· ≤ reachBytes) = true →
      Calls C.prog f args.toArray W fun e W' => e = .returned (.bool true) ∧ Below W.heap.size W W') :
    ReturnsInHanded {} C os f .any (s.pre6 enc C.prog fn conds false) (s.post enc C.prog fn false true false false) := by
  refine returnsInHanded_of_change_sized (C := C) own started noInit hfu witness ?_
  intro W base args ds gs before hval hW _ hsz _
  have hW' := hW
  obtain ⟨p, q, hA, hV, rfl, _, _⟩ := hW
  rw [hvars] at hV
  obtain ⟨rfl, rfl⟩ := trodVars_none hV
  have hlen := trodAll_len hA
  have hc := contract W base args.toList ds p (fun j t v h1 h2 => hval j t v h1 (by simpa using h2)) hA hsz
  refine hc.mono fun e W' ⟨he, hb⟩ => ⟨_, he, ?_⟩
  obtain ⟨h1, h2, h3⟩ := hfn ds hlen
  have hlt : ∀ x ∈ p, x.block < W.heap.size := fun x hx => hW'.lt x (List.mem_append_left _ hx)
  refine ⟨ds, [], p ++ [], [], p, [], hW', ?_, ?_, ?_, hb.frame _, fun h => by cases h⟩
  · rw [List.append_nil, h1, hrt]
    exact trodAll_mk1 (shut_bool htb true)
  · rw [List.append_nil, h2]
    exact TrodAll_stays hl hb hrd hA hlt
  · rw [List.append_nil, h3, hvars]
    rfl

theorem slice_len {H : Type} {enc : TypeId × Value → H} {P : Program} {w : World} {base : Nat} {spare : Nat → Bool} {held : Bool} {t e : TypeId} {A : Option Addr} {n c : Nat} {d : DataW H} {p : List MemPlace} (ht : P.underlying t = some (.slice e)) (h : DataW.Trod enc P w base spare held t (.slice A n c) d p) :
    n = 0 ∨ ∃ xs ys, d = .slice xs ys ∧ xs.length = n := by
  obtain ⟨fuel, hf⟩ := h
  rcases open_slice ht hf with ⟨hcs, _⟩ | ⟨a, len', cap', m, k, D, Pl, hcs, _, hlc, hcm, hm, hx, hi⟩
  · simp [Value.cells] at hcs
    exact .inl hcs.2.1
  · simp [Value.cells] at hcs
    obtain ⟨rfl, rfl, rfl⟩ := hcs
    simp only [Prod.mk.injEq] at hx
    exact .inr ⟨_, _, hx.1, by simp⟩

/-! ### Arguments opened -/
def I64 (n : Int) : Prop := -9223372036854775808 ≤ n ∧ n ≤ 9223372036854775807
theorem I64.of_wf {n : Int} (h : (Lit.int .i64 n).wf = true) : I64 n := by
  simp [Lit.wf, IntKind.min, IntKind.max, IntKind.signed, IntKind.bits] at h
  exact ⟨by omega, by omega⟩

def tiled (P : Program) (ok : TypeId → Bool) (T : Nat) : Nat → List Field → Bool
  | o, [] => o == T
  | o, f :: r => f.offset == o && (ok f.type && tiled P ok T (o + P.cellsOf f.type) r)
def intTree (P : Program) : Nat → TypeId → Bool
  | 0, _ => false
  | n + 1, t => match P.underlying t with
    | some (.int .i64) => true
    | some (.struct fs) => tiled P (intTree P n) (P.cellsOf t) 0 fs.toList
    | _ => false
abbrev ints64 (l : List Int) : List Value := l.map fun n => .int .i64 n
section
variable {H : Type} {enc : TypeId × Value → H} {P : Program} {w : World} {base : Nat} {spare : Nat → Bool} {held : Bool}
theorem trod_ints : ∀ (k : Nat) {fuel : Nat} {t : TypeId} {cs : List Value} {x : DataW H × List MemPlace}, intTree P k t = true → DataW.trod enc P w base spare held fuel t cs = some x →
    ∃ l : List Int, cs = ints64 l ∧ ∀ n ∈ l, I64 n
  | 0, _, _, _, _, h, _ => by simp [intTree] at h
  | k + 1, fuel, t, cs, x, h, ht => by
    unfold intTree at h
    split at h
    · rename_i hu
      obtain ⟨n, rfl, _, hw⟩ := DataW.trod_int hu ht
      exact ⟨[n], rfl, by simpa using I64.of_wf hw⟩
    · rename_i fs hu
      obtain ⟨xs, n, _, _, hlen, hxl, hf⟩ := DataW.trod_struct hu ht
      have hall : ∀ f ∈ fs.toList, intTree P k f.type = true → ∃ l : List Int, (cs.drop f.offset).take (P.cellsOf f.type) = ints64 l ∧ ∀ n ∈ l, I64 n := by
        intro f hfm hi
        obtain ⟨i, hi1, hi2⟩ := List.getElem_of_mem hfm
        have hil : i < fs.size := by simpa using hi1
        have h1 := hf i f (by rw [← hi2]; simp [hil])
        rw [List.getElem?_eq_getElem (by omega)] at h1
        exact trod_ints k hi h1
      have key : ∀ (l : List Field) (o : Nat), (∀ f ∈ l, f ∈ fs.toList) → tiled P (intTree P k) (P.cellsOf t) o l = true → ∃ z : List Int, cs.drop o = ints64 z ∧ ∀ n ∈ z, I64 n := by
        intro l
        induction l with
        | nil =>
          intro o _ ho
          simp only [tiled, beq_iff_eq] at ho
          exact ⟨[], by rw [List.drop_eq_nil_of_le (by omega)]; rfl, by simp⟩
        | cons f r ih =>
          intro o hm ho
          simp only [tiled, Bool.and_eq_true, beq_iff_eq] at ho
          obtain ⟨z1, e1, r1⟩ := hall f (hm f (by simp)) ho.2.1
          obtain ⟨z2, e2, r2⟩ := ih _ (fun g hg => hm g (by simp [hg])) ho.2.2
          refine ⟨z1 ++ z2, ?_, ?_⟩
          · rw [← List.take_append_drop (P.cellsOf f.type) (cs.drop o), List.drop_drop, e2, ← ho.1, e1]
            simp
          · intro n hn
            rcases List.mem_append.1 hn with hn | hn
            · exact r1 n hn
            · exact r2 n hn
      obtain ⟨z, e, r⟩ := key fs.toList 0 (fun _ h => h) h
      exact ⟨z, by simpa using e, r⟩
    · simp at h

theorem list_of {α : Type} {F : Nat → α → Prop} : ∀ (n : Nat), (∀ i, i < n → ∃ x, F i x) → ∃ l : List α, l.length = n ∧ ∀ i (h : i < l.length), F i l[i]
  | 0, _ => ⟨[], rfl, fun i h => by simp at h⟩
  | n + 1, h => by
    obtain ⟨l, hl, hf⟩ := list_of n fun i hi => h i (by omega)
    obtain ⟨x, hx⟩ := h n (by omega)
    refine ⟨l ++ [x], by simp [hl], fun i hi => ?_⟩
    rw [List.getElem_append]
    split
    · rename_i h1; exact hf i h1
    · rename_i h1
      have : i = n := by simp at hi; omega
      subst this
      simpa using hx

/-- A slice of what is laid flat: its elements, where they lie. -/
theorem open_flat {α : Type} {encA : α → List Value} {Q : α → Prop} {t e : TypeId} {C : Nat} {r : Reach} {b0 : Nat} {v : Value} {d : DataW H} {p : List MemPlace} (ht : P.underlying t = some (.slice e)) (hC : P.cellsOf e = C) (hC0 : 0 < C)
    (hopen : ∀ (n : Nat) (cs : List Value) (y : DataW H × List MemPlace), DataW.trod enc P w base spare held n e cs = some y → ∃ x, cs = encA x ∧ Q x) (he : ∀ x, (encA x).length = C)
    (hval : Value.okWide P w r b0 t v) (h : DataW.Trod enc P w base spare held t v d p) :
    ∃ (A : Option Addr) (l : List α) (c : Nat), v = .slice A l.length c ∧ Rd (hw w) A l.length C (l.flatMap encA) ∧ (∀ x ∈ l, Q x) ∧ l.length ≤ c ∧ c ≤ maxLen := by
  obtain ⟨a0, len, cap, rfl⟩ := okWide_slice ht hval
  obtain ⟨fuel, hf⟩ := h
  rcases open_slice ht hf with ⟨hcs, _⟩ | ⟨a, len', cap', m, n, D, Pl, hcs, _, hlc, hcm, hm, _, hi⟩
  · simp [Value.cells] at hcs
    obtain ⟨rfl, rfl, rfl⟩ := hcs
    exact ⟨none, [], 0, rfl, ⟨by simp, fun h => by simp at h⟩, by simp, Nat.le_refl _, Nat.zero_le _⟩
  · simp [Value.cells] at hcs
    obtain ⟨rfl, rfl, rfl⟩ := hcs
    have hml : len ≤ m := by rw [hm]; split <;> omega
    obtain ⟨l, hl, hq⟩ := list_of (F := fun i x => w.cells? base (a.add (i * C)) C = some (encA x) ∧ Q x) len (fun i hi' => by
      obtain ⟨cs', h1, h2⟩ := hi i (by omega)
      obtain ⟨x, rfl, hx⟩ := hopen _ _ _ h2
      rw [hC] at h1
      exact ⟨x, h1, hx⟩)
    subst hl
    refine ⟨some a, l, cap, rfl, ⟨flat_len he l, fun hpos => ?_⟩, fun x hx => ?_, hlc, hcm⟩
    · have hcell : ∀ j, j < l.length * C → w.cell? (a.add j) = (l.flatMap encA)[j]? := by
        intro j hj
        have hjC : j % C < C := Nat.mod_lt _ hC0
        have hjd : j / C < l.length := Nat.div_lt_of_lt_mul (by rw [Nat.mul_comm]; exact hj)
        have e1 : j = j / C * C + j % C := by rw [Nat.mul_comm]; exact (Nat.div_add_mod j C).symm
        obtain ⟨_, _, hat⟩ := World.cells?_some (hq _ hjd).1
        have h2 := hat _ hjC
        rw [Go.Deep.add_add, ← e1] at h2
        rw [h2, ← flat_at he l _ hjd _ hjC, ← e1]
      have h0 := hcell 0 (by exact Nat.mul_pos hpos hC0)
      have hlen := flat_len he l
      have hp0 : 0 < (l.flatMap encA).length := by rw [hlen]; exact Nat.mul_pos hpos hC0
      rw [List.getElem?_eq_getElem hp0] at h0
      obtain ⟨b, off, spot⟩ := a
      have hspot : spot = none := by simpa [Addr.add] using World.cell?_spot h0
      subst hspot
      unfold World.cell? at h0
      split at h0
      · rename_i c tt fr hb
        simp only [Addr.add, if_true] at hb
        refine ⟨b, off, c, tt, fr, rfl, hb, fun j hj => ?_⟩
        have := hcell j hj
        rw [← this, add_plain]
        unfold World.cell?
        dsimp only
        rw [hb]
        rfl
      · cases h0
    · obtain ⟨i, hi1, rfl⟩ := List.getElem_of_mem hx
      exact (hq i hi1).2

theorem open_i64 {r : Reach} {b0 : Nat} {t : TypeId} {v : Value} {d : DataW H} {p : List MemPlace} (ht : P.underlying t = some (.int .i64)) (hval : Value.okWide P w r b0 t v) (h : DataW.Trod enc P w base spare held t v d p) :
    ∃ n, v = .int .i64 n ∧ I64 n := by
  obtain ⟨n, h1, _, _, h2⟩ := open_int ht hval h
  exact ⟨n, h1, I64.of_wf h2⟩
end
end Go.Proofs.Ytngfadijcpnblaa

/- Rules for strings, as lists of bytes. -/
namespace Go.Proofs.Ytngfadijcpnblaa
open Go.RowKit

abbrev str (l : List UInt8) : Value := .string ⟨l.toArray⟩
abbrev sv (l : List UInt8) : SV := .c (.v (.string ⟨l.toArray⟩))
theorem toList_str (l : List UInt8) : ByteArray.toList ⟨l.toArray⟩ = l := by rw [Lib.toList_data]
theorem str_inj {a b : List UInt8} : str a = str b ↔ a = b := by
  constructor
  · intro h
    injection h with h
    have := congrArg ByteArray.toList h
    rwa [toList_str, toList_str] at this
  · intro h; rw [h]
theorem data_app (a b : List UInt8) : (⟨a.toArray⟩ : ByteArray) ++ ⟨b.toArray⟩ = ⟨(a ++ b).toArray⟩ := by
  apply ByteArray.ext
  simp
theorem data_ext (a : List UInt8) (l h : Nat) (hh : h ≤ a.length) : (⟨a.toArray⟩ : ByteArray).extract l h = ⟨((a.take h).drop l).toArray⟩ := by
  apply ByteArray.ext
  simp only [ByteArray.data_extract, List.extract_toArray]
  congr 1
  rw [List.extract_eq_take_drop, List.drop_take]
theorem Ar.to {k : IntKind} {n : Int} {C : Int → Prop} (m : Int) (e : n = m) (h : inR k m) (c : C m) : Ar k n C := by subst e; exact Ar.ok h c
/-- The byte at a place. -/
def byteAt (l : List UInt8) (i : Int) : Int := (l.getD i.toNat 0).toNat

section
variable {g : Cx} {β : Nat → Nat} {env : Env} {mem : Mem} {bnd : Bnd} {L : Res} {a : Act} {w : World} {N : Act → World → Prop} {Q : Exit → Act → World → Prop} {T : World → Prop}

theorem cat_run (hr : Rel g β env mem bnd L a w) {o : Oper} {t tt : TypeId} {x y : Operand} {l m : List UInt8} (ho : o.op = .binOp .add t x y tt) (hx : ev env x = some (sv l)) (hy : ev env y = some (sv m)) (hl : l.length + m.length ≤ 9223372036854775807) (w' : World) :
    (execOp a.eval o).run g.P w' = .ok (.value ((sv (l ++ m)).den β)) w' := by
  have e1 : a.eval x = str l := hr.ev hx
  have e2 : a.eval y = str m := hr.ev hy
  have h1 : ¬ ((((⟨l.toArray⟩ : ByteArray).size + (⟨m.toArray⟩ : ByteArray).size : Nat) : Int) > IntKind.i64.max) := by
    have : IntKind.i64.max = 9223372036854775807 := rfl
    rw [this]
    simp only [ByteArray.size, List.size_toArray]
    omega
  simp only [execOp, ho, e1, e2]
  have hg : eqGuard .add t x y (str l) (str m) = pure () := eqGuard_other _ _ _ _ _ _ rfl
  simp only [hg, Sem.run_bind, Sem.run_pure, Result.andThen_ok, binOp, Op.stringOp, if_neg h1, data_app, SV.den, Ce.den]
theorem Nx.cat {o : Oper} {t tt : TypeId} {x y : Operand} {l m : List UInt8} (ho : o.op = .binOp .add t x y tt) (hx : ev env x = some (sv l)) (hy : ev env y = some (sv m)) (hd : dstOk g.n o.dst = true) (hl : l.length + m.length ≤ 9223372036854775807)
    (hk : Nx g (putE o.dst (sv (l ++ m)) env) mem bnd L N) : Nx g env mem bnd L (OneC g o N Q) :=
  Nx.val hd (fun _ _ _ hr w' => cat_run hr ho hx hy hl w') hk
theorem Nx.hoCat {o : Oper} {t tt : TypeId} {x y : Operand} {l m : List UInt8} (ho : o.op = .binOp .add t x y tt) (hx : ev env x = some (sv l)) (hy : ev env y = some (sv m)) (hd : dstOk g.n o.dst = true) (hl : l.length + m.length ≤ 9223372036854775807)
    (hk : Nx g (putE o.dst (sv (l ++ m)) env) mem bnd L N) : Nx g env mem bnd L (HoC g T o N) :=
  Nx.hoVal hd (fun _ _ _ hr w' => cat_run hr ho hx hy hl w') hk

theorem sidx_run (hr : Rel g β env mem bnd L a w) {o : Oper} {t : TypeId} {x i : Operand} {l : List UInt8} {k : IntKind} {iv : Int} (ho : o.op = .index t x i) (hx : ev env x = some (sv l)) (hi : ev env i = some (.c (.v (.int k iv)))) (ht : g.P.underlying t = some .string) (h0 : 0 ≤ iv) (h1 : iv < l.length) (w' : World) :
    (execOp a.eval o).run g.P w' = .ok (.value ((SV.c (.v (.int .u8 (byteAt l iv)))).den β)) w' := by
  have e1 : a.eval x = str l := hr.ev hx
  have e2 : a.eval i = .int k iv := hr.ev hi
  have hs : (⟨l.toArray⟩ : ByteArray)[iv.toNat]? = some (l.getD iv.toNat 0) := by
    have h2 : iv.toNat < (⟨l.toArray⟩ : ByteArray).size := by simp only [ByteArray.size, List.size_toArray]; omega
    rw [getElem?_pos (⟨l.toArray⟩ : ByteArray) iv.toNat h2, ByteArray.getElem_eq_getElem_data]
    have h3 : iv.toNat < l.length := by omega
    simp [h3]
  simp only [execOp, ho, e1, e2, Instr.index, asIntOf, Sem.run_bind, Sem.run_pure, Result.andThen_ok, run_underlying ht]
  rw [if_pos h0, hs]
  rfl
theorem Nx.sidx {o : Oper} {t : TypeId} {x i : Operand} {l : List UInt8} {k : IntKind} {iv : Int} (ho : o.op = .index t x i) (hx : ev env x = some (sv l)) (hi : ev env i = some (.c (.v (.int k iv)))) (ht : g.P.underlying t = some .string) (hd : dstOk g.n o.dst = true) (h0 : 0 ≤ iv) (h1 : iv < l.length)
    (hk : Nx g (putE o.dst (.c (.v (.int .u8 (byteAt l iv)))) env) mem bnd L N) : Nx g env mem bnd L (OneC g o N Q) :=
  Nx.val (x := .c (.v (.int .u8 (byteAt l iv)))) hd (fun _ _ _ hr w' => sidx_run hr ho hx hi ht h0 h1 w') hk
theorem Nx.hoSidx {o : Oper} {t : TypeId} {x i : Operand} {l : List UInt8} {k : IntKind} {iv : Int} (ho : o.op = .index t x i) (hx : ev env x = some (sv l)) (hi : ev env i = some (.c (.v (.int k iv)))) (ht : g.P.underlying t = some .string) (hd : dstOk g.n o.dst = true) (h0 : 0 ≤ iv) (h1 : iv < l.length)
    (hk : Nx g (putE o.dst (.c (.v (.int .u8 (byteAt l iv)))) env) mem bnd L N) : Nx g env mem bnd L (HoC g T o N) :=
  Nx.hoVal (x := .c (.v (.int .u8 (byteAt l iv)))) hd (fun _ _ _ hr w' => sidx_run hr ho hx hi ht h0 h1 w') hk

theorem ssl_run (hr : Rel g β env mem bnd L a w) {o : Oper} {t : TypeId} {x : Operand} {lo hi : Option Operand} {s : List UInt8} {l h : Int}
    (ho : o.op = .slice t x lo hi none) (hx : ev env x = some (sv s)) (ht : g.P.underlying t = some .string)
    (hlo : evN env lo 0 = some l) (hhi : evN env hi s.length = some h) (h0 : 0 ≤ l) (h1 : l ≤ h) (h2 : h ≤ s.length) (w' : World) : (execOp a.eval o).run g.P w' = .ok (.value ((sv ((s.take h.toNat).drop l.toNat)).den β)) w' := by
  have e1 : a.eval x = str s := hr.ev hx
  obtain ⟨l, rfl⟩ := Int.eq_ofNat_of_zero_le h0
  obtain ⟨h, rfl⟩ := Int.eq_ofNat_of_zero_le (Int.le_trans h0 h1)
  have hb : ∀ (k : IntKind) (i j : Nat) (code : BoundsCode), i ≤ j → (Instr.sliceBound (.int k i) j code).run g.P w' = .ok i w' := by
    intro k i j code hij
    have : (0 : Int) ≤ i ∧ (i : Int) ≤ j := ⟨by omega, by omega⟩
    simp [Instr.sliceBound, asIntOf, this]
  have hsz : (⟨s.toArray⟩ : ByteArray).size = s.length := by simp [ByteArray.size]
  have hbs : (Instr.sliceBounds false s.length s.length (lo.map a.eval) (hi.map a.eval) none).run g.P w' = .ok (l, h, s.length) w' := by
    have b2 : ∀ (k : IntKind) (code : BoundsCode), (Instr.sliceBound (.int k h) s.length code).run g.P w' = .ok h w' := fun k code => hb k h s.length code (by omega)
    have b3 : ∀ (k : IntKind) (code : BoundsCode), (Instr.sliceBound (.int k l) h code).run g.P w' = .ok l w' := fun k code => hb k l h code (by omega)
    cases hi with
    | none =>
      have eh : s.length = h := by
        have : (s.length : Int) = h := by simpa [evN] using hhi
        omega
      subst eh
      cases lo with
      | none =>
        have el : 0 = l := by
          have : (0 : Int) = l := by simpa [evN] using hlo
          omega
        subst el
        simp [Instr.sliceBounds]
      | some y =>
        obtain ⟨k, hy⟩ := evN_eval hr hlo
        simp [Instr.sliceBounds, hy, b3]
    | some z =>
      obtain ⟨k2, hz⟩ := evN_eval hr hhi
      cases lo with
      | none =>
        have el : 0 = l := by
          have : (0 : Int) = l := by simpa [evN] using hlo
          omega
        subst el
        simp [Instr.sliceBounds, hz, b2]
      | some y =>
        obtain ⟨k, hy⟩ := evN_eval hr hlo
        simp [Instr.sliceBounds, hy, hz, b2, b3]
  have hext := data_ext s l h (by omega)
  simp only [execOp, ho, e1, Instr.sliceAt, Instr.slice, Option.map_none, Sem.run_bind, run_underlying ht, Result.andThen_ok, hsz, Option.isSome_none, Bool.false_eq_true, if_false, hbs, Sem.run_pure, hext, Int.toNat_natCast, SV.den, Ce.den]
theorem Nx.ssl {o : Oper} {t : TypeId} {x : Operand} {lo hi : Option Operand} {s : List UInt8} {l h : Int}
    (ho : o.op = .slice t x lo hi none) (hx : ev env x = some (sv s)) (ht : g.P.underlying t = some .string) (hd : dstOk g.n o.dst = true)
    (hlo : evN env lo 0 = some l) (hhi : evN env hi s.length = some h) (h0 : 0 ≤ l) (h1 : l ≤ h) (h2 : h ≤ s.length)
    (hk : Nx g (putE o.dst (sv ((s.take h.toNat).drop l.toNat)) env) mem bnd L N) : Nx g env mem bnd L (OneC g o N Q) :=
  Nx.val hd (fun _ _ _ hr w' => ssl_run hr ho hx ht hlo hhi h0 h1 h2 w') hk

theorem Nx.hoSsl {o : Oper} {t : TypeId} {x : Operand} {lo hi : Option Operand} {s : List UInt8} {l h : Int}
    (ho : o.op = .slice t x lo hi none) (hx : ev env x = some (sv s)) (ht : g.P.underlying t = some .string) (hd : dstOk g.n o.dst = true)
    (hlo : evN env lo 0 = some l) (hhi : evN env hi s.length = some h) (h0 : 0 ≤ l) (h1 : l ≤ h) (h2 : h ≤ s.length)
    (hk : Nx g (putE o.dst (sv ((s.take h.toNat).drop l.toNat)) env) mem bnd L N) : Nx g env mem bnd L (HoC g T o N) :=
  Nx.hoVal hd (fun _ _ _ hr w' => ssl_run hr ho hx ht hlo hhi h0 h1 h2 w') hk

/-- The address of an element of an array at a real address. -/
theorem gidx_run (hr : Rel g β env mem bnd L a w) {o : Oper} {t e : TypeId} {x i : Operand} {b p n sz by_ : Nat} {kk : IntKind} {iv : Int} (ho : o.op = .indexAddr t x i) (hx : ev env x = some (.c (.v (.pointer (some ⟨b, p, none⟩))))) (hi : ev env i = some (.c (.v (.int kk iv)))) (ht : g.P.underlying t = some (.array n e)) (he : elemI g.P e = some (sz, by_)) (h0 : 0 ≤ iv) (h1 : iv < n) (w' : World) :
    (execOp a.eval o).run g.P w' = .ok (.value ((SV.c (.v (.pointer (some ⟨b, p + iv.toNat * sz, none⟩)))).den β)) w' := by
  obtain ⟨ei, zz, hei, hz, hzs, hpos, hez, hby⟩ := elemI_ok he
  have e1 : a.eval x = .pointer (some ⟨b, p, none⟩) := hr.ev hx
  have e2 : a.eval i = .int kk iv := hr.ev hi
  simp [execOp, ho, e1, e2, Instr.indexAt, Instr.sureAddr, asIntOf, run_underlying ht, h0, h1, sizeOf, typeInfo, hei, hez, add_plain', SV.den, Ce.den]
theorem Nx.gidx {o : Oper} {t e : TypeId} {x i : Operand} {b p n sz by_ q : Nat} {kk : IntKind} {iv : Int} (ho : o.op = .indexAddr t x i) (hx : ev env x = some (.c (.v (.pointer (some ⟨b, p, none⟩))))) (hi : ev env i = some (.c (.v (.int kk iv)))) (ht : g.P.underlying t = some (.array n e)) (he : elemI g.P e = some (sz, by_)) (hd : dstOk g.n o.dst = true) (h0 : 0 ≤ iv) (h1 : iv < n) (hq : p + iv.toNat * sz = q)
    (hk : Nx g (putE o.dst (.c (.v (.pointer (some ⟨b, q, none⟩)))) env) mem bnd L N) : Nx g env mem bnd L (OneC g o N Q) := by
  subst hq
  exact Nx.val (x := .c (.v (.pointer (some ⟨b, p + iv.toNat * sz, none⟩)))) hd (fun _ _ _ hr w' => gidx_run hr ho hx hi ht he h0 h1 w') hk
theorem Nx.hoGidx {o : Oper} {t e : TypeId} {x i : Operand} {b p n sz by_ q : Nat} {kk : IntKind} {iv : Int} (ho : o.op = .indexAddr t x i) (hx : ev env x = some (.c (.v (.pointer (some ⟨b, p, none⟩))))) (hi : ev env i = some (.c (.v (.int kk iv)))) (ht : g.P.underlying t = some (.array n e)) (he : elemI g.P e = some (sz, by_)) (hd : dstOk g.n o.dst = true) (h0 : 0 ≤ iv) (h1 : iv < n) (hq : p + iv.toNat * sz = q)
    (hk : Nx g (putE o.dst (.c (.v (.pointer (some ⟨b, q, none⟩)))) env) mem bnd L N) : Nx g env mem bnd L (HoC g T o N) := by
  subst hq
  exact Nx.hoVal (x := .c (.v (.pointer (some ⟨b, p + iv.toNat * sz, none⟩)))) hd (fun _ _ _ hr w' => gidx_run hr ho hx hi ht he h0 h1 w') hk

/-- The address of an element of a row of the call's own; a load there. -/
theorem lidx_run (hr : Rel g β env mem bnd L a w) {o : Oper} {t e : TypeId} {x i : Operand} {l p n c sz by_ : Nat} {kk : IntKind} {iv : Int} (ho : o.op = .indexAddr t x i) (hx : ev env x = some (.c (.locs l p n c))) (hi : ev env i = some (.c (.v (.int kk iv)))) (ht : g.P.underlying t = some (.slice e)) (he : elemI g.P e = some (sz, by_)) (h0 : 0 ≤ iv) (h1 : iv < n) (w' : World) :
    (execOp a.eval o).run g.P w' = .ok (.value ((SV.c (.loc l (p + iv.toNat * sz))).den β)) w' := by
  obtain ⟨ei, zz, hei, hz, hzs, hpos, hez, hby⟩ := elemI_ok he
  have e1 : a.eval x = .slice (some ⟨β l, p, none⟩) n c := hr.ev hx
  have e2 : a.eval i = .int kk iv := hr.ev hi
  simp [execOp, ho, e1, e2, Instr.indexAt, asIntOf, run_underlying ht, h0, h1, sizeOf, typeInfo, hei, hez, add_plain', SV.den, Ce.den]
theorem Nx.lidx {o : Oper} {t e : TypeId} {x i : Operand} {l p n c sz by_ q b : Nat} {kk : IntKind} {iv : Int} (ho : o.op = .indexAddr t x i) (hx : ev env x = some (.c (.locs l p n c))) (hb : lookB bnd l = some b) (hi : ev env i = some (.c (.v (.int kk iv)))) (ht : g.P.underlying t = some (.slice e)) (he : elemI g.P e = some (sz, by_)) (hd : dstOk g.n o.dst = true) (h0 : 0 ≤ iv) (h1 : iv < n) (hq : p + iv.toNat * sz = q)
    (hk : Nx g (putE o.dst (.c (.v (.pointer (some ⟨b, q, none⟩)))) env) mem bnd L N) : Nx g env mem bnd L (OneC g o N Q) := by
  subst hq
  intro β a w hr
  have h := lidx_run hr ho hx hi ht he h0 h1 w
  have e : (SV.c (.loc l (p + iv.toNat * sz))).den β = .pointer (some ⟨b, p + iv.toNat * sz, none⟩) := by simp only [SV.den, Ce.den, hr.bnd l b hb]
  rw [e] at h
  exact wp_value h (hk β _ w (hr.put o.dst (.c (.v (.pointer (some ⟨b, p + iv.toNat * sz, none⟩)))) hd))

/-- A string of bytes that an assertion lets see. -/
abbrev u8s (l : List UInt8) : List Value := l.map fun b => .int .u8 b.toNat
theorem Nx.bstr (nm : Nat) {o : Oper} {src dst e : TypeId} {x : Operand} {A : Option Addr} {n c : Nat} {S : SP} {L' : Res} {l : List UInt8}
    (ho : o.op = .convert src dst x) (hx : ev env x = some (.c (.v (.slice A n c)))) (hs : g.P.underlying src = some (.slice e)) (he : g.P.underlying e = some (.int .u8)) (hdt : g.P.underlying dst = some .string) (hd : dstOk g.n o.dst = true)
    (hp : takeR nm L = some (S, L')) (hse : Sees S A n 1 (u8s l)) (hn : 0 < n)
    (hk : Nx g (putE o.dst (sv l) env) mem bnd L N) : Nx g env mem bnd L (OneC g o N Q) := by
  intro β a w hr
  obtain ⟨hlen, hrd⟩ : Rd (hw w) A n 1 (u8s l) := by
    obtain ⟨r, h, x1, x2, x3, r1, h1', h2', y1, y2, y3, y4, y5, y6⟩ := hr.picked (takeR_pick hp)
    exact (hse r1 h1' (PH.dj_mono x3 y1 y2) y5).mono (PH.un_le (PH.le_trans y1 x1) (PH.le_trans y2 x2))
  obtain ⟨b, off, cs, tt, fr, rfl, hb, hc⟩ := hrd hn
  have e1 : a.eval x = .slice (some ⟨b, off, none⟩) n c := hr.ev hx
  have hln : l.length = n := by simpa using hlen
  have hl : (loadCells ⟨b, off, none⟩ n).run g.P w = .ok ((l.map fun b => (b.toNat : Int)).map (Value.int .u8)).toArray w := by
    have := run_loadCells_list (P := g.P) w ⟨b, off, none⟩ (u8s l) (fun j v hv => by
      have hj : j < (u8s l).length := (List.getElem?_eq_some_iff.1 hv).1
      rw [add_plain', cell_of_row w _ _ _ _ _ hb, hc j (by simp at hj ⊢; omega)]
      exact hv)
    simp only [List.length_map, hln] at this
    rw [this]
    simp
  have hrun : (execOp a.eval o).run g.P w = .ok (.value ((sv l).den β)) w := by
    simp only [execOp, ho, e1]
    rw [Sem.run_bind, run_convert_bytes_string w src dst e _ n c hs he hdt, run_bytesToString w _ n c _ hl]
    have : ∀ (l : List UInt8) (s : ByteArray), (l.map fun b => (b.toNat : Int)).foldl (fun r n => r.push (UInt8.ofNat n.toNat)) s = s ++ ⟨l.toArray⟩ := by
      intro l
      induction l with
      | nil => intro s; apply ByteArray.ext; simp
      | cons x r ih =>
        intro s
        rw [List.map_cons, List.foldl_cons, ih]
        apply ByteArray.ext
        simp
    rw [this]
    have e0 : ByteArray.empty ++ (⟨l.toArray⟩ : ByteArray) = ⟨l.toArray⟩ := by apply ByteArray.ext; simp
    rw [e0]
    rfl
  exact wp_value hrun (hk β _ w (hr.put o.dst (sv l) hd))
end

section
variable {g : Cx} {env : Env} {mem : Mem} {bnd : Bnd} {L : Res} {N : Act → World → Prop} {Q : Exit → Act → World → Prop} {dst : Option Tmp} {ty : TypeId} {pos : String} {af : Array Edge} {gd : Option (Nat × Bool)}
theorem atIndex {t : TypeId} {x j : Operand} (h : Nx g env mem bnd L (OneC g ⟨dst, .index t x j, ty, pos, af, gd⟩ N Q)) : Nx g env mem bnd L (OneC g ⟨dst, .index t x j, ty, pos, af, gd⟩ N Q) := h
theorem atAdd {t tt : TypeId} {x y : Operand} (h : Nx g env mem bnd L (OneC g ⟨dst, .binOp .add t x y tt, ty, pos, af, gd⟩ N Q)) : Nx g env mem bnd L (OneC g ⟨dst, .binOp .add t x y tt, ty, pos, af, gd⟩ N Q) := h
theorem atSlice {t : TypeId} {x : Operand} {lo hi mx : Option Operand} (h : Nx g env mem bnd L (OneC g ⟨dst, .slice t x lo hi mx, ty, pos, af, gd⟩ N Q)) : Nx g env mem bnd L (OneC g ⟨dst, .slice t x lo hi mx, ty, pos, af, gd⟩ N Q) := h
theorem atConv {s d : TypeId} {x : Operand} (h : Nx g env mem bnd L (OneC g ⟨dst, .convert s d x, ty, pos, af, gd⟩ N Q)) : Nx g env mem bnd L (OneC g ⟨dst, .convert s d x, ty, pos, af, gd⟩ N Q) := h
theorem atEsc {X : Type} {E : X → Env} {M : Mem} {B : X → Bnd} (h : ∀ b : X, Nx g (E b) M (B b) L N) : ∀ b : X, Nx g (E b) M (B b) L N := h
theorem atRem {t tt : TypeId} {x y : Operand} (h : Nx g env mem bnd L (OneC g ⟨dst, .binOp .rem t x y tt, ty, pos, af, gd⟩ N Q)) : Nx g env mem bnd L (OneC g ⟨dst, .binOp .rem t x y tt, ty, pos, af, gd⟩ N Q) := h
theorem atQuo {t tt : TypeId} {x y : Operand} (h : Nx g env mem bnd L (OneC g ⟨dst, .binOp .quo t x y tt, ty, pos, af, gd⟩ N Q)) : Nx g env mem bnd L (OneC g ⟨dst, .binOp .quo t x y tt, ty, pos, af, gd⟩ N Q) := h
theorem atHoIndex {T : World → Prop} {t : TypeId} {x j : Operand} (h : Nx g env mem bnd L (HoC g T ⟨dst, .index t x j, ty, pos, af, gd⟩ N)) : Nx g env mem bnd L (HoC g T ⟨dst, .index t x j, ty, pos, af, gd⟩ N) := h
theorem atHoSlice {T : World → Prop} {t : TypeId} {x : Operand} {lo hi mx : Option Operand} (h : Nx g env mem bnd L (HoC g T ⟨dst, .slice t x lo hi mx, ty, pos, af, gd⟩ N)) : Nx g env mem bnd L (HoC g T ⟨dst, .slice t x lo hi mx, ty, pos, af, gd⟩ N) := h
theorem atHoAdd {T : World → Prop} {t tt : TypeId} {x y : Operand} (h : Nx g env mem bnd L (HoC g T ⟨dst, .binOp .add t x y tt, ty, pos, af, gd⟩ N)) : Nx g env mem bnd L (HoC g T ⟨dst, .binOp .add t x y tt, ty, pos, af, gd⟩ N) := h
end
end Go.Proofs.Ytngfadijcpnblaa

/- Rules: whatever the evaluator knows to reckon; calls through interfaces; functions without a body. -/
namespace Go.Proofs.Ytngfadijcpnblaa
open Go.RowKit
section
variable {g : Cx} {β : Nat → Nat} {env : Env} {mem : Mem} {bnd : Bnd} {L : Res} {a : Act} {w : World} {N : Act → World → Prop} {Q : Exit → Act → World → Prop}
theorem Rel.toG (hr : Rel g β env mem bnd L a w) (w' : World) : RelG { g with F := [], os := w'.os, tape := w'.tape, output := w'.output } β ⟨env, [], [], 0, 0⟩ [] a w' :=
  RelG.mk' hr.defers hr.size hr.env rfl rfl rfl (by simpa [memSP, gmSP] using SatW.nil w')
theorem Nx.px {o : Oper} {x : SV} (hd : dstOk g.n o.dst = true) (hx : outV (pureX g.P env [] [] o.op) = some x) (hk : Nx g (putE o.dst x env) mem bnd L N) : Nx g env mem bnd L (OneC g o N Q) :=
  Nx.val hd (fun _ _ _ hr w' => outV_ok (pureX_ok (hr.toG w') o) hx) hk
theorem Nx.inv (ns ns' : List Nat) {o : Oper} {f : Nat} {us : List SV} {args : List Value} {Pre : List SP} {Post : Value → List SP → Prop} {L' : Res}
    (hc : calleeG g.P env o = some (f, us)) (ha : ∀ β, us.map (SV.den β) = args) (hd : dstOk g.n o.dst = true)
    (h : FnOk g.P f args Pre Post) (hp : pick ns L = some (Pre, L'))
    (hk : ∀ v Qs, Post v Qs → Nx g (putE o.dst (ofV v) env) mem bnd (ns'.zip Qs ++ L') N) : Nx g env mem bnd L (OneC g o N Q) := by
  intro β a w hr
  have hrun : (execOp a.eval o).run g.P w = .ok (.enter f args.toArray) w := by
    rw [calleeG_ok (hr.toG w) hc, ha, h.1]
  have hc := h.2 _ w (hr.picked hp)
  show o.wp g.P a w N Q
  unfold Oper.wp
  rw [hrun]
  refine hc.mono ?_
  rintro e w' ⟨v, Qs, rfl, h1, h2, h3, h4, h5⟩
  have hR := (hr.unpicked (ns := ns') h5 h2 h3 h4).put o.dst (ofV v) hd
  rw [ofV_den] at hR
  exact hk v Qs h1 β _ _ hR
theorem Nx.ext {o : Oper} {f : Nat} {us : List SV} {v : Value} (hc : calleeG g.P env o = some (f, us)) (hd : dstOk g.n o.dst = true) (hrun : ∀ β w, (callFunc f (us.map (SV.den β)).toArray).run g.P w = .ok (.value v) w)
    (hk : Nx g (putE o.dst (ofV v) env) mem bnd L N) : Nx g env mem bnd L (OneC g o N Q) := by
  intro β a w hr
  have h : (execOp a.eval o).run g.P w = .ok (.value v) w := by rw [calleeG_ok (hr.toG w) hc, hrun]
  refine wp_value h (hk β _ _ ?_)
  have := hr.put o.dst (ofV v) hd
  rwa [ofV_den] at this
end
section
variable {g : Cx} {env : Env} {mem : Mem} {bnd : Bnd} {L : Res} {N : Act → World → Prop} {Q : Exit → Act → World → Prop} {dst : Option Tmp} {ty : TypeId} {pos : String} {af : Array Edge} {gd : Option (Nat × Bool)}
theorem atTA {x : Operand} {s t : TypeId} {ok : Bool} (h : Nx g env mem bnd L (OneC g ⟨dst, .typeAssert x s t ok, ty, pos, af, gd⟩ N Q)) : Nx g env mem bnd L (OneC g ⟨dst, .typeAssert x s t ok, ty, pos, af, gd⟩ N Q) := h
theorem atInv {r : Operand} {n : String} {ars : Array Operand} {ts : Array TypeId} (h : Nx g env mem bnd L (OneC g ⟨dst, .call ⟨.invoke r n, ars, ts⟩, ty, pos, af, gd⟩ N Q)) : Nx g env mem bnd L (OneC g ⟨dst, .call ⟨.invoke r n, ars, ts⟩, ty, pos, af, gd⟩ N Q) := h
theorem atBin {op : BinOp} {t tt : TypeId} {x y : Operand} (h : Nx g env mem bnd L (OneC g ⟨dst, .binOp op t x y tt, ty, pos, af, gd⟩ N Q)) : Nx g env mem bnd L (OneC g ⟨dst, .binOp op t x y tt, ty, pos, af, gd⟩ N Q) := h
theorem atExt {x : Operand} {i : Nat} (h : Nx g env mem bnd L (OneC g ⟨dst, .extract x i, ty, pos, af, gd⟩ N Q)) : Nx g env mem bnd L (OneC g ⟨dst, .extract x i, ty, pos, af, gd⟩ N Q) := h
end
end Go.Proofs.Ytngfadijcpnblaa

/- Rules: slices of the call's own that begin anywhere in their blocks: reading, cutting, append. -/
namespace Go.Proofs.Ytngfadijcpnblaa
open Go.RowKit

/-- A slice of the call's own, wherever it begins. -/
def ownT (e : TypeId) (A : Option Addr) (n c sz : Nat) (cells : List Value) : SP := fun _ h =>
  cells.length = n * sz ∧ n ≤ c ∧ c ≤ maxLen ∧ ((n = 0 ∧ c = 0) ∨
    ∃ b off cur, A = some ⟨b, off, none⟩ ∧ h b = some (.cells cur e (0, 0)) ∧ off + c * sz ≤ cur.size ∧ ∀ j, j < n * sz → cur[off + j]? = cells[j]?)
theorem ownT_fit {e : TypeId} {A : Option Addr} {n c sz : Nat} {cells : List Value} {r h : PH} (hs : ownT e A n c sz cells r h) : n ≤ c ∧ c ≤ maxLen := ⟨hs.2.1, hs.2.2.1⟩
theorem ownT_rd {e : TypeId} {A : Option Addr} {n c sz : Nat} {cells : List Value} {r h : PH} (hs : ownT e A n c sz cells r h) : Rd h A n sz cells := by
  refine ⟨hs.1, fun hn => ?_⟩
  rcases hs.2.2.2 with ⟨h0, _⟩ | ⟨b, off, cur, h1, h2, _, h4⟩
  · omega
  · exact ⟨b, off, cur, e, (0, 0), h1, h2, h4⟩
theorem ownT_sees (e : TypeId) (A : Option Addr) (n c sz : Nat) (cells : List Value) : Sees (ownT e A n c sz cells) A n sz cells :=
  fun _ _ d hs => (ownT_rd hs).mono (PH.le_un_right d)
theorem ownT_share {e : TypeId} {A : Option Addr} {n c sz : Nat} {cells : List Value} : ∀ r h, r.dj h → ownT e A n c sz cells r h → rdS A n sz cells (r.un h) PH.em :=
  fun _ _ d hs => (ownT_rd hs).mono (PH.le_un_right d)
theorem ownT_nil (e : TypeId) (A : Option Addr) (sz : Nat) (r h : PH) : ownT e A 0 0 sz [] r h := ⟨by simp, Nat.le_refl _, Nat.zero_le _, .inl ⟨rfl, rfl⟩⟩
theorem own_T {e : TypeId} {A : Option Addr} {n c sz : Nat} {cells : List Value} {r h : PH} (hs : ownS e A n c sz cells r h) : ownT e A n c sz cells r h := by
  rcases hs.2 with ⟨rfl, rfl, rfl⟩ | ⟨b, cur, h1, h2, h3, h4, h5, h6⟩
  · exact ⟨hs.1, Nat.le_refl _, Nat.zero_le _, .inl ⟨rfl, rfl⟩⟩
  · refine ⟨hs.1, h3, h4, .inr ⟨b, 0, cur, h1, h2, by omega, fun j hj => ?_⟩⟩
    rw [← h6, List.getElem?_take, if_pos hj]
    simp
theorem ownT_cut {e : TypeId} {A : Option Addr} {n c sz : Nat} {cells : List Value} {r h : PH} (l k : Nat) (h1 : l ≤ k) (h2 : k ≤ n) (hs : ownT e A n c sz cells r h) :
    ownT e (resl A l c sz) (k - l) (c - l) sz ((cells.drop (l * sz)).take ((k - l) * sz)) r h := by
  obtain ⟨a1, a2, a3, a4⟩ := hs
  have hm : k * sz ≤ n * sz := Nat.mul_le_mul_right _ h2
  have hk : (k - l) * sz = k * sz - l * sz := Nat.sub_mul ..
  have hl : l * sz ≤ k * sz := Nat.mul_le_mul_right _ h1
  refine ⟨?_, by omega, by omega, ?_⟩
  · rw [List.length_take, List.length_drop, a1]; omega
  rcases a4 with ⟨rfl, rfl⟩ | ⟨b, off, cur, e1, e2, e3, e4⟩
  · exact .inl ⟨by omega, by omega⟩
  · by_cases hc : c = l
    · exact .inl ⟨by omega, by omega⟩
    · refine .inr ⟨b, off + l * sz, cur, ?_, e2, ?_, fun j hj => ?_⟩
      · unfold resl; rw [if_neg hc, e1, Option.map_some, add_plain']
      · have : (c - l) * sz = c * sz - l * sz := Nat.sub_mul ..
        have : l * sz ≤ c * sz := Nat.mul_le_mul_right _ (by omega)
        omega
      · rw [Nat.add_assoc, e4 _ (by omega), List.getElem?_take, if_pos hj, List.getElem?_drop]

theorem setCells_heap (b : Nat) (e : TypeId) : ∀ (vs : List Value) (o : Nat) (w : World) (cur : Array Value), w.heap[b]? = some (.cells cur e (0, 0)) → o + vs.length ≤ cur.size →
    ∃ cur', (w.setCells b o vs).heap[b]? = some (.cells cur' e (0, 0)) ∧ cur'.size = cur.size ∧ ∀ k, cur'[k]? = if o ≤ k ∧ k < o + vs.length then vs[k - o]? else cur[k]?
  | [], o, w, cur, h, _ => ⟨cur, h, rfl, fun k => by rw [if_neg (by simp only [List.length_nil]; omega)]⟩
  | v :: r, o, w, cur, h, hl => by
    simp only [List.length_cons] at hl
    have h1 : (w.setCell ⟨b, o, none⟩ v).heap[b]? = some (.cells (cur.setIfInBounds o v) e (0, 0)) := by
      unfold World.setCell
      simp [Array.getElem?_modify, h]
    obtain ⟨cur', a1, a2, a3⟩ := setCells_heap b e r (o + 1) (w.setCell ⟨b, o, none⟩ v) (cur.setIfInBounds o v) h1 (by simp; omega)
    refine ⟨cur', a1, by simpa using a2, fun k => ?_⟩
    rw [a3 k]
    simp only [List.length_cons]
    by_cases e1 : k = o
    · subst e1
      rw [if_neg (by omega), if_pos (by omega), Array.getElem?_setIfInBounds, if_pos rfl, if_pos (by omega), Nat.sub_self]
      rfl
    · by_cases e2 : o + 1 ≤ k ∧ k < o + 1 + r.length
      · rw [if_pos e2, if_pos (by omega), show k - o = (k - (o + 1)) + 1 by omega]; rfl
      · rw [if_neg e2, if_neg (by omega)]
        rw [Array.getElem?_setIfInBounds, if_neg (fun h : o = k => e1 h.symm)]
theorem setCells_other (b : Nat) : ∀ (vs : List Value) (o : Nat) (w : World) (k : Nat), k ≠ b → (w.setCells b o vs).heap[k]? = w.heap[k]?
  | [], _, _, _, _ => rfl
  | v :: r, o, w, k, h => by
    show ((w.setCell ⟨b, o, none⟩ v).setCells b (o + 1) r).heap[k]? = _
    rw [setCells_other b r (o + 1) _ k h]
    unfold World.setCell
    simp only [Array.getElem?_modify]
    rw [if_neg (fun e : b = k => h e.symm)]
theorem setCells_rest (b : Nat) : ∀ (vs : List Value) (o : Nat) (w : World), (w.setCells b o vs).os = w.os ∧ (w.setCells b o vs).tape = w.tape ∧ (w.setCells b o vs).output = w.output
  | [], _, _ => ⟨rfl, rfl, rfl⟩
  | v :: r, o, w => setCells_rest b r (o + 1) (w.setCell ⟨b, o, none⟩ v)
theorem own_appendT {L : List SP} {w : World} {P : Program} {t tx ty e : TypeId} {i : TypeInfo} {z : Value} {A : Option Addr} {n c : Nat} {cells : List Value} (ht : P.underlying t = some (.slice e)) (hi : P.info? e = some i) (hz : i.zero = some z)
    (hzs : z.cells.size = i.size) (H : SatW (ownT e A n c i.size cells :: L) w) (x : Value) (m : Nat) (news : List Value) (hsrc : Src P i.size tx x m news w) (hm : 0 < m)
    (h63 : n + m ≤ maxLen) (hbytes : (n + m) * i.bytes ≤ 140737488355328) :
    ∃ A' c'' w', (Builtin.append_ #[t, tx] ty #[.slice A n c, x]).run P w = .ok (.slice A' (n + m) c'') w' ∧ w'.os = w.os ∧ w'.tape = w.tape ∧ w'.output = w.output ∧ SatW (ownT e A' (n + m) c'' i.size (cells ++ news) :: L) w' := by
  obtain ⟨q1, q2, q3, q4⟩ := H.pure (fun _ _ h => (⟨h.1, h.2.1, h.2.2.1, trivial⟩ : cells.length = n * i.size ∧ n ≤ c ∧ c ≤ maxLen ∧ True))
  have hlen : (cells ++ news).length = (n + m) * i.size := by rw [List.length_append, q1, hsrc.newsLen, Nat.add_mul]
  have hrd : Rd (hw w) A n i.size cells := by
    obtain ⟨r, h, a, hb, cc, r1, k1, k2, a1, a2, a3, a4, a5, a6⟩ := H
    exact (ownT_rd a5).mono (PH.le_trans a2 hb)
  by_cases hroom : n + m ≤ c
  · -- there is room
    have H' := H
    obtain ⟨r, h, a, hb, cc, r1, k1, k2, a1, a2, a3, a4, a5, a6⟩ := H'
    rcases a5.2.2.2 with ⟨_, h0⟩ | ⟨b, off, cur, rfl, h2, h3, h4⟩
    · omega
    have hbw : w.heap[b]? = some (.cells cur e (0, 0)) := hb _ _ (a2 _ _ h2)
    have hfit : off + n * i.size + news.length ≤ cur.size := by
      have : (n + m) * i.size ≤ c * i.size := Nat.mul_le_mul_right _ hroom
      rw [Nat.add_mul] at this
      rw [hsrc.newsLen]; omega
    have hrun := run_append_room_src (P := P) w t tx ty e i ht hi b off n c x m news hsrc hroom (fun j hj => by
      unfold World.cell?
      simp only
      rw [hbw]
      simp only [if_true]
      rw [Array.getElem?_eq_getElem (by omega)]
      rfl) (fun j hj => by
      unfold World.frozen?
      simp only
      rw [hbw]
      simp)
    obtain ⟨cur', c1, c2, c3⟩ := setCells_heap b e news (off + n * i.size) w cur hbw hfit
    obtain ⟨o1, o2, o3⟩ := setCells_rest b news (off + n * i.size) w
    refine ⟨_, _, _, hrun, o1, o2, o3, ?_⟩
    have hblk : SatW (blk b (.cells cur e (0, 0)) :: L) w := ⟨r, h, a, hb, cc, r1, k1, k2, a1, a2, a3, a4, h2, a6⟩
    have := hblk.set (w' := w.setCells b (off + n * i.size) news) (fun k hk => setCells_other b news _ w k hk) c1
    refine this.imp fun r h hs => ⟨hlen, hroom, q3, .inr ⟨b, off, cur', rfl, hs, by rw [c2]; exact h3, fun j hj => ?_⟩⟩
    rw [c3]
    by_cases hj2 : j < n * i.size
    · rw [if_neg (by omega), h4 j hj2, List.getElem?_append_left (by omega)]
    · rw [if_pos (by rw [hsrc.newsLen]; rw [Nat.add_mul] at hj; omega), List.getElem?_append_right (by omega), q1]
      congr 1
      omega
  · -- there is none
    have hold : (Builtin.firstCells i.size n (.slice A n c)).run P w.drew = .ok cells.toArray w.drew := by
      by_cases hn : 0 < n
      · obtain ⟨b, o, cs, t', fr, rfl, hbk, hc⟩ := hrd.2 hn
        refine run_firstCells_some (P := P) w.drew i.size n ⟨b, o, none⟩ n c cells q1 fun j v hv => ?_
        have hj : j < n * i.size := by rw [← q1]; exact (List.getElem?_eq_some_iff.1 hv).1
        have : w.cell? ((⟨b, o, none⟩ : Addr).add j) = some v := by
          have hbk' : w.heap[b]? = some (.cells cs t' fr) := hbk
          rw [add_plain', cell_of_row w _ _ _ _ _ hbk', hc j hj, hv]
        simpa using this
      · have hn0 : n = 0 := by omega
        subst hn0
        have hx : cells = [] := List.eq_nil_of_length_eq_zero (by simpa using q1)
        subst hx
        cases A with
        | none => exact run_firstCells_none w.drew i.size 0 0 c
        | some ad => exact run_firstCells_some (P := P) w.drew i.size 0 ad 0 c [] (by simp) (fun j v h => by simp at h)
    have hrun := run_append_grow_src (P := P) w t tx ty e i z ht hi hz A n c cells hold x m news hsrc (by omega) (by simp only [maxLen] at h63; omega)
      (growslice_fits (by omega) hbytes)
    have hge := grownCap_ge w (n + m) c e
    have hcm : grownCap w (n + m) c e ≤ maxLen := grownCap_le_maxLen w (n + m) c e h63
    refine ⟨_, _, _, hrun, rfl, rfl, rfl, ?_⟩
    have h1 := (H.tail.heap (w' := w.drew) rfl).alloc (.cells ((cells ++ news).toArray ++ Builtin.zeroCells z.cells (grownCap w (n + m) c e - (n + m))) e)
    refine h1.imp fun r h hs => ⟨hlen, hge, hcm, .inr ⟨_, 0, _, rfl, hs, ?_, fun j hj => ?_⟩⟩
    · simp only [Array.size_append, List.size_toArray, size_zeroCells, hzs, hlen, Nat.zero_add]
      rw [← Nat.add_mul]
      exact Nat.mul_le_mul_right _ (by omega)
    · rw [Nat.zero_add, Array.getElem?_append_left (by simpa [hlen] using hj)]
      simp
section
variable {g : Cx} {β : Nat → Nat} {env : Env} {mem : Mem} {bnd : Bnd} {L : Res} {a : Act} {w : World} {N : Act → World → Prop} {Q : Exit → Act → World → Prop}
/-- append of a row of the call's own to such a slice. -/
theorem Nx.appendT (nm : Nat) {o : Oper} {t e : TypeId} {x y : Operand} {A : Option Addr} {n c : Nat} {L' : Res} {sz l m c' tt : Nat} {cells news : List Value} {by_ : Nat} {cs : List Ce}
    (ho : o.op = .call ⟨.builtin .append, #[x, y], #[t, t]⟩) (hx : ev env x = some (.c (.v (.slice A n c)))) (hy : ev env y = some (.c (.locs l 0 m c'))) (hl : lookM mem l = some (tt, cs)) (hv : cesV bnd cs = some news)
    (ht : g.P.underlying t = some (.slice e)) (he : elemI g.P e = some (sz, by_)) (hd : dstOk g.n o.dst = true)
    (hp : takeR nm L = some (ownT e A n c sz cells, L')) (hlen : Nat.beq news.length (m * sz) = true) (hone : (news.all fun u => u.oneCell') = true) (hm : 0 < m) (h63 : n + m ≤ maxLen) (hbytes : (n + m) * by_ ≤ 140737488355328)
    (hk : ∀ A' c'', Nx g (putE o.dst (.c (.v (.slice A' (n + m) c''))) env) mem bnd ((nm, ownT e A' (n + m) c'' sz (cells ++ news)) :: L') N) : Nx g env mem bnd L (OneC g o N Q) := by
  intro β a w hr
  obtain ⟨ei, z, hei, hz, hzs, hpos, hes, hby⟩ := elemI_ok he
  subst hes
  subst hby
  have hsat := hr.picked (takeR_pick hp)
  have hblk := hr.block hl
  have hcv : cellsOf β cs = news.toArray := by unfold cellsOf; rw [cesV_den hr.bnd hv]
  have hsrc : Src g.P ei.size t (.slice (some ⟨β l, 0, none⟩) m c') m news w := Src.ofSlice w ht ⟨β l, 0, none⟩ m c' news (by simpa using hlen) (fun j u hu => by
    rw [add_plain', Nat.zero_add, cell_of_row w _ _ _ _ _ hblk, hcv]
    simpa using hu) (by simpa using hone)
  obtain ⟨A', c'', w', hrun, h1, h2, h3, h4⟩ := own_appendT (P := g.P) (ty := o.type) ht hei hz hzs hsat _ m news hsrc hm h63 hbytes
  have hrun' : (execOp a.eval o).run g.P w = .ok (.value (.slice A' (n + m) c'')) w' := by
    have e1 : a.eval x = .slice A n c := hr.ev hx
    have e2 : a.eval y = .slice (some ⟨β l, 0, none⟩) m c' := hr.ev hy
    simp [execOp, ho, resolve, e1, e2, invoke, builtin, hrun]
  refine wp_value hrun' (hk A' c'' β _ _ ?_)
  exact (hr.unpicked (ns := [nm]) (Ps := [_]) h4 h1 h2 h3).put o.dst (.c (.v (.slice A' (n + m) c''))) hd
end
end Go.Proofs.Ytngfadijcpnblaa

/- Rules: assertions made of many; a store into a block of which an assertion speaks. -/
namespace Go.Proofs.Ytngfadijcpnblaa
open Go.RowKit

/-! ### Assertions made of many -/
theorem Sat.mem {P : SP} : ∀ {L : List SP} {r h : PH}, Sat L r h → P ∈ L → ∃ r1 h1, PH.le r1 r ∧ PH.le h1 h ∧ P r1 h1
  | [], _, _, _, hm => by cases hm
  | Q :: L, r, h, ⟨r1, h1, h2, a1, a2, a3, a4, a5, a6⟩, hm => by
    rcases List.mem_cons.1 hm with rfl | hm
    · exact ⟨r1, h1, a1, a2, a5⟩
    · obtain ⟨r3, h3, b1, b2, b3⟩ := a6.mem hm
      exact ⟨r3, h3, b1, PH.le_trans b2 a3, b3⟩
theorem star_at {P : SP} {L : List SP} (hm : P ∈ L) {b p : Nat} {ys : List Value} (hs : SeesAt P b p ys) : SeesAt (star L) b p ys := by
  intro r h d hS
  obtain ⟨r1, h1, a, c, e⟩ := Sat.mem (show Sat L r h from hS) hm
  obtain ⟨cs, t, fr, h2, h3⟩ := hs r1 h1 (PH.dj_mono d a c) e
  exact ⟨cs, t, fr, PH.un_le (PH.le_trans a (PH.le_un_left _ _)) (PH.le_trans c (PH.le_un_right d)) _ _ h2, h3⟩
theorem star_sees {P : SP} {L : List SP} (hm : P ∈ L) {A : Option Addr} {n sz : Nat} {cells : List Value} (hs : Sees P A n sz cells) : Sees (star L) A n sz cells := by
  intro r h d hS
  obtain ⟨r1, h1, a, c, e⟩ := Sat.mem (show Sat L r h from hS) hm
  exact (hs r1 h1 (PH.dj_mono d a c) e).mono (PH.un_le (PH.le_trans a (PH.le_un_left _ _)) (PH.le_trans c (PH.le_un_right d)))
theorem blk_at (b t : Nat) (ys : List Value) : SeesAt (blk b (.cells ys.toArray t (0, 0))) b 0 ys := by
  intro r h d hs
  exact ⟨_, _, _, PH.le_un_right d _ _ hs, fun j hj => by simp⟩
theorem Pers.at {S : SP} {b p : Nat} {ys : List Value} (hs : SeesAt S b p ys) : SeesAt S b p ys := hs
/-- A list of assertions that is had from another one by its order. -/
theorem star_perm {L L' : List SP} (p : L.Perm L') : ∀ r h, star L r h → star L' r h := fun _ _ H => Sat.perm p H

/-! ### A store -/
def updH (h : PH) (b : Nat) (o : Obj) : PH := fun n => if n = b then some o else h n
/-- What an assertion becomes when a cell of a block of its own is stored to. -/
def SetAt (S : SP) (b p : Nat) (y : Value) (S' : SP) : Prop := ∀ r h, S r h → ∃ cs t, h b = some (.cells cs t (0, 0)) ∧ p < cs.size ∧ S' r (updH h b (.cells (cs.setIfInBounds p y) t (0, 0)))
theorem blk_set {b t p : Nat} {ys : List Value} {y : Value} (hp : p < ys.length) : SetAt (blk b (.cells ys.toArray t (0, 0))) b p y (blk b (.cells (ys.set p y).toArray t (0, 0))) := by
  intro r h hs
  refine ⟨_, _, hs, by simpa using hp, ?_⟩
  show updH h b _ b = _
  unfold updH
  rw [if_pos rfl]
  simp
theorem ownT_set {e : TypeId} {b off n c sz : Nat} {cells : List Value} {j : Nat} {y : Value} (hj : j < n * sz) : SetAt (ownT e (some ⟨b, off, none⟩) n c sz cells) b (off + j) y (ownT e (some ⟨b, off, none⟩) n c sz (cells.set j y)) := by
  rintro r h ⟨h1, h2, h3, h4⟩
  have hnc : n * sz ≤ c * sz := Nat.mul_le_mul_right _ h2
  rcases h4 with ⟨rfl, _⟩ | ⟨b', off', cur, e1, e2, e3, e4⟩
  · omega
  · cases e1
    refine ⟨cur, e, e2, by omega, by simpa using h1, h2, h3, .inr ⟨b, off, _, rfl, by unfold updH; rw [if_pos rfl], by simpa using e3, fun k hk => ?_⟩⟩
    rw [Array.getElem?_setIfInBounds, List.getElem?_set]
    by_cases ek : j = k
    · subst ek
      rw [if_pos rfl, if_pos rfl, if_pos (by omega), if_pos (by omega)]
    · rw [if_neg (by omega), if_neg ek, e4 k hk]
theorem Sat.set {L : List SP} {b p : Nat} {y : Value} : ∀ {k : Nat} {P P' : SP} {r h : PH}, L[k]? = some P → SetAt P b p y P' → Sat L r h → ∃ cs t, h b = some (.cells cs t (0, 0)) ∧ p < cs.size ∧ Sat (L.set k P') r (updH h b (.cells (cs.setIfInBounds p y) t (0, 0))) := by
  induction L with
  | nil => intro k P P' r h hk; simp at hk
  | cons Q L ih =>
    intro k P P' r h hk hs hS
    obtain ⟨r1, h1, h2, a1, a2, a3, a4, a5, a6⟩ := hS
    cases k with
    | zero =>
      simp only [List.getElem?_cons_zero, Option.some.injEq] at hk
      subst hk
      obtain ⟨cs, t, e1, e2, e3⟩ := hs r1 h1 a5
      have hn2 : h2 b = none := (a4 b).resolve_left (by rw [e1]; simp)
      refine ⟨cs, t, a2 _ _ e1, e2, r1, _, h2, a1, ?_, ?_, ?_, e3, a6⟩
      · intro n o ho
        unfold updH at ho ⊢
        split at ho
        · rw [if_pos (by assumption)]; exact ho
        · rw [if_neg (by assumption)]; exact a2 _ _ ho
      · intro n o ho
        unfold updH
        by_cases e : n = b
        · subst e; rw [hn2] at ho; cases ho
        · rw [if_neg e]; exact a3 _ _ ho
      · intro n
        by_cases e : n = b
        · subst e; exact .inr hn2
        · unfold updH; rw [if_neg e]; exact a4 n
    | succ k =>
      simp only [List.getElem?_cons_succ] at hk
      obtain ⟨cs, t, e1, e2, e3⟩ := ih hk hs a6
      have hn1 : h1 b = none := (a4 b).resolve_right (by rw [e1]; simp)
      refine ⟨cs, t, a3 _ _ e1, e2, r1, h1, _, a1, ?_, ?_, ?_, a5, e3⟩
      · intro n o ho
        unfold updH
        by_cases e : n = b
        · subst e; rw [hn1] at ho; cases ho
        · rw [if_neg e]; exact a2 _ _ ho
      · intro n o ho
        unfold updH at ho ⊢
        split at ho
        · rw [if_pos (by assumption)]; exact ho
        · rw [if_neg (by assumption)]; exact a3 _ _ ho
      · intro n
        by_cases e : n = b
        · subst e; exact .inl hn1
        · unfold updH; rw [if_neg e]; exact a4 n
theorem star_set {L : List SP} {k b p : Nat} {P P' : SP} {y : Value} (hk : L[k]? = some P) (hs : SetAt P b p y P') : SetAt (star L) b p y (star (L.set k P')) :=
  fun _ _ hS => Sat.set hk hs hS
theorem SetAt.mono {S S' S2 : SP} {b p : Nat} {y : Value} (h : SetAt S b p y S') (k : ∀ r m, S' r m → S2 r m) : SetAt S b p y S2 :=
  fun r m hs => let ⟨cs, t, e1, e2, e3⟩ := h r m hs; ⟨cs, t, e1, e2, k _ _ e3⟩
theorem SatW.setAt {S S' : SP} {L : List SP} {b p : Nat} {y : Value} {w : World} (H : SatW (S :: L) w) (hs : SetAt S b p y S') : (∃ cs t, w.heap[b]? = some (.cells cs t (0, 0)) ∧ p < cs.size) ∧ SatW (S' :: L) (w.setCell ⟨b, p, none⟩ y) := by
  obtain ⟨r, h, a, hb, c, hS⟩ := H
  obtain ⟨cs, t, e1, e2, e3⟩ := Sat.set (k := 0) (L := S :: L) rfl hs hS
  have hbw : w.heap[b]? = some (.cells cs t (0, 0)) := hb _ _ e1
  have hrb : r b = none := (c b).resolve_right (by rw [e1]; simp)
  have hset : (w.setCell ⟨b, p, none⟩ y).heap[b]? = some (.cells (cs.setIfInBounds p y) t (0, 0)) := by
    unfold World.setCell
    simp [Array.getElem?_modify, hbw]
  have hoth : ∀ n, n ≠ b → (w.setCell ⟨b, p, none⟩ y).heap[n]? = w.heap[n]? := fun n hn => setCells_other b [y] p w n hn
  refine ⟨⟨cs, t, hbw, e2⟩, r, _, ?_, ?_, ?_, e3⟩
  · intro n o ho
    show (w.setCell ⟨b, p, none⟩ y).heap[n]? = _
    by_cases e : n = b
    · subst e; rw [hrb] at ho; cases ho
    · rw [hoth n e]; exact a _ _ ho
  · intro n o ho
    show (w.setCell ⟨b, p, none⟩ y).heap[n]? = _
    unfold updH at ho
    by_cases e : n = b
    · subst e; rw [if_pos rfl] at ho; rw [hset]; exact ho
    · rw [if_neg e] at ho; rw [hoth n e]; exact hb _ _ ho
  · intro n
    by_cases e : n = b
    · subst e; exact .inl hrb
    · unfold updH; rw [if_neg e]; exact c n
section
variable {g : Cx} {β : Nat → Nat} {env : Env} {mem : Mem} {bnd : Bnd} {L : Res} {a : Act} {w : World} {N : Act → World → Prop} {Q : Exit → Act → World → Prop}
/-- A store of one cell. -/
theorem Nx.storeW (nm : Nat) {S : SP} (S' : SP) {o : Oper} {t : TypeId} {x z : Operand} {b q : Nat} {L' : Res} {s : SV} {y : Value} {c : Ce}
    (ho : o.op = .store t x z) (hx : ev env x = some (.c (.v (.pointer (some ⟨b, q, none⟩))))) (hz : ev env z = some s) (hcs : cellsS s = some [c]) (hv : cesV bnd [c] = some [y]) (ht : (g.P.info? t).map (·.size) = some 1)
    (hone : y.oneCell' = true) (hd : dstOk g.n o.dst = true) (hp : takeR nm L = some (S, L')) (hs : SetAt S b q y S')
    (hk : Nx g (putE o.dst (.c (.v undef)) env) mem bnd ((nm, S') :: L') N) : Nx g env mem bnd L (OneC g o N Q) := by
  intro β a w hr
  obtain ⟨⟨cs, tt, hb, hlt⟩, hsat⟩ := (hr.picked (takeR_pick hp)).setAt hs
  obtain ⟨i, hi, hsz⟩ : ∃ i, g.P.info? t = some i ∧ i.size = 1 := by
    cases hi : g.P.info? t with
    | none => rw [hi] at ht; cases ht
    | some i => rw [hi] at ht; exact ⟨i, rfl, by simpa using ht⟩
  have hcells : (s.den β).cells = #[y] := by
    rw [cellsS_den hcs β]
    unfold cellsOf
    rw [cesV_den hr.bnd hv]
  have e1 : a.eval x = .pointer (some ⟨b, q, none⟩) := hr.ev hx
  have e2 : a.eval z = s.den β := hr.ev hz
  have hrun := run_storeCells_at g.P b q tt [y] 0 cs w hb (by simp; omega) (by simpa using hone)
  have hst := run_storeCells_cells (P := g.P) b q [y] 0 w (fun j hj => by
    have : j = 0 := by simpa using hj
    subst this
    unfold World.cell?
    simp only
    rw [hb]
    simp only [if_true, Nat.add_zero]
    rw [Array.getElem?_eq_getElem hlt]
    rfl) (fun j hj => by
    unfold World.frozen?
    simp only
    rw [hb]
    simp) (by simpa using hone)
  have hrun : (storeCells ⟨b, q, none⟩ [y]).run g.P w = .ok () (w.setCell ⟨b, q, none⟩ y) := by
    simpa [storeCells, World.setCells] using hst
  have h5 : SatW ([S'] ++ (memSP β mem ++ (L'.map (·.2) ++ g.F))) (w.setCell ⟨b, q, none⟩ y) := hsat
  refine wp_skip' (w' := w.setCell ⟨b, q, none⟩ y) ?_ (hk β _ _ ((hr.unpicked (ns := [nm]) (Ps := [_]) h5 rfl rfl rfl).put o.dst (.c (.v undef)) hd))
  have e3 : (s.den β).cells.size = i.size := by rw [hcells, hsz]; rfl
  have e4 : (s.den β).cells.toList = [y] := by rw [hcells]
  simp [execOp, ho, e1, e2, Instr.storeAt, Instr.sureAddr, storeVar, sizeOf, typeInfo, hi, e3, e4, hrun]
end
end Go.Proofs.Ytngfadijcpnblaa

/- Regions whose order is drawn, with several that act ready at once: a plan is a tree, each order of it is met. -/
namespace Go.Proofs.Ytngfadijcpnblaa
open Go.RowKit

inductive PF where
  | nil
  | pure (i : Nat) (r : PF)
  | held (i : Nat) (r : PF)
  /-- One that acts, the plan behind it, and what else may come first. -/
  | alt (i : Nat) (keep : Bool) (r o : PF)

section
variable {P : Program} {ops : Array Oper} {Q : Exit → Act → World → Prop} {S T : World → Prop} {late : Nat → Bool}
def planRunF (P : Program) (ops : Array Oper) (Q : Exit → Act → World → Prop) (S : World → Prop) : PF → Bool → Act → World → Prop
  | .nil, false, a, w => Q .normal a w
  | .nil, true, _, _ => True
  | .pure i r, _, a, w => ∃ o v, ops[i]? = some o ∧ YieldsIf P ops (fun _ => True) o v a ∧ planRunF P ops Q S r false (a.put o.dst v) w
  | .held i r, _, a, w => ∃ o v, ops[i]? = some o ∧ YieldsIf P ops S o v a ∧ S w ∧ planRunF P ops Q S r false (a.put o.dst v) w
  | .alt i keep r q, _, a, w => (∃ o, ops[i]? = some o ∧
      (Region.wanted o (yielded ops a.tmps) = true ∧ o.wp P a w (fun a' w' => (keep = true → S w → S w') ∧ planRunF P ops Q S r false a' w') Q ∨ Region.wanted o (yielded ops a.tmps) = false ∧ planRunF P ops Q S r false (a.put o.dst undef) w)) ∧ planRunF P ops Q S q true a w
def isLateF : PF → Nat → Bool
  | .nil, _ => false
  | .pure _ r, j => isLateF r j
  | .held _ r, j => isLateF r j
  | .alt i keep r q, j => (match keep with | true => false | false => Nat.beq i j) || isLateF r j || isLateF q j
def idsF : PF → List Nat
  | .alt i _ _ q => i :: idsF q
  | _ => []
def planOkF (ops : Array Oper) (late : Nat → Bool) : PF → Bool → Nat → Array Bool → Bool
  | .nil, false, n, listed => Nat.beq n 0 && (Region.ready .any ops listed).isEmpty
  | .nil, true, _, _ => true
  | .pure i r, false, n + 1, listed => (Region.ready .any ops listed).contains i && Region.free .any ops listed i && planOkF ops late r false n (listed.setIfInBounds i true)
  | .held i r, false, n + 1, listed => (Region.ready .any ops listed).contains i && Region.free .any ops listed i && lateWait ops late i && planOkF ops late r false n (listed.setIfInBounds i true)
  | .alt i keep r q, b, n + 1, listed => (b || Region.ready .any ops listed == idsF (.alt i keep r q)) && (late i == !keep) && planOkF ops late r false n (listed.setIfInBounds i true) && planOkF ops late q true (n + 1) listed
  | _, _, _, _ => false

theorem plan_soundF (hsel : Region.noSelect ops = true) (hQ : ∀ c a w, ¬ Q (.panic c) a w) : ∀ (p : PF),
    (∀ (n : Nat) (listed : Array Bool) (a : Act) (w : World), planOkF ops late p false n listed = true → planRunF P ops Q S p false a w → wpX P ops Q S late n listed a w) ∧
    (∀ (n : Nat) (listed : Array Bool) (a : Act) (w : World), planOkF ops late p true (n + 1) listed = true → planRunF P ops Q S p true a w → ∀ i ∈ idsF p, wpOp P ops Q i (fun a' w' => (late i = false → S w → S w') ∧ wpX P ops Q S late n (listed.setIfInBounds i true) a' w') a w)
  | .nil => ⟨fun n listed a w hp h => by
      simp only [planOkF, Bool.and_eq_true, List.isEmpty_iff, Nat.beq_eq] at hp
      obtain ⟨rfl, hp⟩ := hp
      exact ⟨hp, h⟩, fun n listed a w _ _ i hi => by cases hi⟩
  | .pure i r => ⟨fun n listed a w hp h => by
      cases n with
      | zero => cases hp
      | succ n =>
        simp only [planOkF, Bool.and_eq_true] at hp
        obtain ⟨o, v, ho, hy, hr⟩ := h
        refine wpX_first ho (Region.noSelect_spec hsel) (fun c a w hq => absurd hq (hQ c _ w)) (T := fun _ => True) (fun _ _ _ _ _ _ _ _ => trivial) n listed a w (Region.free_spec ho hp.1.2) (by simpa using hp.1.1) hy trivial ?_
        exact (plan_soundF hsel hQ r).1 n _ _ w hp.2 hr, fun n listed a w _ _ i hi => by cases hi⟩
  | .held i r => ⟨fun n listed a w hp h => by
      cases n with
      | zero => cases hp
      | succ n =>
        simp only [planOkF, Bool.and_eq_true] at hp
        obtain ⟨o, v, ho, hy, hS, hr⟩ := h
        refine wpX_first ho (Region.noSelect_spec hsel) (fun c a w hq => absurd hq (hQ c _ w)) (T := S) (fun j oj hj hno w w' hw hk => ?_) n listed a w (Region.free_spec ho hp.1.1.2) (by simpa using hp.1.1.1) hy hS ?_
        · refine hk ?_ hw
          have hl := hp.1.2
          simp only [lateWait, List.all_eq_true, List.mem_range] at hl
          have h1 := hl j (Array.getElem?_eq_some_iff.1 hj).1
          simp only [hj, Bool.or_eq_true, Bool.not_eq_true'] at h1
          rcases h1 with h1 | h1
          · exact h1
          · obtain ⟨e, he, hb⟩ := Array.any_eq_true'.1 h1
            simp only [Bool.and_eq_true, beq_iff_eq] at hb
            exact absurd hb.2 (hno e he hb.1)
        · exact (plan_soundF hsel hQ r).1 n _ _ w hp.2 hr, fun n listed a w _ _ i hi => by cases hi⟩
  | .alt i keep r q => by
    have key : ∀ (b : Bool) (n : Nat) (listed : Array Bool) (a : Act) (w : World), planOkF ops late (.alt i keep r q) b (n + 1) listed = true → planRunF P ops Q S (.alt i keep r q) b a w →
        ∀ j ∈ idsF (.alt i keep r q), wpOp P ops Q j (fun a' w' => (late j = false → S w → S w') ∧ wpX P ops Q S late n (listed.setIfInBounds j true) a' w') a w := by
      intro b n listed a w hp h j hj
      simp only [planOkF, Bool.and_eq_true, beq_iff_eq] at hp
      simp only [planRunF] at h
      obtain ⟨⟨o, ho, h1⟩, h2⟩ := h
      rcases List.mem_cons.1 hj with rfl | hj
      · unfold wpOp
        simp only [ho]
        rcases h1 with ⟨hw, h1⟩ | ⟨hw, h1⟩
        · rw [if_pos hw]
          left
          refine Oper.wp_mono (fun a' w' h3 => ⟨fun hl hS => h3.1 (by rw [hp.1.1.2] at hl; simpa using hl) hS, (plan_soundF hsel hQ r).1 n _ a' w' hp.1.2 h3.2⟩) h1
        · rw [if_neg (by rw [hw]; simp)]
          exact ⟨fun _ h => h, (plan_soundF hsel hQ r).1 n _ _ w hp.1.2 h1⟩
      · exact (plan_soundF hsel hQ q).2 n listed a w hp.2 h2 j hj
    refine ⟨fun n listed a w hp h => ?_, fun n listed a w hp h => key true n listed a w hp h⟩
    cases n with
    | zero => simp [planOkF] at hp
    | succ n =>
      have hk := key false n listed a w hp h
      simp only [planOkF, Bool.and_eq_true, beq_iff_eq, Bool.false_or] at hp
      rw [← hp.1.1.1] at hk
      exact ⟨fun h0 => (by rw [hp.1.1.1] at h0; cases h0), hk⟩
/-- A row of steps ahead of a tree. -/
def PF.pre : List PI → PF → PF
  | [], p => p
  | .pure i :: r, p => .pure i (PF.pre r p)
  | .held i :: r, p => .held i (PF.pre r p)
  | .ex i keep :: r, p => .alt i keep (PF.pre r p) .nil
theorem not_letsN {N : Act → World → Prop} : ¬ LetsOut (endN N) := fun h => by
  obtain ⟨_, _, h⟩ := h
  exact h
theorem wp_endN {N K : Act → World → Prop} {o : Oper} {a : Act} {w : World} (h : o.wp P a w K (endN N)) : o.wp P a w K Q := by
  unfold Oper.wp at *
  generalize (execOp a.eval o).run P w = r at *
  cases r with
  | ok n w' =>
    cases n <;> simp only [Oper.upon] at h ⊢ <;>
      first
        | exact h
        | exact Calls.mono h (fun e w'' he => by cases e <;> first | exact he | exact he.elim | exact absurd he not_letsN)
  | halt x w' => cases x <;> simp only [Oper.upon] at h ⊢ <;> first | exact h | exact h.elim
theorem runF_pre {N : Act → World → Prop} {p : PF} (hN : ∀ a w, N a w → planRunF P ops Q S p false a w) : ∀ (seg : List PI) (a : Act) (w : World), planRun P ops (endN N) S seg a w → planRunF P ops Q S (PF.pre seg p) false a w
  | [], a, w, h => hN a w h
  | .pure i :: r, a, w, ⟨o, v, ho, hy, h⟩ => ⟨o, v, ho, hy, runF_pre hN r _ w h⟩
  | .held i :: r, a, w, ⟨o, v, ho, hy, hs, h⟩ => ⟨o, v, ho, hy, hs, runF_pre hN r _ w h⟩
  | .ex i keep :: r, a, w, ⟨o, ho, h⟩ => by
    refine ⟨⟨o, ho, ?_⟩, trivial⟩
    rcases h with ⟨hw, h⟩ | ⟨hw, h⟩
    · refine .inl ⟨hw, ?_⟩
      have h2 := Oper.wp_mono (fun a' w' h3 => (⟨h3.1, runF_pre hN r a' w' h3.2⟩ : (keep = true → S w → S w') ∧ planRunF P ops Q S (PF.pre r p) false a' w')) h
      exact wp_endN h2
    · exact .inr ⟨hw, runF_pre hN r _ w h⟩
end

/-- What is to be met of a tree, upon a state. -/
def endF (g : Cx) (ops : Array Oper) (H : Held) (b : Bool) (p : PF) (k : List Item) : Act → World → Prop := fun a w => planRunF g.P ops (Qn g k) (heldW H) p b a w
section
variable {g : Cx} {β : Nat → Nat} {env : Env} {mem : Mem} {bnd : Bnd} {L : Res} {ops : Array Oper} {H : Held} {k : List Item} {b : Bool}
/-- The beginning of such a region. -/
theorem Nx.drawnF {i : Nat} (ns : List Nat) (seg : List PI) (p : PF) {Ps Qs : List SP} {L' : Res} (hm : g.P.follows .mixedOrders = true) (hsel : Region.noSelect ops = true) (hok : planOkF ops (isLateF (PF.pre seg p)) (PF.pre seg p) false ops.size (Array.replicate ops.size false) = true)
    (hP : pinS bnd mem = some Ps) (hB : subB bnd bnd) (hp : pick ns L = some (Qs, L'))
    (h : Nx g env mem bnd L (planHead g ops ⟨mem, bnd, Qs⟩ true seg (endF g ops ⟨mem, bnd, Qs⟩ false p k))) : Nx g env mem bnd L (RunC g (.code (.region i ops true) :: k)) := by
  intro β a w hr
  have hr' : Rel g β env mem bnd L a { w with drawn := w.drawn + 1 } := hr.world rfl rfl rfl rfl
  refine Ret.code (wp_region_any hm (wpX_any _ _ _ _ (S := heldW ⟨mem, bnd, Qs⟩) (late := isLateF (PF.pre seg p)) ?_))
  refine (plan_soundF hsel (fun c a w h => h) (PF.pre seg p)).1 _ _ _ _ hok ?_
  exact runF_pre (fun a w h => h) seg a _ (h β a _ hr' (hr'.heldN (H := ⟨mem, bnd, Qs⟩) hP hB (subM.refl _) hp))
/-- Each that may come first. -/
theorem Nx.forkF {i : Nat} {keep : Bool} {seg : List PI} {r q : PF} (h1 : Nx g env mem bnd L (planHead g ops H false (.ex i keep :: seg) (endF g ops H false r k))) (h2 : Nx g env mem bnd L (endF g ops H true q k)) : Nx g env mem bnd L (endF g ops H b (.alt i keep (PF.pre seg r) q) k) := by
  intro β a w hr
  have h3 := runF_pre (Q := Qn g k) (p := r) (fun a w h => h) _ a w (h1 β a w hr)
  exact ⟨h3.1, h2 β a w hr⟩
theorem Nx.forkN : Nx g env mem bnd L (endF g ops H true .nil k) := fun _ _ _ _ => trivial
theorem Nx.forkE (h : Nx g env mem bnd L (RunC g k)) : Nx g env mem bnd L (endF g ops H false .nil k) := fun β a w hr => h β a w hr
theorem atFork {p : PF} (h : Nx g env mem bnd L (endF g ops H b p k)) : Nx g env mem bnd L (endF g ops H b p k) := h
end
end Go.Proofs.Ytngfadijcpnblaa

/- Short forms of the rules, for texts that must be small: no guards are needed where the heads are irreducible. -/
namespace Go.Proofs.Ytngfadijcpnblaa
section
variable {g : Cx} {env : Env} {mem : Mem} {bnd : Bnd} {L : Res} {N : Act → World → Prop} {Q : Exit → Act → World → Prop} {ops : Array Oper} {H : Held} {kN : Act → World → Prop} {k : List Item}
/-- May the executor go on here? -/
def runOk : Ctl → Bool
  | .run [] => false
  | .run (.code .ret :: _) => false
  | .run (.code (.loop _) :: _) => false
  | .run (.code (.region _ _ true) :: _) => false
  | .run (.inLoop _ :: _) => false
  | _ => true
theorem gO {c : Ctl} (_ : runOk c = true) (h : sx false 200 g env mem bnd L c) : Nx g env mem bnd L (headC g c) := go 200 h
/-- One step of what is run, as far as the region's end. -/
def stepOf : Ctl → Nat
  | .run _ => 1
  | .ops _ _ _ => 200
theorem gR {c : Ctl} (_ : runOk c = true) (h : sx true (stepOf c) g env mem bnd L c) : Nx g env mem bnd L (headC g c) := goR _ h
theorem gP {hold : Bool} {plan : List PI} {Ps : List SP} (hP : pinS H.bnd H.mem = some Ps) (hB : subB H.bnd bnd) (h : sxP 200 g ops H hold env mem bnd L plan kN) : Nx g env mem bnd L (planHead g ops H hold plan kN) := Nx.runP hP hB h
theorem hL1 {o : Oper} {t : TypeId} {x : Operand} {b p : Nat} {S : SP} {y : Value} {Ps : List SP}
    (ho : o.op = .load t x) (hx : ev env x = some (.c (.v (.pointer (some ⟨b, p, none⟩))))) (hd : dstOk g.n o.dst = true) (hP : pinS H.bnd H.mem = some Ps) (hs : SeesAt S b p [y]) (hS : S ∈ H.ps)
    (ht : aggOf g.P t = .one) (hk : Nx g (putE o.dst (.c (.v y)) env) mem bnd L N) : Nx g env mem bnd L (HoC g (heldW H) o N) := Nx.hoLoad1 ho hx hd hP hS hs ht hk
theorem hLm {o : Oper} {t : TypeId} {x : Operand} {b p : Nat} {S : SP} {ys : List Value} {cs : List Ce} {Ps : List SP}
    (ho : o.op = .load t x) (hx : ev env x = some (.c (.v (.pointer (some ⟨b, p, none⟩))))) (hd : dstOk g.n o.dst = true) (hP : pinS H.bnd H.mem = some Ps) (hs : SeesAt S b p ys) (hS : S ∈ H.ps)
    (ht : aggOf g.P t = .many ys.length) (hy : valsO ys = some cs) (hk : Nx g (putE o.dst (.agg cs) env) mem bnd L N) : Nx g env mem bnd L (HoC g (heldW H) o N) := Nx.hoLoad ho hx hd hP hS hs ht hy hk
theorem cE (ns ns' : List Nat) {o : Oper} {x : Operand} {ars : Array Operand} {ts : Array TypeId} {f : Nat} {first cap : Array Value} {vs args : List Value} {Pre : List SP} {c : Value} {R : List SP} {L' : Res}
    (ho : o.op = .call ⟨.value x, ars, ts⟩) (hx : ev env x = some (.c (.v (.func (.func f) first cap)))) (hv : opsV env bnd ars.toList = some vs) (ha : first.toList ++ (vs ++ cap.toList) = args) (hd : dstOk g.n o.dst = true)
    (h : FnOk g.P f args Pre (fun v Q => v = c ∧ Q = R)) (hp : pick ns L = some (Pre, L'))
    (hk : Nx g (putE o.dst (ofV c) env) mem bnd (ns'.zip R ++ L') N) : Nx g env mem bnd L (OneC g o N Q) :=
  Nx.call ns ns' ho hx hv ha hd h hp fun v Q e => by obtain ⟨rfl, rfl⟩ := e; exact hk
/-- A plan out of numbers: four times the place, and 0 pure, 1 held, 2 acts and keeps, 3 acts. -/
def planOf : List Nat → List PI
  | [] => []
  | n :: r => (match n % 4 with
    | 0 => PI.pure (n / 4)
    | 1 => PI.held (n / 4)
    | 2 => PI.ex (n / 4) true
    | _ => PI.ex (n / 4) false) :: planOf r
theorem dN (i : Nat) (ns : List Nat) (plan : List Nat) {Ps Qs : List SP} {L' : Res} (hm : g.P.follows .mixedOrders = true) (hsel : Region.noSelect ops = true) (hlen : (planOf plan).length = ops.size) (hok : planOk ops (isLate (planOf plan)) (Array.replicate ops.size false) (planOf plan) = true)
    (hP : pinS bnd mem = some Ps) (hB : subB bnd bnd) (hp : pick ns L = some (Qs, L'))
    (h : Nx g env mem bnd L (planHead g ops ⟨mem, bnd, Qs⟩ true (planOf plan) (RunC g k))) : Nx g env mem bnd L (RunC g (.code (.region i ops true) :: k)) := Nx.drawn0 ns (planOf plan) hm hsel hlen hok hP hB hp h
end
end Go.Proofs.Ytngfadijcpnblaa

/- The model of logs and cursors in plain Lean: the program's state with its steps, the reference's with its answers. -/
namespace Go.Proofs.Ytngfadijcpnblaa

structure Ev where
  key : Int
  val : Int
  deriving DecidableEq
structure Nt where
  who : Int
  ring : Int
  deed : Int
  lo : Int
  seq : Int
  x : Ev
  code : Int
  deriving DecidableEq

/-! ### First places -/
def findI {α : Type} (p : α → Bool) : List α → Option Nat
  | [] => none
  | x :: r => if p x then some 0 else (findI p r).map (· + 1)
theorem findI_some {α : Type} {p : α → Bool} : ∀ {l : List α} {k : Nat} (h : k < l.length), p l[k] = true → (∀ i, (hi : i < k) → p (l[i]'(by omega)) = false) → findI p l = some k
  | [], k, h, _, _ => by simp at h
  | x :: r, 0, h, h1, _ => by unfold findI; rw [if_pos (by simpa using h1)]
  | x :: r, k + 1, h, h1, h2 => by
    have h0 := h2 0 (by omega)
    have ih := findI_some (p := p) (l := r) (k := k) (by simpa using h) (by simpa using h1) (fun i hi => by have := h2 (i + 1) (by omega); simpa using this)
    unfold findI
    rw [if_neg (by simpa using h0), ih]; rfl
theorem findI_none {α : Type} {p : α → Bool} : ∀ {l : List α}, (∀ i, (hi : i < l.length) → p l[i] = false) → findI p l = none
  | [], _ => rfl
  | x :: r, h => by
    have h0 := h 0 (by simp)
    have ih := findI_none (p := p) (l := r) (fun i hi => by have := h (i + 1) (by simpa using hi); simpa using this)
    unfold findI
    rw [if_neg (by simpa using h0), ih]; rfl
theorem findI_is {α : Type} {p : α → Bool} : ∀ {l : List α} {k : Nat}, findI p l = some k → ∃ h : k < l.length, p l[k] = true ∧ ∀ i, (hi : i < k) → p (l[i]'(by omega)) = false
  | [], k, h => by cases h
  | x :: r, k, h => by
    unfold findI at h
    split at h
    · rename_i hx
      cases h
      exact ⟨by simp, by simpa using hx, fun i hi => by omega⟩
    · rename_i hx
      cases h1 : findI p r with
      | none => rw [h1] at h; cases h
      | some j =>
        rw [h1] at h
        simp only [Option.map_some, Option.some.injEq] at h
        subst h
        obtain ⟨a, b, c⟩ := findI_is h1
        refine ⟨by simpa using a, by simpa using b, fun i hi => ?_⟩
        cases i with
        | zero => simpa using hx
        | succ i => have := c i (by omega); simpa using this
theorem findI_isN {α : Type} {p : α → Bool} : ∀ {l : List α}, findI p l = none → ∀ x ∈ l, p x = false
  | [], _, _, hx => by cases hx
  | y :: r, h, x, hx => by
    unfold findI at h
    split at h
    · cases h
    · rename_i hy
      cases h1 : findI p r with
      | some j => rw [h1] at h; cases h
      | none =>
        rcases List.mem_cons.1 hx with rfl | hx
        · simpa using hy
        · exact findI_isN h1 x hx
theorem findI_append {α : Type} (p : α → Bool) (l m : List α) : findI p (l ++ m) = match findI p l with | some k => some k | none => (findI p m).map (· + l.length) := by
  induction l with
  | nil => simp [findI]
  | cons x r ih =>
    simp only [List.cons_append, findI]
    split
    · rfl
    · rw [ih]
      cases findI p r with
      | some k => rfl
      | none => cases findI p m with
        | none => rfl
        | some j => simp; omega

/-! ### The program's state -/
structure LogP where
  size : Int
  many : Bool
  l : List Ev
  there : List Bool
structure WrP where
  who : Int
  ring : Int
  calls : List (List Ev)
  first : Int
  shown : Nat
  over : Bool
structure RdP where
  who : Int
  ring : Int
  next : Int
  cursor : Int
  began : Int
  pool : Int
  ahead : List Int
  held : Bool
  over : Bool
structure PlP where
  start : Int
  taken : List Bool
structure MdP where
  logs : List LogP
  writers : List WrP
  readers : List RdP
  pools : List PlP

def MdP.of (m : MdP) (who : Int) : Option Nat := findI (fun w => decide (w.who = who)) m.writers
def MdP.at (m : MdP) (who ring : Int) : Option Nat := findI (fun r => decide (r.who = who) && decide (r.ring = ring)) m.readers
def MdP.named (m : MdP) (who : Int) : Bool := (m.writers.any fun w => decide (w.who = who)) || (m.readers.any fun r => decide (r.who = who))
def MdP.fresh (m : MdP) (n ring : Int) : Int :=
  if ring < 0 ∨ (m.logs.length : Int) ≤ ring then 3 else if 512 < (m.writers.length : Int) + m.readers.length + n then 8 else 0
/-- The state behind, and what is wrong (0: nothing). -/
def MdP.addLog (m : MdP) (size : Int) (many : Bool) : MdP × Int :=
  if size < 1 ∨ 1048576 < size then (m, 7) else if 8 ≤ m.logs.length then (m, 8) else ({ m with logs := m.logs ++ [⟨size, many, [], []⟩] }, 0)
def MdP.addWriter (m : MdP) (who ring : Int) : MdP × Int :=
  if m.fresh 1 ring ≠ 0 then (m, m.fresh 1 ring) else if m.named who then (m, 4) else ({ m with writers := m.writers ++ [⟨who, ring, [], -1, 0, false⟩] }, 0)
def newR (who ring start pool : Int) (ahead : List Int) : RdP := ⟨who, ring, start, start - 1, start, pool, ahead, true, false⟩
def MdP.addReader (m : MdP) (who ring start : Int) (ahead : List Int) : MdP × Int :=
  if m.fresh 1 ring ≠ 0 then (m, m.fresh 1 ring) else if (m.of who).isSome || (m.at who ring).isSome then (m, 4) else if start < 0 ∨ 4611686018427387904 < start then (m, 5)
  else if ahead.any fun a => (m.at a ring).isNone then (m, 3) else ({ m with readers := m.readers ++ [newR who ring start (-1) ahead] }, 0)
def MdP.twice (m : MdP) (ring : Int) : List Int → List Int → Bool
  | _, [] => false
  | had, a :: r => (m.of a).isSome || (m.at a ring).isSome || had.contains a || MdP.twice m ring (had ++ [a]) r
def MdP.addPool (m : MdP) (ring start : Int) (who ahead : List Int) : MdP × Int :=
  if m.fresh (min who.length 16) ring ≠ 0 then (m, m.fresh (min who.length 16) ring) else if who.length = 0 ∨ 16 < who.length then (m, 1) else if start < 0 ∨ 4611686018427387904 < start then (m, 5)
  else if m.twice ring [] who then (m, 4) else if ahead.any fun a => (m.at a ring).isNone then (m, 3)
  else ({ m with pools := m.pools ++ [⟨start, []⟩], readers := m.readers ++ who.map fun a => newR a ring start m.pools.length ahead }, 0)
def WrP.more (w : WrP) (l : List Ev) : WrP := { w with calls := w.calls ++ [l] }
def MdP.send (m : MdP) (who : Int) (l : List Ev) : MdP × Int :=
  match m.of who with
  | none => (m, 3)
  | some k => if l.length = 0 ∨ 64 < l.length then (m, 1) else ({ m with writers := m.writers.modify k (·.more l) }, 0)
def LogP.pub (g : LogP) (i : Int) : Bool := decide (0 ≤ i) && g.there.getD i.toNat false
def LogP.put (g : LogP) (i : Nat) (x : Ev) : LogP :=
  { g with l := (g.l ++ List.replicate (i + 1 - g.l.length) (⟨0, 0⟩ : Ev)).set i x, there := (g.there ++ List.replicate (i + 1 - g.l.length) false).set i true }
def LogP.puts (g : LogP) (i : Nat) : List Ev → LogP
  | [] => g
  | x :: r => (g.put i x).puts (i + 1) r
def LogP.upTo (g : LogP) : Nat → Nat → Nat
  | 0, n => n
  | f + 1, n => if g.pub n then g.upTo f (n + 1) else n
def MdP.length (m : MdP) (ring : Int) : Int :=
  if ring < 0 then 0 else match m.logs[ring.toNat]? with | none => 0 | some g => g.upTo (g.there.length + 1) 0
def MdP.event (m : MdP) (ring i : Int) : Option Ev :=
  if ring < 0 then none else match m.logs[ring.toNat]? with | none => none | some g => if g.pub i then some (g.l.getD i.toNat ⟨0, 0⟩) else none
def MdP.cursor (m : MdP) (who ring : Int) : Option Int := match m.at who ring with | none => none | some k => (m.readers[k]?).map (·.cursor)
def heldBy (size ring i : Int) (r : RdP) : Bool := decide (r.ring = ring) && r.held && decide (r.cursor < i - size)
def MdP.held (m : MdP) (ring i : Int) : Bool :=
  if ring < 0 ∨ i < 0 then false else match m.logs[ring.toNat]? with | none => false | some g => m.readers.any (heldBy g.size ring i)
def MdP.stopped (m : MdP) (who : Int) : Bool := m.readers.any fun r => decide (r.who = who) && r.over
def MdP.stops (m : MdP) (who : Int) : MdP := { m with readers := m.readers.map fun r => if r.who = who then { r with over := true } else r }
def MdP.setW (m : MdP) (k : Nat) (f : WrP → WrP) : MdP := { m with writers := m.writers.modify k f }
def MdP.setR (m : MdP) (k : Nat) (f : RdP → RdP) : MdP := { m with readers := m.readers.modify k f }
def PlP.has (p : PlP) (i : Int) : Bool := decide (i < p.start) || (p.taken.getD (i - p.start).toNat false)
def PlP.put (p : PlP) (i : Nat) : PlP := { p with taken := (p.taken ++ List.replicate (i + 1 - p.taken.length) false).set i true }
def anyPub (g : LogP) (lo : Int) : Nat → Bool
  | 0 => false
  | n + 1 => g.pub lo || anyPub g (lo + 1) n
def MdP.shows (m : MdP) (k : Nat) (w : WrP) (g : LogP) (l : List Ev) (n : Nt) : MdP × Int :=
  if n.lo < 0 ∨ n.seq < n.lo ∨ 4611686018427387904 < n.seq then (m, 5)
  else if (0 < w.shown ∧ n.lo ≠ w.first + w.shown) ∨ (l.length : Int) - w.shown ≤ n.seq - n.lo then (m, 1)
  else if (g.many = true ∧ n.seq ≠ n.lo) ∨ (g.many = false ∧ n.seq - n.lo ≠ (l.length : Int) - 1) then (m, 1)
  else if (g.many = false ∧ n.lo ≠ g.l.length) ∨ (g.l.length : Int) + 8192 < n.lo then (m, 12)
  else if m.held w.ring n.seq then (m, 10)
  else if anyPub g n.lo (n.seq - n.lo + 1).toNat then (m, 4)
  else ({ m with
    logs := m.logs.modify w.ring.toNat fun g => g.puts n.lo.toNat ((l.drop w.shown).take (n.seq - n.lo + 1).toNat),
    writers := m.writers.modify k fun w => { w with first := if w.shown = 0 then n.lo else w.first, shown := w.shown + (n.seq - n.lo + 1).toNat } }, 0)
def MdP.writes (m : MdP) (k : Nat) (w : WrP) (n : Nt) : MdP × Int :=
  if w.over then (m, 17)
  else if n.deed = 7 then (match w.calls with | [] => (m.setW k fun w => { w with over := true }, 0) | _ => (m, 18))
  else if n.deed ≠ 1 ∧ n.deed ≠ 4 then (m, 1)
  else match w.calls with
    | [] => (m, 11)
    | l :: _ => if n.deed = 1 then (match m.logs[w.ring.toNat]? with | some g => m.shows k w g l n | none => (m, 0))
      else if n.code ≠ 0 ∧ 0 < w.shown then (m, 18)
      else if n.code = 0 ∧ (w.shown ≠ l.length ∨ n.lo ≠ w.first ∨ n.seq ≠ w.first + l.length - 1) then (m, 1)
      else (m.setW k fun w => { w with calls := w.calls.drop 1, first := -1, shown := 0 }, 0)
def MdP.blocks (m : MdP) (ring i : Int) (a : Int) : Bool :=
  match m.at a ring with
  | none => false
  | some o => match m.readers[o]? with
    | none => false
    | some r => if r.pool < 0 then decide (r.cursor < i) else match m.pools[r.pool.toNat]? with | none => false | some p => !p.has i
def MdP.handles (m : MdP) (k : Nat) (r : RdP) (n : Nt) : MdP × Int :=
  match m.event r.ring n.seq with
  | none => (m, 3)
  | some x => if n.lo ≠ n.seq then (m, 3) else if x ≠ n.x then (m, 6) else if r.ahead.any (m.blocks r.ring n.seq) then (m, 12)
    else if r.pool < 0 then (if n.seq ≠ r.next then (m, 1) else (m.setR k fun r => { r with next := r.next + 1 }, 0))
    else match m.pools[r.pool.toNat]? with
      | none => (m, 0)
      | some p => if p.has n.seq then (m, 4) else ({ m with pools := m.pools.modify r.pool.toNat fun p => p.put (n.seq - p.start).toNat }, 0)
def MdP.moves (m : MdP) (k : Nat) (r : RdP) (n : Nt) : MdP × Int :=
  if n.lo ≠ r.cursor + 1 ∨ n.seq < n.lo then (m, 1) else if r.pool < 0 ∧ n.seq ≠ r.next - 1 then (m, 1) else if (m.event r.ring n.seq).isNone then (m, 3)
  else (m.setR k fun r => { r with cursor := n.seq }, 0)
def MdP.returns (m : MdP) (k : Nat) (r : RdP) (n : Nt) : MdP × Int :=
  if 0 ≤ r.pool then (m, 1) else if n.code ≠ 0 ∧ r.next ≠ r.began then (m, 18)
  else if n.code = 0 ∧ (n.lo ≠ r.began ∨ n.seq ≠ r.next - 1 ∨ n.seq < n.lo ∨ r.cursor ≠ n.seq) then (m, 1)
  else (m.setR k fun r => { r with began := r.next }, 0)
def MdP.leaves (m : MdP) (k : Nat) (r : RdP) (n : Nt) : MdP × Int :=
  if r.held = false ∨ n.seq ≠ r.cursor then (m, 1) else (m.setR k fun r => { r with held := false }, 0)
def MdP.reads (m : MdP) (n : Nt) : MdP × Int :=
  match m.at n.who n.ring with
  | none => (m, 3)
  | some k => match m.readers[k]? with
    | none => (m, 3)
    | some r => if m.stopped n.who = true ∧ n.deed ≠ 6 then (m, 17)
      else if n.deed = 2 then m.handles k r n
      else if n.deed = 3 then m.moves k r n
      else if n.deed = 4 then m.returns k r n
      else if n.deed = 6 then m.leaves k r n
      else if n.deed = 7 then (m.stops n.who, 0)
      else if n.deed = 5 then (if n.seq ≤ r.cursor then (m, 1) else (m, 0))
      else (m, 1)
def MdP.take (m : MdP) (n : Nt) : MdP × Int :=
  if n.ring < 0 ∨ (m.logs.length : Int) ≤ n.ring then (m, 3)
  else match m.of n.who with
    | none => m.reads n
    | some k => match m.writers[k]? with
      | none => m.reads n
      | some w => if w.ring = n.ring then m.writes k w n else m.reads n

/-! ### The reference -/
structure Fact where
  n : Nt
  x : List Ev
structure WrM where
  who : Int
  ring : Int
  calls : List (List Ev)
structure RdM where
  who : Int
  ring : Int
  start : Int
  pool : Int
  ahead : List Int
structure MdR where
  logs : List (Int × Bool)
  writers : List WrM
  readers : List RdM
  pools : Int
  facts : List Fact
def MdR.of (m : MdR) (who : Int) : Option Nat := findI (fun w => decide (w.who = who)) m.writers
def MdR.at (m : MdR) (who ring : Int) : Option Nat := findI (fun r => decide (r.who = who) && decide (r.ring = ring)) m.readers
def MdR.fresh (m : MdR) (n ring : Int) : Int :=
  if ring < 0 ∨ (m.logs.length : Int) ≤ ring then 3 else if 512 < (m.writers.length : Int) + m.readers.length + n then 8 else 0
def MdR.addLog (m : MdR) (size : Int) (many : Bool) : MdR × Int :=
  if size < 1 ∨ 1048576 < size then (m, 7) else if 8 ≤ m.logs.length then (m, 8) else ({ m with logs := m.logs ++ [(size, many)] }, 0)
def MdR.addWriter (m : MdR) (who ring : Int) : MdR × Int :=
  if m.fresh 1 ring ≠ 0 then (m, m.fresh 1 ring) else if (m.of who).isSome then (m, 4) else if m.readers.any (fun r => decide (r.who = who)) then (m, 4)
  else ({ m with writers := m.writers ++ [⟨who, ring, []⟩] }, 0)
def MdR.behind (m : MdR) (ring : Int) (ahead : List Int) : Int := if ahead.any fun a => (m.at a ring).isNone then 3 else 0
def MdR.addReader (m : MdR) (who ring start : Int) (ahead : List Int) : MdR × Int :=
  if m.fresh 1 ring ≠ 0 then (m, m.fresh 1 ring) else if (m.of who).isSome || (m.at who ring).isSome then (m, 4) else if start < 0 ∨ 4611686018427387904 < start then (m, 5)
  else if m.behind ring ahead ≠ 0 then (m, m.behind ring ahead) else ({ m with readers := m.readers ++ [⟨who, ring, start, -1, ahead⟩] }, 0)
def MdR.twice (m : MdR) (ring : Int) : List Int → List Int → Bool
  | _, [] => false
  | had, a :: r => (m.of a).isSome || (m.at a ring).isSome || had.contains a || MdR.twice m ring (had ++ [a]) r
def MdR.addPool (m : MdR) (ring start : Int) (who ahead : List Int) : MdR × Int :=
  if m.fresh (min who.length 16) ring ≠ 0 then (m, m.fresh (min who.length 16) ring) else if who.length = 0 ∨ 16 < who.length then (m, 1) else if start < 0 ∨ 4611686018427387904 < start then (m, 5)
  else if m.twice ring [] who then (m, 4) else if m.behind ring ahead ≠ 0 then (m, m.behind ring ahead)
  else ({ m with pools := m.pools + 1, readers := m.readers ++ who.map fun a => (⟨a, ring, start, m.pools, ahead⟩ : RdM) }, 0)
def MdR.send (m : MdR) (who : Int) (l : List Ev) : MdR × Int :=
  match m.of who with
  | none => (m, 3)
  | some k => if l.length = 0 ∨ 64 < l.length then (m, 1) else ({ m with writers := m.writers.modify k fun w => { w with calls := w.calls ++ [l] } }, 0)
/-- Does a fact publish an index of a ring? -/
def Fact.pubs (f : Fact) (ring i : Int) : Bool := decide (f.n.ring = ring) && decide (f.n.deed = 1) && decide (f.n.lo ≤ i) && decide (i ≤ f.n.seq)
def eventF (fs : List Fact) (ring i : Int) : Option Ev := match findI (·.pubs ring i) fs with | none => none | some k => (fs[k]?).map fun f => f.x.getD (i - f.n.lo).toNat ⟨0, 0⟩
def greatF (fs : List Fact) (ring : Int) : Int := fs.foldl (fun g f => if f.n.ring = ring ∧ f.n.deed = 1 ∧ g < f.n.seq then f.n.seq else g) (-1)
def cursorF (fs : List Fact) (who ring start : Int) : Int := fs.foldl (fun c f => if f.n.who = who ∧ f.n.ring = ring ∧ f.n.deed = 3 then f.n.seq else c) (start - 1)
def nextStep (who ring : Int) (s : Int × Int) (f : Fact) : Int × Int :=
  if f.n.who ≠ who ∨ f.n.ring ≠ ring then s else if f.n.deed = 2 then (s.1 + 1, s.2) else if f.n.deed = 4 then (s.1, s.1) else s
def nextF (fs : List Fact) (who ring start : Int) : Int × Int := fs.foldl (nextStep who ring) (start, start)
def didF (fs : List Fact) (who ring d : Int) : Bool := fs.any fun f => decide (f.n.who = who) && decide (f.n.deed = d) && (decide (ring < 0) || decide (f.n.ring = ring))
def heldByR (fs : List Fact) (size ring i : Int) (r : RdM) : Bool := decide (r.ring = ring) && !didF fs r.who ring 6 && decide (cursorF fs r.who r.ring r.start < i - size)
def MdR.held (m : MdR) (ring i : Int) : Bool :=
  if i < 0 then false else m.readers.any fun r => heldByR m.facts ((m.logs[ring.toNat]?).getD (0, false)).1 ring i r
def hasBy (fs : List Fact) (pool i : Int) (r : RdM) : Bool := decide (r.pool = pool) && (decide (i < r.start) || fs.any fun f => decide (f.n.who = r.who) && decide (f.n.ring = r.ring) && decide (f.n.deed = 2) && decide (f.n.seq = i))
def MdR.has (m : MdR) (pool i : Int) : Bool := m.readers.any (hasBy m.facts pool i)
structure CallS where
  ended : Nat
  shown : Int
  first : Int
def CallS.step (who : Int) (s : CallS) (f : Fact) : CallS :=
  if f.n.who ≠ who then s else if f.n.deed = 4 then ⟨s.ended + 1, 0, -1⟩ else if f.n.deed = 1 then ⟨s.ended, s.shown + f.n.seq - f.n.lo + 1, if s.first < 0 then f.n.lo else s.first⟩ else s
def callF (fs : List Fact) (who : Int) : CallS := fs.foldl (CallS.step who) ⟨0, 0, -1⟩
def anyEv (fs : List Fact) (ring lo : Int) : Nat → Bool
  | 0 => false
  | n + 1 => (eventF fs ring lo).isSome || anyEv fs ring (lo + 1) n
/-- What a call has: its events, how many are published, its first index. -/
def MdR.showsR (m : MdR) (l : List Ev) (shown first : Int) (n : Nt) : List Ev × Int :=
  let g := (m.logs[n.ring.toNat]?).getD (0, false)
  let many := n.seq - n.lo + 1
  if n.lo < 0 ∨ n.seq < n.lo ∨ 4611686018427387904 < n.seq then ([], 5)
  else if (0 < shown ∧ n.lo ≠ first + shown) ∨ (l.length : Int) - shown < many ∨ (g.2 = true ∧ many ≠ 1) ∨ (g.2 = false ∧ many ≠ l.length) then ([], 1)
  else if (g.2 = false ∧ n.lo ≠ greatF m.facts n.ring + 1) ∨ greatF m.facts n.ring + 8193 < n.lo then ([], 12)
  else if m.held n.ring n.seq then ([], 10)
  else if anyEv m.facts n.ring n.lo many.toNat then ([], 4)
  else ((l.drop shown.toNat).take many.toNat, 0)
def MdR.call (m : MdR) (k : Nat) : Option (List Ev × Int × Int) :=
  match m.writers[k]? with
  | none => none
  | some w => match w.calls[(callF m.facts w.who).ended]? with
    | none => none
    | some l => some (l, (callF m.facts w.who).shown, (callF m.facts w.who).first)
def MdR.writes (m : MdR) (k : Nat) (n : Nt) : List Ev × Int :=
  if didF m.facts n.who (-1) 7 then ([], 17)
  else if n.deed = 7 then (if (m.call k).isSome then ([], 18) else ([], 0))
  else if n.deed ≠ 1 ∧ n.deed ≠ 4 then ([], 1)
  else match m.call k with
    | none => ([], 11)
    | some (l, shown, first) => if n.deed = 1 then m.showsR l shown first n
      else if n.code ≠ 0 then (if 0 < shown then ([], 18) else ([], 0))
      else if shown ≠ l.length ∨ n.lo ≠ first ∨ n.seq ≠ first + shown - 1 then ([], 1) else ([], 0)
def MdR.blocks (m : MdR) (ring i : Int) (a : Int) : Bool :=
  match m.at a ring with
  | none => false
  | some o => match m.readers[o]? with
    | none => false
    | some r => if r.pool < 0 then decide (cursorF m.facts r.who r.ring r.start < i) else !m.has r.pool i
def MdR.handles (m : MdR) (r : RdM) (n : Nt) : Int :=
  match eventF m.facts n.ring n.seq with
  | none => 3
  | some x => if n.lo ≠ n.seq then 3 else if x ≠ n.x then 6 else if r.ahead.any (m.blocks n.ring n.seq) then 12
    else if 0 ≤ r.pool then (if m.has r.pool n.seq then 4 else 0)
    else if n.seq ≠ (nextF m.facts r.who r.ring r.start).1 then 1 else 0
def MdR.moves (m : MdR) (r : RdM) (n : Nt) : Int :=
  if n.lo ≠ cursorF m.facts r.who r.ring r.start + 1 ∨ n.seq < n.lo ∨ (r.pool < 0 ∧ n.seq ≠ (nextF m.facts r.who r.ring r.start).1 - 1) then 1
  else if (eventF m.facts n.ring n.seq).isNone then 3 else 0
def MdR.readsAt (m : MdR) (r : RdM) (n : Nt) : Int :=
  let nx := nextF m.facts r.who r.ring r.start
  let c := cursorF m.facts r.who r.ring r.start
  if n.deed = 2 then m.handles r n
  else if n.deed = 3 then m.moves r n
  else if n.deed = 4 then
    (if 0 ≤ r.pool then 1 else if n.code ≠ 0 then (if nx.1 ≠ nx.2 then 18 else 0)
    else if n.lo ≠ nx.2 ∨ n.seq ≠ nx.1 - 1 ∨ n.seq < n.lo ∨ c ≠ n.seq then 1 else 0)
  else if n.deed = 5 then (if n.seq ≤ c then 1 else 0)
  else if n.deed = 6 then (if didF m.facts n.who n.ring 6 = true ∨ n.seq ≠ c then 1 else 0)
  else if n.deed = 7 then 0 else 1
def MdR.reads (m : MdR) (n : Nt) : Int :=
  match m.at n.who n.ring with
  | none => 3
  | some k => match m.readers[k]? with
    | none => 3
    | some r => if didF m.facts n.who (-1) 7 = true ∧ n.deed ≠ 6 then 17 else m.readsAt r n
/-- What is wrong with a note, and what is published by it. -/
def MdR.judge (m : MdR) (n : Nt) : List Ev × Int :=
  if n.ring < 0 ∨ (m.logs.length : Int) ≤ n.ring then ([], 3)
  else match m.of n.who with
    | none => ([], m.reads n)
    | some k => match m.writers[k]? with
      | none => ([], m.reads n)
      | some w => if w.ring = n.ring then m.writes k n else ([], m.reads n)
def MdR.take (m : MdR) (n : Nt) : MdR × Int := if (m.judge n).2 = 0 then ({ m with facts := m.facts ++ [⟨n, (m.judge n).1⟩] }, 0) else (m, (m.judge n).2)
end Go.Proofs.Ytngfadijcpnblaa

/- The program's state and the reference's facts say the same: what the relation is; a fact more. -/
namespace Go.Proofs.Ytngfadijcpnblaa

theorem findI_map {α β : Type} (f : α → β) (p : β → Bool) : ∀ l : List α, findI p (l.map f) = findI (fun x => p (f x)) l
  | [] => rfl
  | x :: r => by simp only [List.map_cons, findI, findI_map f p r]
theorem findI_congr {α β : Type} {p : α → Bool} {q : β → Bool} : ∀ {l : List α} {m : List β}, (∀ k : Nat, (l[k]?).map p = (m[k]?).map q) → findI p l = findI q m
  | [], [], _ => rfl
  | [], y :: s, h => by have := h 0; simp at this
  | x :: r, [], h => by have := h 0; simp at this
  | x :: r, y :: s, h => by
    have h0 : p x = q y := by have := h 0; simpa using this
    have ih := findI_congr (l := r) (m := s) (p := p) (q := q) (fun k => by have := h (k + 1); simpa using this)
    simp only [findI, h0, ih]
theorem any_congr' {α β : Type} {p : α → Bool} {q : β → Bool} : ∀ {l : List α} {m : List β}, (∀ k : Nat, (l[k]?).map p = (m[k]?).map q) → l.any p = m.any q
  | [], [], _ => rfl
  | [], y :: s, h => by have := h 0; simp at this
  | x :: r, [], h => by have := h 0; simp at this
  | x :: r, y :: s, h => by
    have h0 : p x = q y := by have := h 0; simpa using this
    have ih := any_congr' (l := r) (m := s) (p := p) (q := q) (fun k => by have := h (k + 1); simpa using this)
    simp only [List.any_cons, h0, ih]

theorem cursorF_snoc (fs : List Fact) (f : Fact) (who ring start : Int) : cursorF (fs ++ [f]) who ring start = if f.n.who = who ∧ f.n.ring = ring ∧ f.n.deed = 3 then f.n.seq else cursorF fs who ring start := by
  unfold cursorF; rw [List.foldl_append]; rfl
theorem nextF_snoc (fs : List Fact) (f : Fact) (who ring start : Int) : nextF (fs ++ [f]) who ring start = nextStep who ring (nextF fs who ring start) f := by
  unfold nextF; rw [List.foldl_append]; rfl
theorem callF_snoc (fs : List Fact) (f : Fact) (who : Int) : callF (fs ++ [f]) who = (callF fs who).step who f := by
  unfold callF; rw [List.foldl_append]; rfl
theorem greatF_snoc (fs : List Fact) (f : Fact) (ring : Int) : greatF (fs ++ [f]) ring = if f.n.ring = ring ∧ f.n.deed = 1 ∧ greatF fs ring < f.n.seq then f.n.seq else greatF fs ring := by
  unfold greatF; rw [List.foldl_append]; rfl
theorem didF_snoc (fs : List Fact) (f : Fact) (who ring d : Int) : didF (fs ++ [f]) who ring d = (didF fs who ring d || (decide (f.n.who = who) && decide (f.n.deed = d) && (decide (ring < 0) || decide (f.n.ring = ring)))) := by
  unfold didF; simp
theorem eventF_snoc (fs : List Fact) (f : Fact) (ring i : Int) : eventF (fs ++ [f]) ring i = match eventF fs ring i with | some x => some x | none => if f.pubs ring i then some (f.x.getD (i - f.n.lo).toNat ⟨0, 0⟩) else none := by
  unfold eventF
  rw [findI_append]
  cases h : findI (fun x => x.pubs ring i) fs with
  | some k =>
    obtain ⟨hk, _, _⟩ := findI_is h
    simp [List.getElem?_append_left hk, List.getElem?_eq_getElem hk]
  | none =>
    simp only [findI]
    by_cases hp : f.pubs ring i = true
    · simp [hp]
    · simp [hp]

/-! ### What is related -/
def wrOf (fs : List Fact) (w : WrM) : WrP := ⟨w.who, w.ring, w.calls.drop (callF fs w.who).ended, (callF fs w.who).first, (callF fs w.who).shown.toNat, didF fs w.who (-1) 7⟩
/-- The next index and the first one since it returned, as the program keeps them (in a pool: not at all). -/
def nx (fs : List Fact) (r : RdM) : Int × Int := if r.pool < 0 then nextF fs r.who r.ring r.start else (r.start, r.start)
def rdOf (fs : List Fact) (r : RdM) : RdP := ⟨r.who, r.ring, (nx fs r).1, cursorF fs r.who r.ring r.start, (nx fs r).2, r.pool, r.ahead, !didF fs r.who r.ring 6, false⟩
def RdP.er (r : RdP) : RdP := { r with over := false }
structure LogRel (fs : List Fact) (k : Nat) (g : LogP) : Prop where
  len : g.there.length = g.l.length
  great : (g.l.length : Int) = greatF fs k + 1
  ev : ∀ i : Int, eventF fs k i = if g.pub i then some (g.l.getD i.toNat ⟨0, 0⟩) else none
structure CallOk (c : CallS) (w : WrM) : Prop where
  s0 : 0 ≤ c.shown
  f0 : -1 ≤ c.first
  sf : c.shown = 0 ↔ c.first < 0
  e : c.ended ≤ w.calls.length
  s1 : ∀ l, w.calls[c.ended]? = some l → c.shown ≤ l.length
  fm : c.first ≤ 4611686018427387904
  idle : w.calls.length ≤ c.ended → c.shown = 0
structure Sim (P : MdP) (M : MdR) : Prop where
  logs : ∀ k : Nat, (P.logs[k]?).map (fun g => (g.size, g.many)) = M.logs[k]?
  log : ∀ (k : Nat) g, P.logs[k]? = some g → LogRel M.facts k g
  wr : ∀ k : Nat, P.writers[k]? = (M.writers[k]?).map (wrOf M.facts)
  rd : ∀ k : Nat, (P.readers[k]?).map RdP.er = (M.readers[k]?).map (rdOf M.facts)
  over : ∀ who, M.of who = none → P.stopped who = didF M.facts who (-1) 7
  pools : (P.pools.length : Int) = M.pools
  pool : ∀ (k : Nat) p, P.pools[k]? = some p → ∀ i, p.has i = M.has k i
  start : ∀ (k : Nat) p, P.pools[k]? = some p → ∃ r ∈ M.readers, r.pool = k ∧ r.start = p.start
  known : ∀ f ∈ M.facts, (∃ w ∈ M.writers, w.who = f.n.who ∧ w.ring = f.n.ring) ∨ (∃ r ∈ M.readers, r.who = f.n.who ∧ r.ring = f.n.ring)
  w1 : ∀ (i j : Nat) (a b : WrM), M.writers[i]? = some a → M.writers[j]? = some b → a.who = b.who → i = j
  apart : ∀ w ∈ M.writers, ∀ r ∈ M.readers, w.who ≠ r.who
  r1 : ∀ (i j : Nat) (a b : RdM), M.readers[i]? = some a → M.readers[j]? = some b → a.who = b.who → a.ring = b.ring → i = j
  call : ∀ w ∈ M.writers, CallOk (callF M.facts w.who) w
  pub : ∀ f ∈ M.facts, f.n.deed = 1 → 0 ≤ f.n.lo ∧ f.n.lo ≤ f.n.seq ∧ f.n.seq ≤ 4611686018427387904 ∧ (f.x.length : Int) = f.n.seq - f.n.lo + 1
  wring : ∀ w ∈ M.writers, 0 ≤ w.ring ∧ w.ring < M.logs.length
  rring : ∀ r ∈ M.readers, 0 ≤ r.ring ∧ r.ring < M.logs.length
  rpool : ∀ r ∈ M.readers, -1 ≤ r.pool ∧ r.pool < M.pools
  rstart : ∀ r ∈ M.readers, 0 ≤ r.start ∧ r.start ≤ 4611686018427387904
  rb : ∀ r ∈ M.readers, -1 ≤ cursorF M.facts r.who r.ring r.start ∧ cursorF M.facts r.who r.ring r.start ≤ 4611686018427387904 ∧ 0 ≤ (nx M.facts r).1 ∧ (nx M.facts r).1 ≤ 4611686018427387905 ∧ 0 ≤ (nx M.facts r).2 ∧ (nx M.facts r).2 ≤ 4611686018427387905
  same : ∀ r ∈ M.readers, ∀ s ∈ M.readers, 0 ≤ r.pool → r.pool = s.pool → r.start = s.start
  ahead : ∀ r ∈ M.readers, ∀ a ∈ r.ahead, (M.at a r.ring).isSome = true
  size : ∀ g ∈ M.logs, 1 ≤ g.1 ∧ g.1 ≤ 1048576
  calls : ∀ w ∈ M.writers, ∀ l ∈ w.calls, 0 < l.length ∧ l.length ≤ 64

theorem Sim.nil : Sim ⟨[], [], [], []⟩ ⟨[], [], [], 0, []⟩ := by
  refine ⟨fun k => by simp, fun k g h => by simp at h, fun k => by simp, fun k => by simp, fun who _ => rfl, rfl, ?_, ?_, ?_, ?_, ?_, ?_, ?_, ?_, ?_, ?_, ?_, ?_, ?_, ?_, ?_, ?_, ?_⟩
  all_goals first | (intro k p h; simp at h; done) | (intro k h; cases h; done) | (intro i j a b h; simp at h; done)

section
variable {P : MdP} {M : MdR}
theorem Sim.ofE (h : Sim P M) (who : Int) : P.of who = M.of who := by
  unfold MdP.of MdR.of
  refine findI_congr fun k => ?_
  rw [h.wr k, Option.map_map]
  rfl
theorem Sim.rdAt (h : Sim P M) {k : Nat} {r : RdM} (hk : M.readers[k]? = some r) : ∃ p, P.readers[k]? = some p ∧ p.er = rdOf M.facts r := by
  have := h.rd k
  rw [hk] at this
  cases hp : P.readers[k]? with
  | none => rw [hp] at this; cases this
  | some p => rw [hp] at this; exact ⟨p, rfl, by simpa using this⟩
theorem Sim.rdAt' (h : Sim P M) {k : Nat} {p : RdP} (hk : P.readers[k]? = some p) : ∃ r, M.readers[k]? = some r ∧ p.er = rdOf M.facts r := by
  have := h.rd k
  rw [hk] at this
  cases hp : M.readers[k]? with
  | none => rw [hp] at this; cases this
  | some r => rw [hp] at this; exact ⟨r, rfl, by simpa using this⟩
theorem er_who {p : RdP} {fs : List Fact} {r : RdM} (h : p.er = rdOf fs r) : p.who = r.who ∧ p.ring = r.ring ∧ p.next = (nx fs r).1 ∧ p.cursor = cursorF fs r.who r.ring r.start ∧ p.began = (nx fs r).2 ∧ p.pool = r.pool ∧ p.ahead = r.ahead ∧ p.held = !didF fs r.who r.ring 6 := by
  obtain ⟨a, b, c, d, e, f, g, i, j⟩ := p
  simp only [RdP.er, rdOf, RdP.mk.injEq] at h
  obtain ⟨h1, h2, h3, h4, h5, h6, h7, h8, _⟩ := h
  exact ⟨h1, h2, h3, h4, h5, h6, h7, h8⟩
theorem Sim.mapR (h : Sim P M) {α : Type} {p : RdP → α} {q : RdM → α} (k : ∀ x r, x.er = rdOf M.facts r → p x = q r) (j : Nat) : (P.readers[j]?).map p = (M.readers[j]?).map q := by
  cases hm : M.readers[j]? with
  | none =>
    have := h.rd j
    rw [hm] at this
    cases hp : P.readers[j]? with
    | none => rfl
    | some p => rw [hp] at this; cases this
  | some r =>
    obtain ⟨p', h1, h2⟩ := h.rdAt hm
    rw [h1]
    simp [k _ _ h2]
theorem Sim.atE (h : Sim P M) (who ring : Int) : P.at who ring = M.at who ring := by
  unfold MdP.at MdR.at
  refine findI_congr (h.mapR fun x r hx => ?_)
  obtain ⟨h1, h2, _⟩ := er_who hx
  rw [h1, h2]
theorem Sim.len_r (h : Sim P M) : P.readers.length = M.readers.length := by
  have : P.readers.map (fun _ => ()) = M.readers.map (fun _ => ()) := by
    refine List.ext_getElem? fun k => ?_
    rw [List.getElem?_map, List.getElem?_map]
    exact h.mapR (fun _ _ _ => rfl) k
  simpa using congrArg List.length this
theorem len_of_get {α β : Type} {l : List α} {m : List β} {f : β → α} (h : ∀ k : Nat, l[k]? = (m[k]?).map f) : l = m.map f := List.ext_getElem? fun k => by rw [List.getElem?_map, h]
theorem Sim.len_w (h : Sim P M) : P.writers.length = M.writers.length := by rw [len_of_get h.wr, List.length_map]
theorem Sim.logsE (h : Sim P M) : M.logs = P.logs.map fun g => (g.size, g.many) := List.ext_getElem? fun k => by rw [List.getElem?_map, h.logs]
theorem Sim.len_l (h : Sim P M) : P.logs.length = M.logs.length := by rw [h.logsE, List.length_map]
theorem Sim.named (h : Sim P M) (who : Int) : P.named who = ((M.of who).isSome || M.readers.any fun r => decide (r.who = who)) := by
  unfold MdP.named
  congr 1
  · rw [← h.ofE]
    unfold MdP.of
    induction P.writers with
    | nil => rfl
    | cons x r ih => simp only [List.any_cons, findI, ih]; split <;> simp_all
  · exact any_congr' (h.mapR fun x r hx => by rw [(er_who hx).1])
theorem Sim.freshE (h : Sim P M) (n ring : Int) : P.fresh n ring = M.fresh n ring := by
  unfold MdP.fresh MdR.fresh
  rw [h.len_l, h.len_w, h.len_r]
theorem Sim.eventE (h : Sim P M) (ring i : Int) (h0 : 0 ≤ ring) (h1 : ring < P.logs.length) : P.event ring i = eventF M.facts ring i := by
  unfold MdP.event
  rw [if_neg (by omega)]
  have hk : ring.toNat < P.logs.length := by omega
  rw [List.getElem?_eq_getElem hk]
  have := (h.log _ _ (List.getElem?_eq_getElem hk)).ev i
  rw [show ((ring.toNat : Nat) : Int) = ring from by omega] at this
  exact this.symm
theorem Sim.heldE (h : Sim P M) (ring i : Int) (h0 : 0 ≤ ring) (h1 : ring < P.logs.length) : P.held ring i = M.held ring i := by
  unfold MdP.held MdR.held
  have hk : ring.toNat < P.logs.length := by omega
  by_cases hi : i < 0
  · rw [if_pos (by omega), if_pos hi]
  · rw [if_neg (by omega), if_neg hi, List.getElem?_eq_getElem hk]
    have hg := h.logs ring.toNat
    rw [List.getElem?_eq_getElem hk] at hg
    simp only [Option.map_some] at hg
    simp only [← hg, Option.getD_some]
    refine any_congr' (h.mapR fun x r hx => ?_)
    obtain ⟨e1, e2, e3, e4, e5, e6, e7, e8⟩ := er_who hx
    unfold heldBy heldByR
    by_cases hr : r.ring = ring
    · rw [e2, e4, e8, hr]
    · simp [e2, hr]
theorem Sim.cursorE (h : Sim P M) {i : Nat} {r : RdM} (hi : M.readers[i]? = some r) : P.cursor r.who r.ring = some (cursorF M.facts r.who r.ring r.start) := by
  have hat : M.at r.who r.ring = some i := by
    have hlt := (List.getElem?_eq_some_iff.1 hi).1
    have hri := (List.getElem?_eq_some_iff.1 hi).2
    unfold MdR.at
    refine findI_some hlt (by simp [hri]) fun j hj => ?_
    have hjl : j < M.readers.length := by omega
    cases hd : (decide ((M.readers[j]'hjl).who = r.who) && decide ((M.readers[j]'hjl).ring = r.ring)) with
    | false => rfl
    | true =>
      simp only [Bool.and_eq_true, decide_eq_true_eq] at hd
      have := h.r1 j i _ _ (List.getElem?_eq_getElem hjl) hi hd.1 hd.2
      omega
  unfold MdP.cursor
  rw [h.atE, hat]
  obtain ⟨p, hp, he⟩ := h.rdAt hi
  simp only [hp, Option.map_some]
  rw [(er_who he).2.2.2.1]
end
end Go.Proofs.Ytngfadijcpnblaa

/- The program's state and the reference's: logs, writers, readers, pools and calls more. -/
namespace Go.Proofs.Ytngfadijcpnblaa
theorem getElem?_snoc {α : Type} (l : List α) (x : α) (k : Nat) : (l ++ [x])[k]? = if k = l.length then some x else l[k]? := by
  by_cases h : k < l.length
  · rw [List.getElem?_append_left h, if_neg (by omega)]
  · by_cases e : k = l.length
    · subst e; simp
    · rw [if_neg e, List.getElem?_append_right (by omega), List.getElem?_eq_none (by simp; omega), List.getElem?_eq_none (by omega)]
theorem greatF_none : ∀ (fs : List Fact) (ring : Int), (∀ f ∈ fs, f.n.ring ≠ ring) → greatF fs ring = -1 := by
  intro fs ring h
  have : ∀ g : Int, fs.foldl (fun g f => if f.n.ring = ring ∧ f.n.deed = 1 ∧ g < f.n.seq then f.n.seq else g) g = g := by
    induction fs with
    | nil => intro g; rfl
    | cons f r ih =>
      intro g
      rw [List.foldl_cons, if_neg (fun e => h f List.mem_cons_self e.1)]
      exact ih (fun x hx => h x (List.mem_cons_of_mem _ hx)) g
  exact this (-1)
theorem eventF_none (fs : List Fact) (ring i : Int) (h : ∀ f ∈ fs, f.n.ring ≠ ring) : eventF fs ring i = none := by
  unfold eventF
  rw [findI_none fun k hk => ?_]
  have := h _ (List.getElem_mem hk)
  unfold Fact.pubs
  simp [this]
theorem callF_none (fs : List Fact) (who : Int) (h : ∀ f ∈ fs, f.n.who ≠ who) : callF fs who = ⟨0, 0, -1⟩ := by
  unfold callF
  have : ∀ s, fs.foldl (CallS.step who) s = s := by
    induction fs with
    | nil => intro s; rfl
    | cons f r ih =>
      intro s
      have h0 := h f List.mem_cons_self
      rw [List.foldl_cons]
      unfold CallS.step at ih ⊢
      rw [if_pos h0]
      exact ih (fun x hx => h x (List.mem_cons_of_mem _ hx)) s
  exact this _
theorem didF_noneW (fs : List Fact) (who ring d : Int) (h : ∀ f ∈ fs, f.n.who ≠ who) : didF fs who ring d = false := by
  unfold didF
  rw [List.any_eq_false]
  intro f hf
  simp [h f hf]
theorem nextF_none (fs : List Fact) (who ring start : Int) (h : ∀ f ∈ fs, f.n.who = who → f.n.ring ≠ ring) : nextF fs who ring start = (start, start) := by
  unfold nextF
  have : ∀ s, fs.foldl (nextStep who ring) s = s := by
    induction fs with
    | nil => intro s; rfl
    | cons f r ih =>
      intro s
      have h0 := h f List.mem_cons_self
      rw [List.foldl_cons]
      have : nextStep who ring s f = s := by
        unfold nextStep
        by_cases e : f.n.who = who
        · rw [if_pos (.inr (h0 e))]
        · rw [if_pos (.inl e)]
      rw [this]
      exact ih (fun x hx => h x (List.mem_cons_of_mem _ hx)) s
  exact this _
theorem cursorF_none (fs : List Fact) (who ring start : Int) (h : ∀ f ∈ fs, f.n.who = who → f.n.ring ≠ ring) : cursorF fs who ring start = start - 1 := by
  unfold cursorF
  have : ∀ c, fs.foldl (fun c f => if f.n.who = who ∧ f.n.ring = ring ∧ f.n.deed = 3 then f.n.seq else c) c = c := by
    induction fs with
    | nil => intro s; rfl
    | cons f r ih =>
      intro s
      have h0 := h f List.mem_cons_self
      rw [List.foldl_cons, if_neg (fun e => h0 e.1 e.2.1)]
      exact ih (fun x hx => h x (List.mem_cons_of_mem _ hx)) s
  exact this _
theorem didF_noneR (fs : List Fact) (who ring d : Int) (hr : 0 ≤ ring) (h : ∀ f ∈ fs, f.n.who = who → f.n.ring ≠ ring) : didF fs who ring d = false := by
  unfold didF
  rw [List.any_eq_false]
  intro f hf
  by_cases e : f.n.who = who
  · have := h f hf e
    simp [this]
    omega
  · simp [e]
section
variable {P : MdP} {M : MdR}
theorem Sim.fring (h : Sim P M) {f : Fact} (hf : f ∈ M.facts) : 0 ≤ f.n.ring ∧ f.n.ring < M.logs.length := by
  rcases h.known f hf with ⟨w, hw, _, e⟩ | ⟨r, hr, _, e⟩
  · rw [← e]; exact h.wring w hw
  · rw [← e]; exact h.rring r hr
theorem ofN {ws : List WrM} {who : Int} (h : findI (fun w : WrM => decide (w.who = who)) ws = none) : ∀ w ∈ ws, w.who ≠ who := fun w hw e => by
  have := findI_isN h w hw
  simp [e] at this
theorem atN {m : MdR} {who ring : Int} (h : m.at who ring = none) : ∀ r ∈ m.readers, r.who = who → r.ring ≠ ring := fun r hr e e2 => by
  have := findI_isN h r hr
  simp [e, e2] at this
theorem Sim.addLog (h : Sim P M) (size : Int) (many : Bool) : (P.addLog size many).2 = (M.addLog size many).2 ∧ Sim (P.addLog size many).1 (M.addLog size many).1 := by
  unfold MdP.addLog MdR.addLog
  rw [← h.len_l]
  by_cases h1 : size < 1 ∨ 1048576 < size
  · rw [if_pos h1, if_pos h1]; exact ⟨rfl, h⟩
  rw [if_neg h1, if_neg h1]
  by_cases h2 : 8 ≤ P.logs.length
  · rw [if_pos h2, if_pos h2]; exact ⟨rfl, h⟩
  rw [if_neg h2, if_neg h2]
  have hno : ∀ f ∈ M.facts, f.n.ring ≠ (P.logs.length : Int) := fun f hf => by have := (h.fring hf).2; rw [← h.len_l] at this; omega
  refine ⟨rfl, ⟨fun k => ?_, fun k g hk => ?_, h.wr, h.rd, h.over, h.pools, h.pool, h.start, h.known, h.w1, h.apart, h.r1, h.call, h.pub, ?_, ?_, h.rpool, h.rstart, h.rb, h.same, h.ahead, ?_, h.calls⟩⟩
  · show ((P.logs ++ [_])[k]?).map _ = (M.logs ++ [_])[k]?
    rw [getElem?_snoc, getElem?_snoc, h.len_l]
    split
    · rfl
    · exact h.logs k
  · have hk' : (P.logs ++ [(⟨size, many, [], []⟩ : LogP)])[k]? = some g := hk
    rw [getElem?_snoc] at hk'
    split at hk'
    · rename_i e
      cases hk'
      subst e
      refine ⟨rfl, by rw [greatF_none _ _ hno]; rfl, fun i => ?_⟩
      rw [eventF_none _ _ _ hno]
      unfold LogP.pub
      simp
    · exact h.log k g hk'
  · intro w hw
    have := h.wring w hw
    simp only [List.length_append, List.length_singleton]
    omega
  · intro w hw
    have := h.rring w hw
    simp only [List.length_append, List.length_singleton]
    omega
  · intro g hg
    rcases List.mem_append.1 hg with hg | hg
    · exact h.size g hg
    · simp only [List.mem_singleton] at hg
      subst hg
      constructor <;> (dsimp only; omega)
theorem freshOk {m : MdR} {n ring : Int} (h : ¬m.fresh n ring ≠ 0) : 0 ≤ ring ∧ ring < m.logs.length := by
  unfold MdR.fresh at h
  split at h
  · exact absurd (by decide) h
  · omega
theorem Sim.noWho (h : Sim P M) {who : Int} (h1 : M.of who = none) (h2 : (M.readers.any fun r => decide (r.who = who)) = false) : ∀ f ∈ M.facts, f.n.who ≠ who := fun f hf e => by
  rcases h.known f hf with ⟨w, hw, e1, _⟩ | ⟨r, hr, e1, _⟩
  · exact ofN h1 w hw (e1.trans e)
  · rw [List.any_eq_false] at h2
    exact h2 r hr (by simp [e1.trans e])
theorem Sim.addWriter (h : Sim P M) (who ring : Int) : (P.addWriter who ring).2 = (M.addWriter who ring).2 ∧ Sim (P.addWriter who ring).1 (M.addWriter who ring).1 := by
  unfold MdP.addWriter MdR.addWriter
  rw [h.freshE, h.named]
  by_cases h1 : M.fresh 1 ring ≠ 0
  · rw [if_pos h1, if_pos h1]; exact ⟨rfl, h⟩
  rw [if_neg h1, if_neg h1]
  obtain ⟨r0, r1⟩ := freshOk h1
  cases h2 : M.of who with
  | some k => simp; exact h
  | none =>
    cases h3 : M.readers.any fun r => decide (r.who = who) with
    | true => simp; exact h
    | false =>
      have hno := h.noWho h2 h3
      simp only [Option.isSome_none, Bool.or_false, Bool.false_eq_true, if_false]
      refine ⟨trivial, ⟨h.logs, h.log, fun k => ?_, h.rd, fun w hw => ?_, h.pools, h.pool, h.start, ?_, ?_, ?_, h.r1, ?_, h.pub, ?_, h.rring, h.rpool, h.rstart, h.rb, h.same, h.ahead, h.size, ?_⟩⟩
      · show (P.writers ++ [_])[k]? = ((M.writers ++ [_])[k]?).map _
        rw [getElem?_snoc, getElem?_snoc, h.len_w]
        split
        · simp [wrOf, callF_none _ _ hno, didF_noneW _ _ _ _ hno]
        · exact h.wr k
      · refine h.over w ?_
        have h4 : findI (fun x : WrM => decide (x.who = w)) (M.writers ++ [⟨who, ring, []⟩]) = none := hw
        rw [findI_append] at h4
        show findI _ M.writers = none
        cases h5 : findI (fun x : WrM => decide (x.who = w)) M.writers with
        | none => rfl
        | some k => rw [h5] at h4; cases h4
      · intro f hf
        rcases h.known f hf with ⟨w, hw, e⟩ | e
        · exact .inl ⟨w, List.mem_append_left _ hw, e⟩
        · exact .inr e
      · intro i j a b ha hb e
        have ha' : (M.writers ++ [(⟨who, ring, []⟩ : WrM)])[i]? = some a := ha
        have hb' : (M.writers ++ [(⟨who, ring, []⟩ : WrM)])[j]? = some b := hb
        rw [getElem?_snoc] at ha' hb'
        split at ha' <;> split at hb'
        · omega
        · cases ha'
          exact absurd e.symm (ofN h2 b (List.mem_of_getElem? hb'))
        · cases hb'
          exact absurd e (ofN h2 a (List.mem_of_getElem? ha'))
        · exact h.w1 i j a b ha' hb' e
      · intro w hw r hr
        rcases List.mem_append.1 hw with hw | hw
        · exact h.apart w hw r hr
        · simp only [List.mem_singleton] at hw
          subst hw
          rw [List.any_eq_false] at h3
          have := h3 r hr
          simp only [decide_eq_true_eq] at this
          exact fun e => this e.symm
      · intro w hw
        rcases List.mem_append.1 hw with hw | hw
        · exact h.call w hw
        · simp only [List.mem_singleton] at hw
          subst hw
          show CallOk (callF M.facts who) _
          rw [callF_none _ _ hno]
          exact ⟨by simp, by simp, by simp, by simp, by simp, by simp, by simp⟩
      · intro w hw
        rcases List.mem_append.1 hw with hw | hw
        · exact h.wring w hw
        · simp only [List.mem_singleton] at hw
          subst hw
          exact ⟨r0, r1⟩
      · intro w hw
        rcases List.mem_append.1 hw with hw | hw
        · exact h.calls w hw
        · simp only [List.mem_singleton] at hw
          subst hw
          intro l hl
          cases hl
theorem at_append {m : MdR} {rs : List RdM} {who ring : Int} (h : (m.at who ring).isSome = true) : (findI (fun r : RdM => decide (r.who = who) && decide (r.ring = ring)) (m.readers ++ rs)).isSome = true := by
  rw [findI_append]
  unfold MdR.at at h
  cases h1 : findI (fun r : RdM => decide (r.who = who) && decide (r.ring = ring)) m.readers with
  | none => rw [h1] at h; cases h
  | some k => rfl
/-- Readers more, none of which is known at the ring. -/
theorem Sim.more (h : Sim P M) (ring start pool : Int) (whos ahead : List Int) (P' : List PlP) (p' : Int) (hr : 0 ≤ ring ∧ ring < M.logs.length) (hs : 0 ≤ start ∧ start ≤ 4611686018427387904)
    (hof : ∀ a ∈ whos, M.of a = none ∧ M.at a ring = none) (hnd : whos.Nodup) (hah : ∀ a ∈ ahead, (M.at a ring).isSome = true)
    (hp : (pool = -1 ∧ P' = P.pools ∧ p' = M.pools) ∨ (pool = M.pools ∧ P' = P.pools ++ [⟨start, []⟩] ∧ p' = M.pools + 1 ∧ whos ≠ [])) :
    Sim { P with pools := P', readers := P.readers ++ whos.map fun a => newR a ring start pool ahead } { M with pools := p', readers := M.readers ++ whos.map fun a => (⟨a, ring, start, pool, ahead⟩ : RdM) } := by
  have hpl : (0:Int) ≤ M.pools := by rw [← h.pools]; omega
  have hno : ∀ a ∈ whos, ∀ f ∈ M.facts, f.n.who = a → f.n.ring ≠ ring := fun a ha f hf e e2 => by
    rcases h.known f hf with ⟨w, hw, e1, _⟩ | ⟨r, hr, e1, e3⟩
    · exact ofN (hof a ha).1 w hw (e1.trans e)
    · exact atN (hof a ha).2 r hr (e1.trans e) (e3.trans e2)
  have hnew : ∀ {Q : RdM → Prop}, (∀ r ∈ M.readers, Q r) → (∀ a ∈ whos, Q ⟨a, ring, start, pool, ahead⟩) → ∀ r ∈ M.readers ++ whos.map fun a => (⟨a, ring, start, pool, ahead⟩ : RdM), Q r := fun h1 h2 r hr => by
    rcases List.mem_append.1 hr with hr | hr
    · exact h1 r hr
    · obtain ⟨a, ha, rfl⟩ := List.mem_map.1 hr
      exact h2 a ha
  have hle : M.pools ≤ p' := by rcases hp with ⟨_, _, e⟩ | ⟨_, _, e, _⟩ <;> omega
  have hnewhas : ∀ (k : Int) (i : Int), (whos.map fun a => (⟨a, ring, start, pool, ahead⟩ : RdM)).any (hasBy M.facts k i) = (decide (pool = k) && decide (i < start) && !whos.isEmpty) := by
    intro k i
    rw [List.any_map]
    have : ∀ l : List Int, (∀ a ∈ l, a ∈ whos) → (l.any (hasBy M.facts k i ∘ fun a => (⟨a, ring, start, pool, ahead⟩ : RdM))) = (decide (pool = k) && decide (i < start) && !l.isEmpty) := by
      intro l
      induction l with
      | nil => intro _; simp
      | cons a l ih =>
        intro hl
        have e : M.facts.any (fun f => decide (f.n.who = a) && decide (f.n.ring = ring) && decide (f.n.deed = 2) && decide (f.n.seq = i)) = false := by
          rw [List.any_eq_false]
          intro f hf
          by_cases e : f.n.who = a
          · have := hno a (hl a List.mem_cons_self) f hf e
            simp [this]
          · simp [e]
        rw [List.any_cons, ih (fun x hx => hl x (List.mem_cons_of_mem _ hx))]
        simp only [Function.comp_apply, hasBy, e, Bool.or_false]
        cases decide (pool = k) <;> cases decide (i < start) <;> simp
    exact this whos fun a ha => ha
  have hold : ∀ k i, (∃ j : Nat, k = j ∧ j < P.pools.length) → ({ M with pools := p', readers := M.readers ++ whos.map fun a => (⟨a, ring, start, pool, ahead⟩ : RdM) } : MdR).has k i = M.has k i := by
    intro k i ⟨j, ej, hj⟩
    show (M.readers ++ _).any _ = _
    rw [List.any_append, hnewhas]
    have hne : ¬ pool = k := by
      rcases hp with ⟨e, _⟩ | ⟨e, _⟩
      · omega
      · rw [← h.pools] at e; omega
    simp only [hne, decide_false, Bool.false_and, Bool.or_false]
    rfl
  refine ⟨h.logs, h.log, h.wr, fun k => ?_, fun who hw => ?_, ?_, fun k p hk i => ?_, fun k p hk => ?_, fun f hf => ?_, h.w1, ?_, ?_, h.call, h.pub, h.wring, ?_, ?_, ?_, ?_, ?_, ?_, h.size, h.calls⟩
  · show ((P.readers ++ _)[k]?).map _ = ((M.readers ++ _)[k]?).map _
    by_cases hk : k < P.readers.length
    · rw [List.getElem?_append_left hk, List.getElem?_append_left (by rw [← h.len_r]; exact hk)]
      exact h.rd k
    · rw [List.getElem?_append_right (by omega), List.getElem?_append_right (by rw [← h.len_r]; omega), List.getElem?_map, List.getElem?_map, h.len_r]
      cases hw : whos[k - M.readers.length]? with
      | none => rfl
      | some a =>
        have ha := List.mem_of_getElem? hw
        have hn := hno a ha
        simp [RdP.er, rdOf, nx, newR, nextF_none _ _ _ _ hn, cursorF_none _ _ _ _ hn, didF_noneR _ _ _ _ hr.1 hn]
  · show (P.readers ++ _).any _ = _
    rw [List.any_append]
    have : (whos.map fun a => newR a ring start pool ahead).any (fun r => decide (r.who = who) && r.over) = false := by
      rw [List.any_map, List.any_eq_false]
      intro a _
      simp [newR]
    rw [this, Bool.or_false]
    exact h.over who hw
  · rcases hp with ⟨_, e, e2⟩ | ⟨_, e, e2, _⟩
    · show ((P'.length : Nat) : Int) = p'
      rw [e, e2, h.pools]
    · show ((P'.length : Nat) : Int) = p'
      rw [e, e2, List.length_append, List.length_singleton, ← h.pools]
      omega
  · have hk' : P'[k]? = some p := hk
    rcases hp with ⟨_, e, e2⟩ | ⟨e0, e, e2, hne⟩
    · rw [e] at hk'
      rw [hold _ _ ⟨k, rfl, (List.getElem?_eq_some_iff.1 hk').1⟩]
      exact h.pool k p hk' i
    · rw [e, getElem?_snoc] at hk'
      split at hk'
      · rename_i ek
        cases hk'
        subst ek
        show _ = (M.readers ++ _).any _
        rw [List.any_append, hnewhas]
        have h0 : M.readers.any (hasBy M.facts (P.pools.length : Int) i) = false := by
          rw [List.any_eq_false]
          intro r hr
          have := (h.rpool r hr).2
          rw [← h.pools] at this
          have : ¬ r.pool = (P.pools.length : Int) := by omega
          simp [hasBy, this]
        rw [h0, Bool.false_or, h.pools, e0]
        have : whos.isEmpty = false := by cases whos with | nil => exact absurd rfl hne | cons _ _ => rfl
        simp [PlP.has, this]
      · rw [hold _ _ ⟨k, rfl, (List.getElem?_eq_some_iff.1 hk').1⟩]
        exact h.pool k p hk' i
  · have hk' : P'[k]? = some p := hk
    rcases hp with ⟨_, e, e2⟩ | ⟨e0, e, e2, hne⟩
    · rw [e] at hk'
      obtain ⟨r, hr, e⟩ := h.start k p hk'
      exact ⟨r, List.mem_append_left _ hr, e⟩
    · rw [e, getElem?_snoc] at hk'
      split at hk'
      · rename_i ek
        cases hk'
        cases whos with
        | nil => exact absurd rfl hne
        | cons a w => exact ⟨⟨a, ring, start, pool, ahead⟩, List.mem_append_right _ (by simp), by rw [e0, ek, h.pools], rfl⟩
      · obtain ⟨r, hr, e⟩ := h.start k p hk'
        exact ⟨r, List.mem_append_left _ hr, e⟩
  · rcases h.known f hf with e | ⟨r, hr, e⟩
    · exact .inl e
    · exact .inr ⟨r, List.mem_append_left _ hr, e⟩
  · intro w hw
    refine hnew (h.apart w hw) fun a ha => ?_
    exact ofN (hof a ha).1 w hw
  · intro i j a b ha hb e1 e2
    have ha' : (M.readers ++ whos.map fun a => (⟨a, ring, start, pool, ahead⟩ : RdM))[i]? = some a := ha
    have hb' : (M.readers ++ whos.map fun a => (⟨a, ring, start, pool, ahead⟩ : RdM))[j]? = some b := hb
    have hcase : ∀ (i : Nat) (a : RdM), (M.readers ++ whos.map fun a => (⟨a, ring, start, pool, ahead⟩ : RdM))[i]? = some a → M.readers[i]? = some a ∨ (M.readers.length ≤ i ∧ whos[i - M.readers.length]? = some a.who ∧ a.ring = ring) := by
      intro i a ha
      by_cases hi : i < M.readers.length
      · rw [List.getElem?_append_left hi] at ha; exact .inl ha
      · rw [List.getElem?_append_right (by omega), List.getElem?_map] at ha
        cases hw : whos[i - M.readers.length]? with
        | none => rw [hw] at ha; cases ha
        | some x => rw [hw] at ha; cases ha; exact .inr ⟨by omega, rfl, rfl⟩
    rcases hcase i a ha' with h1 | ⟨l1, h1, g1⟩ <;> rcases hcase j b hb' with h2 | ⟨l2, h2, g2⟩
    · exact h.r1 i j a b h1 h2 e1 e2
    · exact absurd (e2.trans g2) (atN (hof _ (List.mem_of_getElem? h2)).2 a (List.mem_of_getElem? h1) e1)
    · exact absurd (e2.symm.trans g1) (atN (hof _ (List.mem_of_getElem? h1)).2 b (List.mem_of_getElem? h2) e1.symm)
    · rw [e1] at h1
      have hi := (List.getElem?_eq_some_iff.1 h1)
      have hj := (List.getElem?_eq_some_iff.1 h2)
      have := (List.getElem_inj (h₀ := hi.1) (h₁ := hj.1) hnd).1 (hi.2.trans hj.2.symm)
      omega
  · exact hnew h.rring fun a _ => hr
  · refine hnew (fun r hr => ⟨(h.rpool r hr).1, Int.lt_of_lt_of_le (h.rpool r hr).2 hle⟩) fun a _ => ?_
    show -1 ≤ pool ∧ pool < p'
    rcases hp with ⟨e, _, e2⟩ | ⟨e, _, e2, _⟩ <;> omega
  · exact hnew h.rstart fun a _ => hs
  · refine hnew h.rb fun a ha => ?_
    have hn := hno a ha
    have e : nx M.facts ⟨a, ring, start, pool, ahead⟩ = (start, start) := by unfold nx; rw [nextF_none _ _ _ _ hn]; split <;> rfl
    rw [e, show cursorF M.facts a ring start = start - 1 from cursorF_none _ _ _ _ hn]
    dsimp only
    omega
  · refine hnew (fun r hr => hnew (h.same r hr) fun a _ h0 e => ?_) fun a _ => hnew (fun s hs h0 e => ?_) fun b _ _ _ => rfl
    · have := (h.rpool r hr).2
      rcases hp with ⟨e2, _⟩ | ⟨e2, _⟩
      · have : r.pool = pool := e; omega
      · have : r.pool = pool := e; omega
    · have := (h.rpool s hs).2
      rcases hp with ⟨e2, _⟩ | ⟨e2, _⟩
      · have h0' : 0 ≤ pool := h0; omega
      · have : pool = s.pool := e; omega
  · exact hnew (fun r hr a ha => at_append (h.ahead r hr a ha)) fun a _ b hb => at_append (hah b hb)
theorem any_isNone {l : List Int} {q : Int → Option Nat} (h : (l.any fun a => (q a).isNone) = false) : ∀ a ∈ l, (q a).isSome = true := fun a ha => by
  rw [List.any_eq_false] at h
  have := h a ha
  cases hq : q a with
  | none => rw [hq] at this; simp at this
  | some _ => rfl
theorem Sim.behindE (h : Sim P M) (ring : Int) (ahead : List Int) : (ahead.any fun a => (P.at a ring).isNone) = (ahead.any fun a => (M.at a ring).isNone) := by
  simp only [h.atE]
theorem Sim.addReader (h : Sim P M) (who ring start : Int) (ahead : List Int) : (P.addReader who ring start ahead).2 = (M.addReader who ring start ahead).2 ∧ Sim (P.addReader who ring start ahead).1 (M.addReader who ring start ahead).1 := by
  unfold MdP.addReader MdR.addReader MdR.behind
  rw [h.freshE, h.ofE, h.atE, h.behindE]
  by_cases h1 : M.fresh 1 ring ≠ 0
  · rw [if_pos h1, if_pos h1]; exact ⟨rfl, h⟩
  rw [if_neg h1, if_neg h1]
  have hr := freshOk h1
  cases h2 : ((M.of who).isSome || (M.at who ring).isSome) with
  | true => simp; exact h
  | false =>
    simp only [Bool.or_eq_false_iff, Option.isSome_eq_false_iff, Option.isNone_iff_eq_none] at h2
    simp only [Bool.false_eq_true, if_false]
    by_cases h3 : start < 0 ∨ 4611686018427387904 < start
    · rw [if_pos h3, if_pos h3]; exact ⟨rfl, h⟩
    rw [if_neg h3, if_neg h3]
    cases h4 : ahead.any fun a => (M.at a ring).isNone with
    | true => simp; exact h
    | false =>
      simp only [Bool.false_eq_true, if_false, ne_eq, not_true_eq_false]
      exact ⟨trivial, h.more ring start (-1) [who] ahead P.pools M.pools hr (by omega) (fun a ha => by simp only [List.mem_singleton] at ha; subst ha; exact h2) (by simp) (any_isNone h4) (.inl ⟨rfl, rfl, rfl⟩)⟩
theorem Sim.twiceE (h : Sim P M) (ring : Int) : ∀ (l had : List Int), P.twice ring had l = M.twice ring had l
  | [], had => rfl
  | a :: r, had => by simp only [MdP.twice, MdR.twice, h.ofE, h.atE, Sim.twiceE h ring r]
theorem twice_ok {m : MdR} {ring : Int} : ∀ {l had : List Int}, m.twice ring had l = false → (∀ a ∈ l, (m.of a = none ∧ m.at a ring = none) ∧ a ∉ had) ∧ l.Nodup
  | [], had, _ => ⟨fun _ h => (by cases h), List.nodup_nil⟩
  | a :: r, had, h => by
    simp only [MdR.twice, Bool.or_eq_false_iff, Option.isSome_eq_false_iff, Option.isNone_iff_eq_none] at h
    obtain ⟨⟨⟨h1, h2⟩, h3⟩, h4⟩ := h
    obtain ⟨i1, i2⟩ := twice_ok h4
    have h3' : a ∉ had := by simpa using h3
    refine ⟨fun b hb => ?_, List.nodup_cons.2 ⟨fun hm => (i1 a hm).2 (by simp), i2⟩⟩
    rcases List.mem_cons.1 hb with rfl | hb
    · exact ⟨⟨h1, h2⟩, h3'⟩
    · exact ⟨(i1 b hb).1, fun hm => (i1 b hb).2 (List.mem_append_left _ hm)⟩
theorem Sim.addPool (h : Sim P M) (ring start : Int) (who ahead : List Int) : (P.addPool ring start who ahead).2 = (M.addPool ring start who ahead).2 ∧ Sim (P.addPool ring start who ahead).1 (M.addPool ring start who ahead).1 := by
  unfold MdP.addPool MdR.addPool MdR.behind
  rw [h.freshE, h.twiceE, h.behindE]
  by_cases h1 : M.fresh (min who.length 16) ring ≠ 0
  · rw [if_pos h1, if_pos h1]; exact ⟨rfl, h⟩
  rw [if_neg h1, if_neg h1]
  have hr := freshOk h1
  by_cases h2 : who.length = 0 ∨ 16 < who.length
  · rw [if_pos h2, if_pos h2]; exact ⟨rfl, h⟩
  rw [if_neg h2, if_neg h2]
  by_cases h3 : start < 0 ∨ 4611686018427387904 < start
  · rw [if_pos h3, if_pos h3]; exact ⟨rfl, h⟩
  rw [if_neg h3, if_neg h3]
  cases h5 : M.twice ring [] who with
  | true => simp; exact h
  | false =>
    cases h4 : ahead.any fun a => (M.at a ring).isNone with
    | true => simp; exact h
    | false =>
      simp only [Bool.false_eq_true, if_false, ne_eq, not_true_eq_false]
      obtain ⟨t1, t2⟩ := twice_ok h5
      have := h.more ring start M.pools who ahead (P.pools ++ [⟨start, []⟩]) (M.pools + 1) hr (by omega) (fun a ha => (t1 a ha).1) t2 (any_isNone h4) (.inr ⟨rfl, rfl, rfl, fun e => h2 (.inl (by rw [e]; rfl))⟩)
      rw [← h.pools] at this ⊢
      exact ⟨trivial, this⟩
theorem Sim.send (h : Sim P M) (who : Int) (l : List Ev) : (P.send who l).2 = (M.send who l).2 ∧ Sim (P.send who l).1 (M.send who l).1 := by
  unfold MdP.send MdR.send
  rw [h.ofE]
  cases h1 : M.of who with
  | none => exact ⟨rfl, h⟩
  | some k =>
    dsimp only
    by_cases h2 : l.length = 0 ∨ 64 < l.length
    · rw [if_pos h2, if_pos h2]; exact ⟨rfl, h⟩
    rw [if_neg h2, if_neg h2]
    obtain ⟨hk, _, _⟩ := findI_is h1
    have hmem : ∀ {Q : WrM → Prop}, (∀ w ∈ M.writers, Q w) → (∀ w ∈ M.writers, Q { w with calls := w.calls ++ [l] }) → ∀ w ∈ M.writers.modify k fun w => { w with calls := w.calls ++ [l] }, Q w := fun q1 q2 w hw => by
      obtain ⟨j, hj⟩ := List.getElem?_of_mem hw
      rw [List.getElem?_modify] at hj
      cases hm : M.writers[j]? with
      | none => rw [hm] at hj; cases hj
      | some x =>
        rw [hm] at hj
        simp only [Option.map_eq_map, Option.map_some, Option.some.injEq] at hj
        split at hj
        · rw [← hj]; exact q2 x (List.mem_of_getElem? hm)
        · rw [← hj]; exact q1 x (List.mem_of_getElem? hm)
    have hback : ∀ (j : Nat) (a : WrM), (M.writers.modify k fun w => { w with calls := w.calls ++ [l] })[j]? = some a → ∃ b, M.writers[j]? = some b ∧ b.who = a.who ∧ b.ring = a.ring := by
      intro j a ha
      rw [List.getElem?_modify] at ha
      cases hm : M.writers[j]? with
      | none => rw [hm] at ha; cases ha
      | some x =>
        rw [hm] at ha
        simp only [Option.map_eq_map, Option.map_some, Option.some.injEq] at ha
        refine ⟨x, rfl, ?_⟩
        split at ha <;> (rw [← ha]; exact ⟨rfl, rfl⟩)
    have hfw : ∀ (j : Nat) (b : WrM), M.writers[j]? = some b → ∃ a, (M.writers.modify k fun w => { w with calls := w.calls ++ [l] })[j]? = some a ∧ a.who = b.who ∧ a.ring = b.ring := by
      intro j b hb
      rw [List.getElem?_modify, hb]
      simp only [Option.map_eq_map, Option.map_some]
      refine ⟨_, rfl, ?_⟩
      split <;> exact ⟨rfl, rfl⟩
    refine ⟨rfl, ⟨h.logs, h.log, fun j => ?_, h.rd, fun w hw => ?_, h.pools, h.pool, h.start, fun f hf => ?_, ?_, ?_, h.r1, ?_, h.pub, ?_, h.rring, h.rpool, h.rstart, h.rb, h.same, h.ahead, h.size, ?_⟩⟩
    · show (P.writers.modify k _)[j]? = ((M.writers.modify k _)[j]?).map _
      rw [List.getElem?_modify, List.getElem?_modify, h.wr]
      cases hm : M.writers[j]? with
      | none => rfl
      | some w =>
        have hc := h.call w (List.mem_of_getElem? hm)
        simp only [Option.map_eq_map, Option.map_some]
        split
        · simp [wrOf, WrP.more, List.drop_append_of_le_length hc.e]
        · rfl
    · refine h.over w ?_
      have h4 : findI (fun x : WrM => decide (x.who = w)) (M.writers.modify k fun w => { w with calls := w.calls ++ [l] }) = none := hw
      show findI _ M.writers = none
      refine findI_none fun j hj => ?_
      obtain ⟨a, ha, e1, _⟩ := hfw j _ (List.getElem?_eq_getElem hj)
      have := findI_isN h4 a (List.mem_of_getElem? ha)
      rw [e1] at this
      exact this
    · rcases h.known f hf with ⟨w, hw, e1, e2⟩ | e
      · obtain ⟨j, hj⟩ := List.getElem?_of_mem hw
        obtain ⟨a, ha, e3, e4⟩ := hfw j w hj
        exact .inl ⟨a, List.mem_of_getElem? ha, e3.trans e1, e4.trans e2⟩
      · exact .inr e
    · intro i j a b ha hb e
      obtain ⟨a', ha', ea, _⟩ := hback i a ha
      obtain ⟨b', hb', eb, _⟩ := hback j b hb
      exact h.w1 i j a' b' ha' hb' (by rw [ea, eb, e])
    · exact hmem h.apart fun w hw r hr => h.apart w hw r hr
    · refine hmem h.call fun w hw => ?_
      have hc := h.call w hw
      refine ⟨hc.s0, hc.f0, hc.sf, ?_, fun l' hl' => ?_, hc.fm, fun hi => ?_⟩
      · have := hc.e
        simp only [List.length_append, List.length_singleton]
        omega
      · have hl'' : (w.calls ++ [l])[(callF M.facts w.who).ended]? = some l' := hl'
        rw [getElem?_snoc] at hl''
        split at hl''
        · have := hc.idle (by omega)
          show (callF M.facts w.who).shown ≤ _
          omega
        · exact hc.s1 l' hl''
      · refine hc.idle ?_
        have : (w.calls ++ [l]).length ≤ (callF M.facts w.who).ended := hi
        simp only [List.length_append, List.length_singleton] at this
        omega
    · exact hmem h.wring h.wring
    · refine hmem h.calls fun w hw l' hl' => ?_
      have hl'' : l' ∈ w.calls ++ [l] := hl'
      rcases List.mem_append.1 hl'' with hl'' | hl''
      · exact h.calls w hw l' hl''
      · simp only [List.mem_singleton] at hl''
        subst hl''
        omega
end
end Go.Proofs.Ytngfadijcpnblaa

/- The program's state and the reference's: a note more, where it may happen; that both are of one mind of it. -/
namespace Go.Proofs.Ytngfadijcpnblaa
def ev? (g : LogP) (i : Int) : Option Ev := if g.pub i then some (g.l.getD i.toNat ⟨0, 0⟩) else none
theorem pub_lt {g : LogP} (hl : g.there.length = g.l.length) {i : Int} (h : g.pub i = true) : 0 ≤ i ∧ i < g.l.length := by
  unfold LogP.pub at h
  simp only [Bool.and_eq_true, decide_eq_true_eq] at h
  refine ⟨h.1, ?_⟩
  by_cases hlt : i.toNat < g.there.length
  · omega
  · have := h.2
    rw [List.getD_eq_getElem?_getD, List.getElem?_eq_none (by omega)] at this
    cases this
theorem put_len (g : LogP) (i : Nat) (x : Ev) : (g.put i x).l.length = max g.l.length (i + 1) := by
  unfold LogP.put; simp only [List.length_set, List.length_append, List.length_replicate]; omega
theorem put_there (g : LogP) (i : Nat) (x : Ev) (hl : g.there.length = g.l.length) : (g.put i x).there.length = (g.put i x).l.length := by
  unfold LogP.put; simp only [List.length_set, List.length_append, List.length_replicate]; omega
theorem getD_grow {α : Type} (l : List α) (n : Nat) (d : α) (j : Nat) : (l ++ List.replicate n d).getD j d = l.getD j d := by
  rw [List.getD_eq_getElem?_getD, List.getD_eq_getElem?_getD]
  by_cases h : j < l.length
  · rw [List.getElem?_append_left h]
  · rw [List.getElem?_append_right (by omega), List.getElem?_eq_none (l := l) (by omega), List.getElem?_replicate]
    split <;> rfl
theorem getD_set {α : Type} (l : List α) (i : Nat) (x d : α) (j : Nat) (hi : i < l.length) : (l.set i x).getD j d = if j = i then x else l.getD j d := by
  rw [List.getD_eq_getElem?_getD, List.getD_eq_getElem?_getD, List.getElem?_set]
  by_cases e : i = j
  · subst e; simp [hi]
  · rw [if_neg e, if_neg (fun h => e h.symm)]
theorem put_pub (g : LogP) (i : Nat) (x : Ev) (hl : g.there.length = g.l.length) (j : Int) : (g.put i x).pub j = (decide (j = i) || g.pub j) := by
  unfold LogP.pub
  by_cases h0 : 0 ≤ j
  · have e : (g.put i x).there.getD j.toNat false = if j.toNat = i then true else g.there.getD j.toNat false := by
      unfold LogP.put
      rw [getD_set _ _ _ _ _ (by simp only [List.length_append, List.length_replicate]; omega), getD_grow]
    rw [e]
    by_cases e2 : j.toNat = i
    · have : j = i := by omega
      simp [this]
    · have : ¬ j = i := by omega
      simp [e2, this]
  · have : ¬ j = i := by omega
    simp [h0, this]
theorem put_getD (g : LogP) (i : Nat) (x : Ev) (j : Nat) : (g.put i x).l.getD j ⟨0, 0⟩ = if j = i then x else g.l.getD j ⟨0, 0⟩ := by
  unfold LogP.put
  rw [getD_set _ _ _ _ _ (by simp only [List.length_append, List.length_replicate]; omega), getD_grow]
theorem puts_all : ∀ (xs : List Ev) (g : LogP) (i : Nat), g.there.length = g.l.length → (g.puts i xs).there.length = (g.puts i xs).l.length ∧ (g.puts i xs).size = g.size ∧ (g.puts i xs).many = g.many
    ∧ (xs ≠ [] → (g.puts i xs).l.length = max g.l.length (i + xs.length)) ∧ (∀ j : Int, (g.puts i xs).pub j = (decide ((i : Int) ≤ j ∧ j < i + xs.length) || g.pub j))
    ∧ (∀ j : Nat, (g.puts i xs).l.getD j ⟨0, 0⟩ = if i ≤ j ∧ j < i + xs.length then xs.getD (j - i) ⟨0, 0⟩ else g.l.getD j ⟨0, 0⟩)
  | [], g, i, hl => ⟨hl, rfl, rfl, fun h => absurd rfl h, fun j => by
      have : ¬ ((i : Int) ≤ j ∧ j < i + ([] : List Ev).length) := by simp only [List.length_nil]; omega
      simp only [LogP.puts, this, decide_false, Bool.false_or], fun j => by
      have : ¬ (i ≤ j ∧ j < i + ([] : List Ev).length) := by simp only [List.length_nil]; omega
      rw [if_neg this]; rfl⟩
  | x :: r, g, i, hl => by
    obtain ⟨h1, h2, h3, h4, h5, h6⟩ := puts_all r (g.put i x) (i + 1) (put_there g i x hl)
    refine ⟨h1, h2, h3, fun _ => ?_, fun j => ?_, fun j => ?_⟩
    · show ((g.put i x).puts (i + 1) r).l.length = _
      cases r with
      | nil => simp only [LogP.puts, put_len, List.length_singleton]
      | cons y s =>
        rw [h4 (by simp), put_len]
        simp only [List.length_cons]
        omega
    · show ((g.put i x).puts (i + 1) r).pub j = _
      rw [h5, put_pub _ _ _ hl]
      simp only [List.length_cons]
      cases g.pub j with
      | true => simp
      | false =>
        simp only [Bool.or_false]
        rw [← Bool.decide_or]
        congr 1
        rw [eq_iff_iff]
        omega
    · show ((g.put i x).puts (i + 1) r).l.getD j _ = _
      rw [h6, put_getD]
      simp only [List.length_cons]
      by_cases e : j = i
      · subst e
        rw [if_neg (by omega), if_pos rfl, if_pos (by omega), Nat.sub_self]; rfl
      · rw [if_neg e]
        by_cases e2 : i + 1 ≤ j ∧ j < i + 1 + r.length
        · rw [if_pos e2, if_pos (by omega), show j - i = (j - (i + 1)) + 1 by omega]; rfl
        · rw [if_neg e2, if_neg (by omega)]

theorem nx_snoc (fs : List Fact) (f : Fact) (r : RdM) (h : f.n.who = r.who → f.n.ring ≠ r.ring) : nx (fs ++ [f]) r = nx fs r := by
  unfold nx
  rw [nextF_snoc]
  have : nextStep r.who r.ring (nextF fs r.who r.ring r.start) f = nextF fs r.who r.ring r.start := by
    unfold nextStep
    by_cases e : f.n.who = r.who
    · exact if_pos (.inr (h e))
    · exact if_pos (.inl e)
  rw [this]
theorem cursor_snoc' (fs : List Fact) (f : Fact) (r : RdM) (h : f.n.who = r.who → f.n.ring ≠ r.ring) : cursorF (fs ++ [f]) r.who r.ring r.start = cursorF fs r.who r.ring r.start := by
  rw [cursorF_snoc, if_neg (fun e => h e.1 e.2.1)]
theorem rdOf_snoc (fs : List Fact) (f : Fact) (r : RdM) (h0 : 0 ≤ r.ring) (h : f.n.who = r.who → f.n.ring ≠ r.ring) : rdOf (fs ++ [f]) r = rdOf fs r := by
  unfold rdOf
  rw [nx_snoc fs f r h, cursor_snoc' fs f r h, didF_snoc]
  have : (decide (f.n.who = r.who) && decide (f.n.deed = 6) && (decide (r.ring < 0) || decide (f.n.ring = r.ring))) = false := by
    by_cases e : f.n.who = r.who
    · have := h e
      simp [this]; omega
    · simp [e]
  rw [this, Bool.or_false]
theorem wrOf_snoc (fs : List Fact) (f : Fact) (w : WrM) (h : f.n.who ≠ w.who) : wrOf (fs ++ [f]) w = wrOf fs w := by
  unfold wrOf
  rw [callF_snoc, didF_snoc]
  unfold CallS.step
  rw [if_pos h]
  simp [h]
theorem hasBy_snoc (fs : List Fact) (f : Fact) (k i : Int) (r : RdM) : hasBy (fs ++ [f]) k i r = (hasBy fs k i r || (decide (r.pool = k) && (decide (f.n.who = r.who) && decide (f.n.ring = r.ring) && decide (f.n.deed = 2) && decide (f.n.seq = i)))) := by
  unfold hasBy
  rw [List.any_append]
  simp only [List.any_cons, List.any_nil, Bool.or_false]
  cases decide (r.pool = k) <;> simp [Bool.or_assoc]
theorem any_or {α : Type} (p q : α → Bool) : ∀ l : List α, l.any (fun x => p x || q x) = (l.any p || l.any q)
  | [] => rfl
  | x :: r => by simp only [List.any_cons, any_or p q r]; cases p x <;> cases q x <;> simp
section
variable {P : MdP} {M : MdR}
abbrev MdR.and (M : MdR) (n : Nt) (x : List Ev) : MdR := { M with facts := M.facts ++ [⟨n, x⟩] }
/-- A note of a reader. -/
theorem Sim.readerFact (h : Sim P M) {k : Nat} {r : RdM} {n : Nt} (hk : M.readers[k]? = some r) (hn : n.who = r.who) (hr : n.ring = r.ring) (hd : n.deed ≠ 1) (hof : M.of n.who = none) {P' : MdP}
    (hlogs : P'.logs = P.logs) (hwr : P'.writers = P.writers) (hrd : ∀ j : Nat, (P'.readers[j]?).map RdP.er = if j = k then some (rdOf (M.facts ++ [⟨n, []⟩]) r) else (P.readers[j]?).map RdP.er)
    (hover : ∀ who, P'.stopped who = (P.stopped who || (decide (n.who = who) && decide (n.deed = 7)))) (hpools : P'.pools.length = P.pools.length)
    (hpool : ∀ (j : Nat) p, P'.pools[j]? = some p → ∃ p0, P.pools[j]? = some p0 ∧ p.start = p0.start ∧ ∀ i, p.has i = (p0.has i || (decide (r.pool = j) && (decide (n.deed = 2) && decide (n.seq = i)))))
    (hb : -1 ≤ cursorF (M.facts ++ [⟨n, []⟩]) r.who r.ring r.start ∧ cursorF (M.facts ++ [⟨n, []⟩]) r.who r.ring r.start ≤ 4611686018427387904 ∧ 0 ≤ (nx (M.facts ++ [⟨n, []⟩]) r).1 ∧ (nx (M.facts ++ [⟨n, []⟩]) r).1 ≤ 4611686018427387905 ∧ 0 ≤ (nx (M.facts ++ [⟨n, []⟩]) r).2 ∧ (nx (M.facts ++ [⟨n, []⟩]) r).2 ≤ 4611686018427387905) :
    Sim P' (M.and n []) := by
  have hw : ∀ w ∈ M.writers, n.who ≠ w.who := fun w hw e => ofN hof w hw e.symm
  have hro : ∀ (j : Nat) s, M.readers[j]? = some s → j ≠ k → n.who = s.who → n.ring ≠ s.ring := fun j s hj hne e e2 => hne (h.r1 j k s r hj hk (e.symm.trans hn) (e2.symm.trans hr))
  refine ⟨fun j => by rw [hlogs]; exact h.logs j, fun j g hj => ?_, fun j => ?_, fun j => ?_, fun who hwho => ?_, by rw [hpools]; exact h.pools, fun j p hj i => ?_, fun j p hj => ?_, fun f hf => ?_, h.w1, h.apart, h.r1, fun w hwm => ?_, fun f hf hf1 => ?_, h.wring, h.rring, h.rpool, h.rstart, fun s hs => ?_, h.same, h.ahead, h.size, h.calls⟩
  · rw [hlogs] at hj
    obtain ⟨a, b, c⟩ := h.log j g hj
    refine ⟨a, ?_, fun i => ?_⟩
    · show _ = greatF (M.facts ++ [_]) _ + 1
      rw [greatF_snoc, if_neg (fun e => hd e.2.1)]; exact b
    · show eventF (M.facts ++ [_]) _ _ = _
      rw [eventF_snoc, c]
      have : Fact.pubs ⟨n, []⟩ j i = false := by unfold Fact.pubs; simp [hd]
      rw [this]
      split <;> rename_i hh <;> rw [← hh] <;> simp
  · rw [hwr, h.wr]
    cases hm : M.writers[j]? with
    | none => rfl
    | some w => exact congrArg some (wrOf_snoc _ _ _ (hw w (List.mem_of_getElem? hm))).symm
  · rw [hrd]
    split
    · rename_i e
      subst e
      show _ = (M.readers[j]?).map _
      rw [hk]; rfl
    · rename_i e
      rw [h.rd]
      show _ = (M.readers[j]?).map _
      cases hm : M.readers[j]? with
      | none => rfl
      | some s => exact congrArg some (rdOf_snoc _ _ _ (h.rring s (List.mem_of_getElem? hm)).1 (hro j s hm e)).symm
  · rw [hover, h.over who hwho]
    show _ = didF (M.facts ++ [_]) _ _ _
    rw [didF_snoc]
    simp
  · obtain ⟨p0, e0, e1, e2⟩ := hpool j p hj
    rw [e2, h.pool j p0 e0]
    show _ = M.readers.any (hasBy (M.facts ++ [_]) _ _)
    have : (M.readers.any (hasBy (M.facts ++ [⟨n, []⟩]) j i)) = (M.readers.any (hasBy M.facts j i) || M.readers.any fun s => decide (s.pool = j) && (decide (n.who = s.who) && decide (n.ring = s.ring) && decide (n.deed = 2) && decide (n.seq = i))) := by
      rw [← any_or]
      congr 1
      funext s
      exact hasBy_snoc _ _ _ _ _
    rw [this]
    congr 1
    cases hx : (decide (r.pool = (j : Int)) && (decide (n.deed = 2) && decide (n.seq = i))) with
    | true =>
      simp only [Bool.and_eq_true, decide_eq_true_eq] at hx
      symm
      rw [List.any_eq_true]
      exact ⟨r, List.mem_of_getElem? hk, by simp [hx.1, hx.2.1, hx.2.2, hn, hr]⟩
    | false =>
      symm
      rw [List.any_eq_false]
      intro s hs
      obtain ⟨q, hq⟩ := List.getElem?_of_mem hs
      by_cases hqk : q = k
      · subst hqk
        rw [hk] at hq
        cases hq
        simp only [Bool.and_eq_false_iff, decide_eq_false_iff_not] at hx
        simp only [Bool.and_eq_true, decide_eq_true_eq]
        intro ⟨a, ⟨_, c⟩, d⟩
        exact (hx.resolve_left (fun x => x a)).resolve_left (fun x => x c) d
      · have := hro q s hq hqk
        simp only [Bool.and_eq_true, decide_eq_true_eq]
        intro ⟨_, ⟨b, _⟩, _⟩
        exact absurd b.2 (this b.1)
  · obtain ⟨p0, e0, e1, _⟩ := hpool j p hj
    obtain ⟨s, hs, e3, e4⟩ := h.start j p0 e0
    exact ⟨s, hs, e3, e4.trans e1.symm⟩
  · rcases List.mem_append.1 hf with hf | hf
    · exact h.known f hf
    · simp only [List.mem_singleton] at hf
      subst hf
      exact .inr ⟨r, List.mem_of_getElem? hk, hn.symm, hr.symm⟩
  · have := h.call w hwm
    show CallOk (callF (M.facts ++ [_]) _) _
    rw [callF_snoc]
    unfold CallS.step
    rw [if_pos (hw w hwm)]
    exact this
  · rcases List.mem_append.1 hf with hf | hf
    · exact h.pub f hf hf1
    · simp only [List.mem_singleton] at hf
      subst hf
      exact absurd hf1 hd
  · obtain ⟨q, hq⟩ := List.getElem?_of_mem hs
    show -1 ≤ cursorF (M.facts ++ [_]) _ _ _ ∧ _
    by_cases hqk : q = k
    · subst hqk
      rw [hk] at hq
      cases hq
      exact hb
    · have := hro q s hq hqk
      show -1 ≤ cursorF (M.facts ++ [⟨n, []⟩]) _ _ _ ∧ cursorF (M.facts ++ [⟨n, []⟩]) _ _ _ ≤ _ ∧ 0 ≤ (nx (M.facts ++ [⟨n, []⟩]) s).1 ∧ (nx (M.facts ++ [⟨n, []⟩]) s).1 ≤ _ ∧ 0 ≤ (nx (M.facts ++ [⟨n, []⟩]) s).2 ∧ (nx (M.facts ++ [⟨n, []⟩]) s).2 ≤ _
      rw [cursor_snoc' _ _ _ this, nx_snoc _ _ _ this]
      exact h.rb s hs
/-- A note of a writer. -/
theorem Sim.writerFact (h : Sim P M) {k : Nat} {w : WrM} {n : Nt} {x : List Ev} (hk : M.writers[k]? = some w) (hn : n.who = w.who) (hr : n.ring = w.ring) {P' : MdP}
    (hlogs : ∀ j : Nat, (P'.logs[j]?).map (fun g => (g.size, g.many)) = (P.logs[j]?).map (fun g => (g.size, g.many))) (hlog : ∀ (j : Nat) g, P'.logs[j]? = some g → LogRel (M.facts ++ [⟨n, x⟩]) j g)
    (hwr : ∀ j : Nat, P'.writers[j]? = if j = k then some (wrOf (M.facts ++ [⟨n, x⟩]) w) else P.writers[j]?) (hrd : P'.readers = P.readers) (hpools : P'.pools = P.pools)
    (hc : CallOk ((callF M.facts w.who).step w.who ⟨n, x⟩) w) (hp : n.deed = 1 → 0 ≤ n.lo ∧ n.lo ≤ n.seq ∧ n.seq ≤ 4611686018427387904 ∧ (x.length : Int) = n.seq - n.lo + 1) :
    Sim P' (M.and n x) := by
  have hwm := List.mem_of_getElem? hk
  have hr' : ∀ r ∈ M.readers, n.who ≠ r.who := fun r hr e => h.apart w hwm r hr (hn.symm.trans e)
  have hwo : ∀ (j : Nat) v, M.writers[j]? = some v → j ≠ k → n.who ≠ v.who := fun j v hj hne e => hne (h.w1 j k v w hj hk (e.symm.trans hn))
  refine ⟨fun j => by rw [hlogs]; exact h.logs j, hlog, fun j => ?_, fun j => ?_, fun who hwho => ?_, by rw [hpools]; exact h.pools, fun j p hj i => ?_, fun j p hj => ?_, fun f hf => ?_, h.w1, h.apart, h.r1, fun v hv => ?_, fun f hf hf1 => ?_, h.wring, h.rring, h.rpool, h.rstart, fun s hs => ?_, h.same, h.ahead, h.size, h.calls⟩
  · rw [hwr]
    show _ = (M.writers[j]?).map _
    split
    · rename_i e
      subst e
      rw [hk]; rfl
    · rename_i e
      rw [h.wr]
      cases hm : M.writers[j]? with
      | none => rfl
      | some v => exact congrArg some (wrOf_snoc _ _ _ (hwo j v hm e)).symm
  · rw [hrd, h.rd]
    show _ = (M.readers[j]?).map _
    cases hm : M.readers[j]? with
    | none => rfl
    | some s => exact congrArg some (rdOf_snoc _ _ _ (h.rring s (List.mem_of_getElem? hm)).1 (fun e => absurd e (hr' s (List.mem_of_getElem? hm)))).symm
  · have hs : P'.stopped who = P.stopped who := by unfold MdP.stopped; rw [hrd]
    rw [hs, h.over who hwho]
    show _ = didF (M.facts ++ [_]) _ _ _
    rw [didF_snoc]
    have : n.who ≠ who := fun e => ofN hwho w hwm (hn.symm.trans e)
    simp [this]
  · rw [hpools] at hj
    rw [h.pool j p hj]
    show _ = M.readers.any (hasBy (M.facts ++ [_]) _ _)
    show M.readers.any _ = _
    have : ∀ l : List RdM, (∀ s ∈ l, s ∈ M.readers) → l.any (hasBy M.facts j i) = l.any (hasBy (M.facts ++ [⟨n, x⟩]) j i) := by
      intro l
      induction l with
      | nil => intro _; rfl
      | cons s l ih =>
        intro hl
        have e := hr' s (hl s List.mem_cons_self)
        rw [List.any_cons, List.any_cons, hasBy_snoc, ih (fun y hy => hl y (List.mem_cons_of_mem _ hy))]
        simp [e]
    exact this _ fun s hs => hs
  · rw [hpools] at hj
    exact h.start j p hj
  · rcases List.mem_append.1 hf with hf | hf
    · exact h.known f hf
    · simp only [List.mem_singleton] at hf
      subst hf
      exact .inl ⟨w, hwm, hn.symm, hr.symm⟩
  · show CallOk (callF (M.facts ++ [_]) _) _
    rw [callF_snoc]
    obtain ⟨q, hq⟩ := List.getElem?_of_mem hv
    by_cases hqk : q = k
    · subst hqk
      rw [hk] at hq
      cases hq
      exact hc
    · unfold CallS.step
      rw [if_pos (hwo q v hq hqk)]
      exact h.call v hv
  · rcases List.mem_append.1 hf with hf | hf
    · exact h.pub f hf hf1
    · simp only [List.mem_singleton] at hf
      subst hf
      exact hp hf1
  · show -1 ≤ cursorF (M.facts ++ [⟨n, x⟩]) _ _ _ ∧ cursorF (M.facts ++ [⟨n, x⟩]) _ _ _ ≤ _ ∧ 0 ≤ (nx (M.facts ++ [⟨n, x⟩]) s).1 ∧ (nx (M.facts ++ [⟨n, x⟩]) s).1 ≤ _ ∧ 0 ≤ (nx (M.facts ++ [⟨n, x⟩]) s).2 ∧ (nx (M.facts ++ [⟨n, x⟩]) s).2 ≤ _
    have hne : n.who = s.who → n.ring ≠ s.ring := fun e => absurd e (hr' s hs)
    rw [cursor_snoc' _ _ _ hne, nx_snoc _ _ _ hne]
    exact h.rb s hs
end
end Go.Proofs.Ytngfadijcpnblaa

/- The program's state and the reference's: whether a note may happen is the same in both, and so is what is behind it. -/
namespace Go.Proofs.Ytngfadijcpnblaa
theorem modify_at {α : Type} (l : List α) (f : α → α) (k j : Nat) : (l.modify k f)[j]? = (if j = k then (l[j]?).map f else l[j]?) := by
  rw [List.getElem?_modify]
  by_cases e : j = k
  · subst e; simp
  · have : ¬ k = j := fun h => e h.symm
    simp only [this, if_false, e]
    cases l[j]? <;> rfl
section
variable {P : MdP} {M : MdR}
/-- What is to be shown of a note: the same code; where it is 0, the same behind it; where not, nothing is changed. -/
structure Mind (P : MdP) (M : MdR) (n : Nt) (p : MdP × Int) (j : List Ev × Int) : Prop where
  code : p.2 = j.2
  yes : j.2 = 0 → Sim p.1 (M.and n j.1)
  no : j.2 ≠ 0 → p.1 = P
theorem Mind.err {n : Nt} {c : Int} (h : c ≠ 0) : Mind P M n (P, c) ([], c) := ⟨rfl, fun e => absurd e h, fun _ => rfl⟩
theorem Sim.wrAt (h : Sim P M) {k : Nat} {w : WrM} (hk : M.writers[k]? = some w) : P.writers[k]? = some (wrOf M.facts w) := by rw [h.wr, hk]; rfl
theorem Sim.anyPubE (h : Sim P M) {k : Nat} {g : LogP} (hg : P.logs[k]? = some g) : ∀ (n : Nat) (lo : Int), anyPub g lo n = anyEv M.facts k lo n
  | 0, _ => rfl
  | n + 1, lo => by
    simp only [anyPub, anyEv, Sim.anyPubE h hg n]
    congr 1
    rw [(h.log k g hg).ev]
    cases g.pub lo <;> rfl
theorem anyPub_no {g : LogP} : ∀ {n : Nat} {lo : Int}, anyPub g lo n = false → ∀ i, lo ≤ i → i < lo + n → g.pub i = false
  | 0, lo, _, i, h1, h2 => by omega
  | n + 1, lo, h, i, h1, h2 => by
    simp only [anyPub, Bool.or_eq_false_iff] at h
    by_cases e : i = lo
    · subst e; exact h.1
    · exact anyPub_no h.2 i (by omega) (by omega)
theorem Sim.writesM (h : Sim P M) {k : Nat} {w : WrM} {n : Nt} (hk : M.writers[k]? = some w) (hn : n.who = w.who) (hr : n.ring = w.ring) : Mind P M n (P.writes k (wrOf M.facts w) n) (M.writes k n) := by
  have hwm := List.mem_of_getElem? hk
  have hc := h.call w hwm
  have hcalls := h.calls w hwm
  have hring := h.wring w hwm
  have hpk := h.wrAt hk
  unfold MdP.writes MdR.writes
  have e1 : (wrOf M.facts w).over = didF M.facts n.who (-1) 7 := by rw [hn]; rfl
  have e2 : M.call k = match w.calls[(callF M.facts w.who).ended]? with | none => none | some l => some (l, (callF M.facts w.who).shown, (callF M.facts w.who).first) := by unfold MdR.call; rw [hk] <;> rfl
  obtain ⟨c, ec⟩ : ∃ c, c = callF M.facts w.who := ⟨_, rfl⟩
  rw [← ec] at hc e2
  have ew : wrOf M.facts w = ⟨w.who, w.ring, w.calls.drop c.ended, c.first, c.shown.toNat, didF M.facts w.who (-1) 7⟩ := by rw [ec]; rfl
  rw [e1]
  cases hov : didF M.facts n.who (-1) 7 with
  | true => simp only [if_true]; exact Mind.err (by decide)
  | false =>
  simp only [Bool.false_eq_true, if_false]
  have hov' : didF M.facts w.who (-1) 7 = false := by rw [← hn]; exact hov
  have hcs : (wrOf M.facts w).calls = w.calls.drop c.ended := by rw [ew]
  have hsame : ∀ x, wrOf (M.facts ++ [⟨n, x⟩]) w = ⟨w.who, w.ring, w.calls.drop (c.step w.who ⟨n, x⟩).ended, (c.step w.who ⟨n, x⟩).first, (c.step w.who ⟨n, x⟩).shown.toNat, decide (n.deed = 7)⟩ := fun x => by
    unfold wrOf
    rw [callF_snoc, ← ec, didF_snoc, hov']
    simp [hn]
  by_cases h7 : n.deed = 7
  · rw [if_pos h7, if_pos h7, hcs, e2]
    cases hl : w.calls[c.ended]? with
    | some l =>
      obtain ⟨hlt, hle⟩ := List.getElem?_eq_some_iff.1 hl
      rw [List.drop_eq_getElem_cons hlt]
      simp only [Option.isSome_some, if_true]
      exact Mind.err (by decide)
    | none =>
      rw [List.drop_eq_nil_of_le (by simpa using hl)]
      simp only [Option.isSome_none, Bool.false_eq_true, if_false]
      refine ⟨rfl, fun _ => ?_, fun e => absurd rfl e⟩
      have hst : c.step w.who ⟨n, []⟩ = c := by unfold CallS.step; rw [if_neg (by simp [hn]), if_neg (by dsimp only; omega), if_neg (by dsimp only; omega)]
      refine h.writerFact (P' := P.setW k fun w => { w with over := true }) hk hn hr (fun j => rfl) (fun j g hj => ?_) (fun j => ?_) rfl rfl (by rw [← ec, hst]; exact hc) (fun e => by omega)
      · obtain ⟨a, b, d⟩ := h.log j g hj
        refine ⟨a, ?_, fun i => ?_⟩
        · rw [greatF_snoc, if_neg (fun e => by have := e.2.1; dsimp only at this; omega)]; exact b
        · rw [eventF_snoc, d]
          have : Fact.pubs ⟨n, []⟩ j i = false := by unfold Fact.pubs; simp [h7]
          rw [this]
          split <;> rename_i hh <;> rw [← hh] <;> simp
      · show (P.writers.modify k _)[j]? = _
        rw [modify_at]
        split
        · rename_i e
          subst e
          rw [hpk, hsame, hst, ew]
          simp [h7]
        · rfl
  rw [if_neg h7, if_neg h7]
  by_cases h14 : n.deed ≠ 1 ∧ n.deed ≠ 4
  · rw [if_pos h14, if_pos h14]; exact Mind.err (by decide)
  rw [if_neg h14, if_neg h14, hcs, e2]
  cases hl : w.calls[c.ended]? with
  | none =>
    rw [List.drop_eq_nil_of_le (by simpa using hl)]
    exact Mind.err (by decide)
  | some l =>
    obtain ⟨hlt, hle⟩ := List.getElem?_eq_some_iff.1 hl
    have hlc := hcalls l (by rw [← hle]; exact List.getElem_mem hlt)
    have hs1 := hc.s1 l hl
    rw [List.drop_eq_getElem_cons hlt, hle]
    dsimp only
    have hs0 := hc.s0
    have hsf := hc.sf
    have hf0 := hc.f0
    by_cases h1 : n.deed = 1
    · rw [if_pos h1, if_pos h1]
      have hgl : w.ring.toNat < P.logs.length := by have := h.len_l; omega
      obtain ⟨g, hg⟩ : ∃ g, P.logs[w.ring.toNat]? = some g := ⟨_, List.getElem?_eq_getElem hgl⟩
      have er : (wrOf M.facts w).ring = w.ring := rfl
      rw [er, hg]
      dsimp only
      have hM : M.logs[n.ring.toNat]? = some (g.size, g.many) := by rw [hr, ← h.logs, hg]; rfl
      unfold MdP.shows MdR.showsR
      rw [hM]
      simp only [Option.getD_some]
      have eshown : (wrOf M.facts w).shown = c.shown.toNat := by rw [ew]
      have efirst : (wrOf M.facts w).first = c.first := by rw [ew]
      rw [eshown, efirst, er]
      by_cases q1 : n.lo < 0 ∨ n.seq < n.lo ∨ 4611686018427387904 < n.seq
      · rw [if_pos q1, if_pos q1]; exact Mind.err (by decide)
      rw [if_neg q1, if_neg q1]
      by_cases q2 : (0 < c.shown.toNat ∧ n.lo ≠ c.first + (c.shown.toNat : Int)) ∨ (l.length : Int) - (c.shown.toNat : Int) ≤ n.seq - n.lo
      · have hC : (0 < c.shown ∧ n.lo ≠ c.first + c.shown) ∨ (l.length : Int) - c.shown < n.seq - n.lo + 1 ∨ (g.many = true ∧ n.seq - n.lo + 1 ≠ 1) ∨ (g.many = false ∧ n.seq - n.lo + 1 ≠ (l.length : Int)) := by
          rcases q2 with q | q
          · exact .inl ⟨by omega, by omega⟩
          · exact .inr (.inl (by omega))
        rw [if_pos q2, if_pos hC]; exact Mind.err (by decide)
      rw [if_neg q2]
      by_cases q3 : (g.many = true ∧ n.seq ≠ n.lo) ∨ (g.many = false ∧ n.seq - n.lo ≠ (l.length : Int) - 1)
      · have hC : (0 < c.shown ∧ n.lo ≠ c.first + c.shown) ∨ (l.length : Int) - c.shown < n.seq - n.lo + 1 ∨ (g.many = true ∧ n.seq - n.lo + 1 ≠ 1) ∨ (g.many = false ∧ n.seq - n.lo + 1 ≠ (l.length : Int)) := by
          rcases q3 with ⟨qa, qb⟩ | ⟨qa, qb⟩
          · exact .inr (.inr (.inl ⟨qa, by omega⟩))
          · exact .inr (.inr (.inr ⟨qa, by omega⟩))
        rw [if_pos q3, if_pos hC]; exact Mind.err (by decide)
      have hC : ¬((0 < c.shown ∧ n.lo ≠ c.first + c.shown) ∨ (l.length : Int) - c.shown < n.seq - n.lo + 1 ∨ (g.many = true ∧ n.seq - n.lo + 1 ≠ 1) ∨ (g.many = false ∧ n.seq - n.lo + 1 ≠ (l.length : Int))) := by
        rintro (⟨qa, qb⟩ | qa | ⟨qa, qb⟩ | ⟨qa, qb⟩)
        · exact q2 (.inl ⟨by omega, by omega⟩)
        · exact q2 (.inr (by omega))
        · exact q3 (.inl ⟨qa, by omega⟩)
        · exact q3 (.inr ⟨qa, by omega⟩)
      rw [if_neg q3, if_neg hC]
      have q2a : c.shown < n.seq - n.lo + 1 ∨ 0 ≤ c.shown := .inr hs0
      have q2b : n.seq - n.lo + 1 ≤ (l.length : Int) - c.shown := by
        rcases Int.lt_or_le ((l.length : Int) - c.shown) (n.seq - n.lo + 1) with q | q
        · exact absurd (.inr (.inl q)) hC
        · exact q
      have q2c : 0 < c.shown → n.lo = c.first + c.shown := fun q => by
        by_cases e : n.lo = c.first + c.shown
        · exact e
        · exact absurd (.inl ⟨q, e⟩) hC
      obtain ⟨la, lb, lc⟩ := h.log _ g hg
      have erg : ((w.ring.toNat : Nat) : Int) = n.ring := by omega
      rw [erg] at lb lc
      by_cases q4 : (g.many = false ∧ n.lo ≠ (g.l.length : Int)) ∨ (g.l.length : Int) + 8192 < n.lo
      · have hD : (g.many = false ∧ n.lo ≠ greatF M.facts n.ring + 1) ∨ greatF M.facts n.ring + 8193 < n.lo := by
          rcases q4 with ⟨qa, qb⟩ | qb
          · exact .inl ⟨qa, by omega⟩
          · exact .inr (by omega)
        rw [if_pos q4, if_pos hD]; exact Mind.err (by decide)
      have hD : ¬((g.many = false ∧ n.lo ≠ greatF M.facts n.ring + 1) ∨ greatF M.facts n.ring + 8193 < n.lo) := by
        rintro (⟨qa, qb⟩ | qb)
        · exact q4 (.inl ⟨qa, by omega⟩)
        · exact q4 (.inr (by omega))
      rw [if_neg q4, if_neg hD, ← hr, h.heldE _ _ (by omega) (by rw [h.len_l]; omega)]
      clear hC hD
      cases q5 : M.held n.ring n.seq with
      | true => simp only [if_true]; exact Mind.err (by decide)
      | false =>
      simp only [Bool.false_eq_true, if_false]
      rw [h.anyPubE hg, erg]
      cases q6 : anyEv M.facts n.ring n.lo (n.seq - n.lo + 1).toNat with
      | true => simp only [if_true]; exact Mind.err (by decide)
      | false =>
      simp only [Bool.false_eq_true, if_false]
      refine ⟨rfl, fun _ => ?_, fun e => absurd rfl e⟩
      have hno : ∀ i, n.lo ≤ i → i ≤ n.seq → g.pub i = false := fun i i1 i2 => by
        have q7 := h.anyPubE hg (n.seq - n.lo + 1).toNat n.lo
        rw [erg, q6] at q7
        exact anyPub_no q7 i i1 (by omega)
      obtain ⟨xs, exs⟩ : ∃ xs, xs = (l.drop c.shown.toNat).take (n.seq - n.lo + 1).toNat := ⟨_, rfl⟩
      have hxl : (xs.length : Int) = n.seq - n.lo + 1 := by rw [exs, List.length_take, List.length_drop]; omega
      have hxn : xs ≠ [] := fun e => by rw [e] at hxl; simp at hxl; omega
      rw [← exs]
      have hst : c.step w.who ⟨n, xs⟩ = ⟨c.ended, c.shown + n.seq - n.lo + 1, if c.first < 0 then n.lo else c.first⟩ := by unfold CallS.step; rw [if_neg (by simp [hn]), if_neg (by dsimp only; omega), if_pos (by dsimp only; omega)]
      obtain ⟨p1, p2, p3, p4, p5, p6⟩ := puts_all xs g n.lo.toNat la
      have p4 := p4 hxn
      refine h.writerFact hk hn hr (fun j => ?_) (fun j g' hj => ?_) (fun j => ?_) rfl rfl ?_ (fun _ => ⟨by omega, by omega, by omega, hxl⟩)
      · show ((P.logs.modify _ _)[j]?).map _ = _
        rw [modify_at]
        split
        · rename_i e
          rw [show j = w.ring.toNat by omega, hg]
          simp only [Option.map_some]
          have ee : ((l.drop c.shown.toNat).take (n.seq - n.lo + 1).toNat) = xs := exs.symm
          rw [p2, p3]
        · rfl
      · have hj' : (P.logs.modify n.ring.toNat fun g => g.puts n.lo.toNat xs)[j]? = some g' := hj
        rw [modify_at] at hj'
        split at hj'
        · rename_i e
          rw [show j = w.ring.toNat by omega, hg] at hj'
          simp only [Option.map_some, Option.some.injEq] at hj'
          subst hj'
          have ej : (j : Int) = n.ring := by omega
          refine ⟨p1, ?_, fun i => ?_⟩
          · rw [ej, greatF_snoc, p4]
            by_cases e2 : n.ring = n.ring ∧ n.deed = 1 ∧ greatF M.facts n.ring < n.seq
            · rw [if_pos e2]; have := e2.2.2; dsimp only; omega
            · rw [if_neg e2]
              have : ¬ greatF M.facts n.ring < n.seq := fun e3 => e2 ⟨rfl, h1, e3⟩
              omega
          · rw [ej, eventF_snoc, lc, p5]
            by_cases hin : n.lo ≤ i ∧ i ≤ n.seq
            · rw [hno i hin.1 hin.2]
              simp only [Bool.false_eq_true, if_false, Bool.or_false]
              have hp : Fact.pubs ⟨n, xs⟩ n.ring i = true := by unfold Fact.pubs; simp [h1, hin]
              rw [hp, if_pos rfl, if_pos (by simp only [decide_eq_true_eq]; omega), p6, if_pos (by omega)]
              congr 2
              omega
            · have hp : Fact.pubs ⟨n, xs⟩ n.ring i = false := by
                unfold Fact.pubs
                simp only [Bool.and_eq_false_iff, decide_eq_false_iff_not]
                by_cases e3 : n.lo ≤ i
                · exact .inr (fun e4 => hin ⟨e3, e4⟩)
                · exact .inl (.inr e3)
              have hd : decide ((n.lo.toNat : Int) ≤ i ∧ i < (n.lo.toNat : Int) + xs.length) = false := by
                rw [decide_eq_false_iff_not]; omega
              rw [hp, hd, Bool.false_or]
              cases hgp : g.pub i with
              | false => simp
              | true =>
                have := pub_lt la hgp
                simp only [if_true]
                rw [p6, if_neg (by omega)]
        · rename_i e
          obtain ⟨a, b, d⟩ := h.log j g' hj'
          have hne : ¬ n.ring = (j : Int) := fun e2 => e (by omega)
          refine ⟨a, ?_, fun i => ?_⟩
          · rw [greatF_snoc, if_neg (fun e => hne e.1)]; exact b
          · rw [eventF_snoc, d]
            have : Fact.pubs ⟨n, xs⟩ j i = false := by unfold Fact.pubs; simp [hne]
            rw [this]
            split <;> rename_i hh <;> rw [← hh] <;> simp
      · show (P.writers.modify k _)[j]? = _
        rw [modify_at]
        split
        · rename_i e
          subst e
          rw [hpk, hsame, hst, ew]
          simp only [Option.map_some, Option.some.injEq, WrP.mk.injEq, true_and, h1]
          refine ⟨?_, by omega, hov'⟩
          by_cases e3 : c.first < 0
          · rw [if_pos e3, if_pos (by omega)]
          · rw [if_neg e3, if_neg (by omega)]
        · rfl
      · rw [← ec, hst]
        refine ⟨by dsimp only; omega, by dsimp only; split <;> omega, ?_, hc.e, fun l' hl' => ?_, by dsimp only; split <;> have := hc.fm <;> omega, fun e => ?_⟩
        · dsimp only
          constructor
          · intro e; omega
          · split <;> omega
        · have : l' = l := by
            have := hl'.symm.trans hl
            exact Option.some.inj this
          subst this
          dsimp only
          omega
        · exact absurd e (by simp only [Nat.not_le]; exact hlt)
    · rw [if_neg h1, if_neg h1]
      have h4 : n.deed = 4 := by omega
      have eshown : (wrOf M.facts w).shown = c.shown.toNat := by rw [ew]
      have efirst : (wrOf M.facts w).first = c.first := by rw [ew]
      rw [eshown, efirst]
      have fin : Sim (P.setW k fun w => { w with calls := w.calls.drop 1, first := -1, shown := 0 }) (M.and n []) := by
        have hst : c.step w.who ⟨n, []⟩ = ⟨c.ended + 1, 0, -1⟩ := by unfold CallS.step; rw [if_neg (by simp [hn]), if_pos (by dsimp only; omega)]
        refine h.writerFact hk hn hr (fun j => rfl) (fun j g hj => ?_) (fun j => ?_) rfl rfl ?_ (fun e => absurd e h1)
        · obtain ⟨a, b, d⟩ := h.log j g hj
          refine ⟨a, ?_, fun i => ?_⟩
          · rw [greatF_snoc, if_neg (fun e => h1 e.2.1)]; exact b
          · rw [eventF_snoc, d]
            have : Fact.pubs ⟨n, []⟩ j i = false := by unfold Fact.pubs; simp [h1]
            rw [this]
            split <;> rename_i hh <;> rw [← hh] <;> simp
        · show (P.writers.modify k _)[j]? = _
          rw [modify_at]
          split
          · rename_i e
            subst e
            rw [hpk, hsame, hst, ew]
            simp [h7, hov']
          · rfl
        · rw [← ec, hst]
          exact ⟨by simp, by simp, by simp, by dsimp only; omega, fun l' _ => by simp, by simp, by simp⟩
      by_cases hcode : n.code ≠ 0
      · rw [if_pos hcode]
        by_cases hsh : 0 < c.shown
        · rw [if_pos ⟨hcode, by omega⟩, if_pos hsh]; exact Mind.err (by decide)
        · rw [if_neg (by omega), if_neg hsh, if_neg (by omega)]
          exact ⟨rfl, fun _ => fin, fun e => absurd rfl e⟩
      · rw [if_neg hcode, if_neg (fun e => hcode e.1)]
        by_cases hbad : c.shown ≠ (l.length : Int) ∨ n.lo ≠ c.first ∨ n.seq ≠ c.first + c.shown - 1
        · rw [if_pos hbad, if_pos (by omega)]; exact Mind.err (by decide)
        · rw [if_neg hbad, if_neg (by omega)]
          exact ⟨rfl, fun _ => fin, fun e => absurd rfl e⟩
end
end Go.Proofs.Ytngfadijcpnblaa

/- The program's state and the reference's: a reader's note; any note. -/
namespace Go.Proofs.Ytngfadijcpnblaa
section
variable {P : MdP} {M : MdR}
theorem nx_self (fs : List Fact) (f : Fact) (r : RdM) (h1 : f.n.who = r.who) (h2 : f.n.ring = r.ring) : nx (fs ++ [f]) r = if r.pool < 0 then (if f.n.deed = 2 then ((nx fs r).1 + 1, (nx fs r).2) else if f.n.deed = 4 then ((nx fs r).1, (nx fs r).1) else nx fs r) else nx fs r := by
  unfold nx
  by_cases hp : r.pool < 0
  · simp only [hp, if_true]
    rw [nextF_snoc]
    unfold nextStep
    rw [if_neg (by simp [h1, h2])]
  · simp only [hp, if_false]
theorem cursor_self (fs : List Fact) (f : Fact) (r : RdM) (h1 : f.n.who = r.who) (h2 : f.n.ring = r.ring) : cursorF (fs ++ [f]) r.who r.ring r.start = if f.n.deed = 3 then f.n.seq else cursorF fs r.who r.ring r.start := by
  rw [cursorF_snoc]
  simp [h1, h2]
theorem left_self (fs : List Fact) (f : Fact) (r : RdM) (h1 : f.n.who = r.who) (h2 : f.n.ring = r.ring) : didF (fs ++ [f]) r.who r.ring 6 = (didF fs r.who r.ring 6 || decide (f.n.deed = 6)) := by
  rw [didF_snoc]
  simp [h1, h2]
theorem stopped_setR (P : MdP) (k : Nat) (f : RdP → RdP) (hf : ∀ r, (f r).who = r.who ∧ (f r).over = r.over) (who : Int) : (P.setR k f).stopped who = P.stopped who := by
  unfold MdP.stopped MdP.setR
  refine any_congr' fun j => ?_
  rw [modify_at]
  split
  · cases P.readers[j]? with
    | none => rfl
    | some r => simp [hf r]
  · rfl
theorem er_setR (P : MdP) (k : Nat) (f : RdP → RdP) (j : Nat) {p : RdP} (hk : P.readers[k]? = some p) : ((P.setR k f).readers[j]?).map RdP.er = if j = k then some (f p).er else (P.readers[j]?).map RdP.er := by
  show ((P.readers.modify k f)[j]?).map _ = _
  rw [modify_at]
  split
  · rename_i e; subst e; rw [hk]; rfl
  · rfl
theorem Sim.pubEv (h : Sim P M) {ring i : Int} {x : Ev} (hx : eventF M.facts ring i = some x) : 0 ≤ i ∧ i ≤ 4611686018427387904 := by
  unfold eventF at hx
  cases hf : findI (·.pubs ring i) M.facts with
  | none => rw [hf] at hx; cases hx
  | some k =>
    obtain ⟨hk, hp, _⟩ := findI_is hf
    unfold Fact.pubs at hp
    simp only [Bool.and_eq_true, decide_eq_true_eq] at hp
    have := h.pub _ (List.getElem_mem hk) hp.1.1.2
    omega
theorem Sim.blocksE (h : Sim P M) {ring : Int} (i : Int) {a : Int} : P.blocks ring i a = M.blocks ring i a := by
  unfold MdP.blocks MdR.blocks
  rw [h.atE]
  cases hat : M.at a ring with
  | none => rfl
  | some o =>
    obtain ⟨hlt, _, _⟩ := findI_is hat
    have hm : M.readers[o]? = some M.readers[o] := List.getElem?_eq_getElem hlt
    obtain ⟨p, hp, he⟩ := h.rdAt hm
    obtain ⟨e1, e2, e3, e4, e5, e6, e7, e8⟩ := er_who he
    dsimp only
    rw [hm, hp]
    dsimp only
    rw [e6, e4]
    by_cases hpool : M.readers[o].pool < 0
    · rw [if_pos hpool, if_pos hpool]
    · rw [if_neg hpool, if_neg hpool]
      have hr := h.rpool _ (List.mem_of_getElem? hm)
      have hlt2 : (M.readers[o].pool).toNat < P.pools.length := by have := h.pools; omega
      have hpp : P.pools[(M.readers[o].pool).toNat]? = some P.pools[(M.readers[o].pool).toNat] := List.getElem?_eq_getElem hlt2
      rw [hpp]
      dsimp only
      rw [h.pool _ _ hpp, show (((M.readers[o].pool).toNat : Nat) : Int) = M.readers[o].pool by omega]
theorem any_congr_mem {α : Type} {p q : α → Bool} : ∀ {l : List α}, (∀ x ∈ l, p x = q x) → l.any p = l.any q
  | [], _ => rfl
  | x :: r, h => by rw [List.any_cons, List.any_cons, h x List.mem_cons_self, any_congr_mem fun y hy => h y (List.mem_cons_of_mem _ hy)]
theorem has_put (p : PlP) (j : Nat) (i : Int) : (p.put j).has i = (p.has i || (decide (p.start ≤ i) && decide (i = p.start + j))) := by
  unfold PlP.has PlP.put
  dsimp only
  by_cases h : i < p.start
  · simp [h]
  · rw [getD_set _ _ _ _ _ (by simp only [List.length_append, List.length_replicate]; omega), getD_grow]
    by_cases e : (i - p.start).toNat = j
    · have e2 : i = p.start + j := by omega
      have e3 : p.start ≤ i := by omega
      rw [if_pos e, decide_eq_true e2, decide_eq_true e3]; simp
    · have : ¬ i = p.start + j := by omega
      simp [e, h, this]
theorem Sim.readsM (h : Sim P M) {n : Nt} (hr0 : 0 ≤ n.ring) (hr1 : n.ring < M.logs.length) (hof : M.of n.who = none) : Mind P M n (P.reads n) ([], M.reads n) := by
  unfold MdP.reads MdR.reads
  rw [h.atE]
  cases hat : M.at n.who n.ring with
  | none => exact Mind.err (by decide)
  | some k =>
  obtain ⟨hlt, hpk, _⟩ := findI_is hat
  obtain ⟨r, hr⟩ : ∃ r, M.readers[k]? = some r := ⟨_, List.getElem?_eq_getElem hlt⟩
  have hre : M.readers[k] = r := (List.getElem?_eq_some_iff.1 hr).2
  rw [hre] at hpk
  simp only [Bool.and_eq_true, decide_eq_true_eq] at hpk
  obtain ⟨hn, hrg⟩ := hpk
  have hn := hn.symm
  have hrg := hrg.symm
  obtain ⟨p, hp, he⟩ := h.rdAt hr
  have hrm := List.mem_of_getElem? hr
  obtain ⟨e1, e2, e3, e4, e5, e6, e7, e8⟩ := er_who he
  have hb := h.rb r hrm
  have hrp := h.rpool r hrm
  dsimp only
  rw [hr, hp]
  dsimp only
  rw [h.over _ hof]
  by_cases hst : didF M.facts n.who (-1) 7 = true ∧ n.deed ≠ 6
  · rw [if_pos hst, if_pos hst]; exact Mind.err (by decide)
  rw [if_neg hst, if_neg hst]
  -- the fact's own
  have hnx := nx_self M.facts ⟨n, []⟩ r hn hrg
  have hcu := cursor_self M.facts ⟨n, []⟩ r hn hrg
  have hle := left_self M.facts ⟨n, []⟩ r hn hrg
  dsimp only at hnx hcu hle
  have hnx' : n.deed ≠ 2 → n.deed ≠ 4 → nx (M.facts ++ [⟨n, []⟩]) r = nx M.facts r := fun a b => by rw [hnx, if_neg a, if_neg b, ite_self]
  have hpe : p.er = ⟨r.who, r.ring, (nx M.facts r).1, cursorF M.facts r.who r.ring r.start, (nx M.facts r).2, r.pool, r.ahead, !didF M.facts r.who r.ring 6, false⟩ := he
  have hnew : rdOf (M.facts ++ [⟨n, []⟩]) r = ⟨r.who, r.ring, (nx (M.facts ++ [⟨n, []⟩]) r).1, cursorF (M.facts ++ [⟨n, []⟩]) r.who r.ring r.start, (nx (M.facts ++ [⟨n, []⟩]) r).2, r.pool, r.ahead, !didF (M.facts ++ [⟨n, []⟩]) r.who r.ring 6, false⟩ := rfl
  have hsame : ∀ (j : Nat) q, P.pools[j]? = some q → n.deed ≠ 2 → ∃ p0, P.pools[j]? = some p0 ∧ q.start = p0.start ∧ ∀ i, q.has i = (p0.has i || (decide (r.pool = j) && (decide (n.deed = 2) && decide (n.seq = i)))) := fun j q hq hd => ⟨q, hq, rfl, fun i => by simp [hd]⟩
  have hev : P.event p.ring n.seq = eventF M.facts n.ring n.seq := by rw [e2, ← hrg]; exact h.eventE _ _ hr0 (by rw [h.len_l]; exact hr1)
  unfold MdR.readsAt
  dsimp only
  by_cases h2 : n.deed = 2
  · rw [if_pos h2, if_pos h2]
    unfold MdP.handles MdR.handles
    rw [hev]
    cases hx : eventF M.facts n.ring n.seq with
    | none => exact Mind.err (by decide)
    | some x =>
      have hpub := h.pubEv hx
      dsimp only
      by_cases q1 : n.lo ≠ n.seq
      · rw [if_pos q1, if_pos q1]; exact Mind.err (by decide)
      rw [if_neg q1, if_neg q1]
      by_cases q2 : x ≠ n.x
      · rw [if_pos q2, if_pos q2]; exact Mind.err (by decide)
      rw [if_neg q2, if_neg q2]
      have hbl : p.ahead.any (P.blocks p.ring n.seq) = r.ahead.any (M.blocks n.ring n.seq) := by
        rw [e7, e2, ← hrg]
        exact any_congr_mem fun a _ => h.blocksE _
      rw [hbl]
      cases q3 : r.ahead.any (M.blocks n.ring n.seq) with
      | true => simp only [if_true]; exact Mind.err (by decide)
      | false =>
      simp only [Bool.false_eq_true, if_false]
      by_cases hpool : r.pool < 0
      · rw [e6, if_pos hpool, if_neg (show ¬ 0 ≤ r.pool by omega), e3]
        have hnn : (nx M.facts r).1 = (nextF M.facts r.who r.ring r.start).1 := by unfold nx; rw [if_pos hpool]
        rw [← hnn]
        by_cases q4 : n.seq ≠ (nx M.facts r).1
        · rw [if_pos q4, if_pos q4]; exact Mind.err (by decide)
        rw [if_neg q4, if_neg q4]
        rw [if_pos hpool, if_pos h2] at hnx
        rw [if_neg (show ¬ n.deed = 3 by omega)] at hcu
        refine ⟨rfl, fun _ => ?_, fun e => absurd rfl e⟩
        refine h.readerFact hr hn hrg (by omega) hof rfl rfl (fun j => ?_) (fun who => ?_) rfl (fun j q hq => ⟨q, hq, rfl, fun i => ?_⟩) ?_
        · rw [er_setR _ _ _ _ hp, hnew, hnx, hcu, hle]
          have e3' := e3; have e4' := e4; have e5' := e5
          simp only [RdP.er, e1, e2, e3, e4, e5, e6, e7, e8]
          simp [h2]
        · refine Eq.trans (stopped_setR P k _ (by intro _; exact ⟨rfl, rfl⟩) who) ?_; simp [h2]
        · have : ¬ r.pool = (j : Int) := by omega
          simp [this]
        · rw [hnx, hcu]; dsimp only; omega
      · rw [e6, if_neg hpool, if_pos (show 0 ≤ r.pool by omega)]
        have hlt2 : r.pool.toNat < P.pools.length := by have := h.pools; omega
        obtain ⟨q, hq⟩ : ∃ q, P.pools[r.pool.toNat]? = some q := ⟨_, List.getElem?_eq_getElem hlt2⟩
        have hcast : ((r.pool.toNat : Nat) : Int) = r.pool := by omega
        rw [hq]
        dsimp only
        rw [h.pool _ _ hq, hcast]
        cases q4 : M.has r.pool n.seq with
        | true => simp only [if_true]; exact Mind.err (by decide)
        | false =>
        simp only [Bool.false_eq_true, if_false]
        have hqs : q.start ≤ n.seq := by
          have q5 := h.pool _ _ hq n.seq
          rw [hcast, q4] at q5
          unfold PlP.has at q5
          simp only [Bool.or_eq_false_iff, decide_eq_false_iff_not] at q5
          omega
        rw [if_neg hpool] at hnx
        rw [if_neg (show ¬ n.deed = 3 by omega)] at hcu
        refine ⟨rfl, fun _ => ?_, fun e => absurd rfl e⟩
        refine h.readerFact hr hn hrg (by omega) hof rfl rfl (fun j => ?_) (fun who => ?_) (List.length_modify ..) (fun j q' hq' => ?_) ?_
        · rw [hnew, hnx, hcu, hle]
          show (P.readers[j]?).map _ = _
          split
          · rename_i e
            subst e
            rw [hp]
            simp only [Option.map_some, hpe, h2]
            simp
          · rfl
        · simp [MdP.stopped, h2]
        · have hq2 : (P.pools.modify r.pool.toNat fun p => p.put (n.seq - p.start).toNat)[j]? = some q' := hq'
          rw [modify_at] at hq2
          split at hq2
          · rename_i e
            subst e
            rw [hq] at hq2
            simp only [Option.map_some, Option.some.injEq] at hq2
            subst hq2
            refine ⟨q, hq, rfl, fun i => ?_⟩
            rw [has_put]
            congr 1
            rw [← Bool.decide_and, ← Bool.decide_and, ← Bool.decide_and]
            congr 1
            rw [eq_iff_iff]
            omega
          · rename_i e
            refine ⟨q', hq2, rfl, fun i => ?_⟩
            have : ¬ r.pool = (j : Int) := by omega
            simp [this]
        · rw [hnx, hcu]; exact hb
  rw [if_neg h2, if_neg h2]
  by_cases h3 : n.deed = 3
  · rw [if_pos h3, if_pos h3]
    unfold MdP.moves MdR.moves
    rw [e4, e6, e3, hev]
    have hnn : r.pool < 0 → (nx M.facts r).1 = (nextF M.facts r.who r.ring r.start).1 := fun hpool => by unfold nx; rw [if_pos hpool]
    by_cases q1 : n.lo ≠ cursorF M.facts r.who r.ring r.start + 1 ∨ n.seq < n.lo
    · rw [if_pos q1, if_pos (by rcases q1 with q | q; exact .inl q; exact .inr (.inl q))]; exact Mind.err (by decide)
    rw [if_neg q1]
    by_cases q2 : r.pool < 0 ∧ n.seq ≠ (nx M.facts r).1 - 1
    · rw [if_pos q2, if_pos (.inr (.inr ⟨q2.1, by rw [← hnn q2.1]; exact q2.2⟩))]; exact Mind.err (by decide)
    have hC : ¬(n.lo ≠ cursorF M.facts r.who r.ring r.start + 1 ∨ n.seq < n.lo ∨ (r.pool < 0 ∧ n.seq ≠ (nextF M.facts r.who r.ring r.start).1 - 1)) := by
      rintro (q | q | ⟨qa, qb⟩)
      · exact q1 (.inl q)
      · exact q1 (.inr q)
      · exact q2 ⟨qa, by rw [hnn qa]; exact qb⟩
    rw [if_neg q2, if_neg hC]
    cases hx : eventF M.facts n.ring n.seq with
    | none => exact Mind.err (by decide)
    | some x =>
      have hpub := h.pubEv hx
      simp only [Option.isNone_some, Bool.false_eq_true, if_false]
      refine ⟨rfl, fun _ => ?_, fun e => absurd rfl e⟩
      have hnx := hnx' (by omega) (by omega)
      rw [if_pos h3] at hcu
      refine h.readerFact hr hn hrg (by omega) hof rfl rfl (fun j => ?_) (fun who => ?_) rfl (fun j q hq => hsame j q hq (by omega)) ?_
      · rw [er_setR _ _ _ _ hp, hnew, hnx, hcu, hle]
        simp only [RdP.er, e1, e2, e3, e4, e5, e6, e7, e8]
        simp [h3]
      · refine Eq.trans (stopped_setR P k _ (by intro _; exact ⟨rfl, rfl⟩) who) ?_; simp [h3]
      · rw [hnx, hcu]; omega
  rw [if_neg h3, if_neg h3]
  by_cases h4 : n.deed = 4
  · rw [if_pos h4, if_pos h4]
    unfold MdP.returns
    rw [e4, e6, e3, e5]
    by_cases hpool : 0 ≤ r.pool
    · rw [if_pos hpool, if_pos hpool]; exact Mind.err (by decide)
    rw [if_neg hpool, if_neg hpool]
    have hnn : nx M.facts r = nextF M.facts r.who r.ring r.start := by unfold nx; rw [if_pos (by omega)]
    rw [← hnn]
    have fin : Sim (P.setR k fun r => { r with began := r.next }) (M.and n []) := by
      rw [if_pos (show r.pool < 0 by omega), if_neg h2, if_pos h4] at hnx
      rw [if_neg (show ¬ n.deed = 3 by omega)] at hcu
      refine h.readerFact hr hn hrg (by omega) hof rfl rfl (fun j => ?_) (fun who => ?_) rfl (fun j q hq => hsame j q hq (by omega)) ?_
      · rw [er_setR _ _ _ _ hp, hnew, hnx, hcu, hle]
        simp only [RdP.er, e1, e2, e3, e4, e5, e6, e7, e8]
        simp [h4]
      · refine Eq.trans (stopped_setR P k _ (by intro _; exact ⟨rfl, rfl⟩) who) ?_; simp [h4]
      · rw [hnx, hcu]; dsimp only; omega
    by_cases hc : n.code ≠ 0
    · rw [if_pos hc]
      by_cases q1 : (nx M.facts r).1 ≠ (nx M.facts r).2
      · rw [if_pos ⟨hc, q1⟩, if_pos q1]; exact Mind.err (by decide)
      · rw [if_neg (fun e => q1 e.2), if_neg q1, if_neg (fun e => hc e.1)]
        exact ⟨rfl, fun _ => fin, fun e => absurd rfl e⟩
    · rw [if_neg hc, if_neg (fun e => hc e.1)]
      by_cases q1 : n.lo ≠ (nx M.facts r).2 ∨ n.seq ≠ (nx M.facts r).1 - 1 ∨ n.seq < n.lo ∨ cursorF M.facts r.who r.ring r.start ≠ n.seq
      · rw [if_pos ⟨by omega, q1⟩, if_pos q1]; exact Mind.err (by decide)
      · rw [if_neg (fun e => q1 e.2), if_neg q1]
        exact ⟨rfl, fun _ => fin, fun e => absurd rfl e⟩
  rw [if_neg h4, if_neg h4]
  by_cases h6 : n.deed = 6
  · rw [if_pos h6, if_neg (show ¬ n.deed = 5 by omega), if_pos h6]
    unfold MdP.leaves
    rw [e8, e4, hn, hrg]
    by_cases q1 : didF M.facts r.who r.ring 6 = true ∨ n.seq ≠ cursorF M.facts r.who r.ring r.start
    · rw [if_pos (by rcases q1 with q | q; exact .inl (by rw [q]; rfl); exact .inr q), if_pos q1]; exact Mind.err (by decide)
    · rw [if_neg (by rintro (q | q); exact q1 (.inl (by simpa using q)); exact q1 (.inr q)), if_neg q1]
      have hnx := hnx' (by omega) (by omega)
      rw [if_neg (show ¬ n.deed = 3 by omega)] at hcu
      refine ⟨rfl, fun _ => ?_, fun e => absurd rfl e⟩
      refine h.readerFact hr hn hrg (by omega) hof rfl rfl (fun j => ?_) (fun who => ?_) rfl (fun j q hq => hsame j q hq (by omega)) ?_
      · rw [er_setR _ _ _ _ hp, hnew, hnx, hcu, hle]
        simp only [RdP.er, e1, e2, e3, e4, e5, e6, e7, e8]
        simp [h6]
      · refine Eq.trans (stopped_setR P k _ (by intro _; exact ⟨rfl, rfl⟩) who) ?_; simp [h6]
      · rw [hnx, hcu]; exact hb
  rw [if_neg h6]
  have hplain : n.deed ≠ 1 → ∀ P' : MdP, P'.logs = P.logs → P'.writers = P.writers → P'.pools = P.pools → (∀ j : Nat, (P'.readers[j]?).map RdP.er = (P.readers[j]?).map RdP.er) → (∀ who, P'.stopped who = (P.stopped who || (decide (n.who = who) && decide (n.deed = 7)))) → Sim P' (M.and n []) := fun h1 P' x1 x2 x3 x4 x5 => by
    have hnx := hnx' h2 h4
    rw [if_neg h3] at hcu
    refine h.readerFact hr hn hrg h1 hof x1 x2 (fun j => ?_) x5 (by rw [x3]) (fun j q hq => hsame j q (by rw [← x3]; exact hq) h2) ?_
    · rw [x4, hnew, hnx, hcu, hle]
      split
      · rename_i e
        subst e
        rw [hp]
        simp only [Option.map_some, hpe]
        simp [h6]
      · rfl
    · rw [hnx, hcu]; exact hb
  by_cases h7 : n.deed = 7
  · rw [if_pos h7, if_neg (show ¬ n.deed = 5 by omega), if_neg h6, if_pos h7]
    refine ⟨rfl, fun _ => ?_, fun e => absurd rfl e⟩
    refine hplain (by omega) (P.stops n.who) rfl rfl rfl (fun j => ?_) fun who => ?_
    · show ((P.readers.map _)[j]?).map _ = _
      rw [List.getElem?_map]
      cases P.readers[j]? with
      | none => rfl
      | some s =>
        simp only [Option.map_some, Option.some.injEq]
        split <;> rfl
    · show ((P.readers.map _).any _) = _
      rw [List.any_map]
      unfold MdP.stopped
      simp only [h7, decide_true, Bool.and_true]
      by_cases ew : n.who = who
      · simp only [ew, decide_true, Bool.or_true]
        rw [List.any_eq_true]
        refine ⟨p, List.mem_of_getElem? hp, ?_⟩
        simp [e1, ← hn, ew]
      · simp only [ew, decide_false, Bool.or_false]
        refine any_congr_mem fun s _ => ?_
        by_cases es : s.who = n.who
        · have : ¬ n.who = who := ew
          simp [es, this]
        · simp [es]
  rw [if_neg h7]
  by_cases h5 : n.deed = 5
  · rw [if_pos h5, if_pos h5, e4]
    by_cases q1 : n.seq ≤ cursorF M.facts r.who r.ring r.start
    · rw [if_pos q1, if_pos q1]; exact Mind.err (by decide)
    · rw [if_neg q1, if_neg q1]
      exact ⟨rfl, fun _ => hplain (by omega) P rfl rfl rfl (fun _ => rfl) (fun who => by simp [h7]), fun e => absurd rfl e⟩
  · rw [if_neg h5, if_neg h5, if_neg h6, if_neg h7]; exact Mind.err (by decide)
/-- Any note. -/
theorem Sim.take (h : Sim P M) (n : Nt) : (P.take n).2 = (M.take n).2 ∧ Sim (P.take n).1 (M.take n).1 ∧ ((M.take n).2 ≠ 0 → (P.take n).1 = P) := by
  have hmind : Mind P M n (P.take n) (M.judge n) := by
    unfold MdP.take MdR.judge
    rw [h.len_l, h.ofE]
    by_cases q : n.ring < 0 ∨ (M.logs.length : Int) ≤ n.ring
    · rw [if_pos q, if_pos q]; exact Mind.err (by decide)
    rw [if_neg q, if_neg q]
    cases hof : M.of n.who with
    | none => exact h.readsM (by omega) (by omega) hof
    | some k =>
      obtain ⟨hlt, hw, _⟩ := findI_is hof
      have hk : M.writers[k]? = some M.writers[k] := List.getElem?_eq_getElem hlt
      have hw : M.writers[k].who = n.who := by simpa using hw
      dsimp only
      rw [h.wrAt hk, hk]
      dsimp only
      have er : (wrOf M.facts M.writers[k]).ring = M.writers[k].ring := rfl
      rw [er]
      by_cases hr : M.writers[k].ring = n.ring
      · rw [if_pos hr, if_pos hr]; exact h.writesM hk hw.symm hr.symm
      · rw [if_neg hr, if_neg hr]
        have hat : M.at n.who n.ring = none := findI_none fun i hi => by
          have := h.apart _ (List.mem_of_getElem? hk) _ (List.getElem_mem hi)
          rw [hw] at this
          have : ¬ M.readers[i].who = n.who := fun e => this e.symm
          simp [this]
        unfold MdP.reads MdR.reads
        rw [h.atE, hat]
        exact Mind.err (by decide)
  unfold MdR.take
  by_cases hc : (M.judge n).2 = 0
  · rw [if_pos hc]
    exact ⟨hmind.code.trans hc, hmind.yes hc, fun e => absurd rfl e⟩
  · rw [if_neg hc]
    refine ⟨hmind.code, ?_, fun _ => hmind.no hc⟩
    rw [hmind.no hc]
    exact h
end
end Go.Proofs.Ytngfadijcpnblaa

/- What is done, in both; how large it gets; what stays as it was: the plain laws of norialaw23. -/
namespace Go.Proofs.Ytngfadijcpnblaa
structure Opn where
  kind : Int
  who : Int
  ring : Int
  from' : Int
  many : Bool
  all : List Int
  ahead : List Int
  l : List Ev
  n : Nt
/-- What do does in the program's. -/
def MdP.op (m : MdP) (o : Opn) : MdP × Int :=
  if o.kind = 0 then m.addLog o.from' o.many else if o.kind = 1 then m.addWriter o.who o.ring else if o.kind = 2 then m.addReader o.who o.ring o.from' o.ahead
  else if o.kind = 3 then m.addPool o.ring o.from' o.all o.ahead else if o.kind = 4 then m.send o.who o.l else if o.kind = 5 then m.take o.n else (m, 0)
def MdR.op (m : MdR) (o : Opn) : MdR × Int :=
  if o.kind = 0 then m.addLog o.from' o.many else if o.kind = 1 then m.addWriter o.who o.ring else if o.kind = 2 then m.addReader o.who o.ring o.from' o.ahead
  else if o.kind = 3 then m.addPool o.ring o.from' o.all o.ahead else if o.kind = 4 then m.send o.who o.l else if o.kind = 5 then m.take o.n else (m, 0)
/-- What apply does. -/
def MdP.apply (m : MdP) (o : Opn) : MdP × Int :=
  if o.kind = 0 then m.addLog o.from' o.many else if o.kind = 1 then m.addWriter o.who o.ring else if o.kind = 2 then m.addReader o.who o.ring o.from' o.ahead
  else if o.kind = 3 then m.addPool o.ring o.from' o.all o.ahead else if o.kind = 4 then m.send o.who o.l else m.take o.n
def MdR.apply (m : MdR) (o : Opn) : MdR × Int :=
  if o.kind = 0 then m.addLog o.from' o.many else if o.kind = 1 then m.addWriter o.who o.ring else if o.kind = 2 then m.addReader o.who o.ring o.from' o.ahead
  else if o.kind = 3 then m.addPool o.ring o.from' o.all o.ahead else if o.kind = 4 then m.send o.who o.l else m.take o.n
section
variable {P : MdP} {M : MdR}
theorem Sim.op (h : Sim P M) (o : Opn) : (P.op o).2 = (M.op o).2 ∧ Sim (P.op o).1 (M.op o).1 := by
  unfold MdP.op MdR.op
  split
  · exact h.addLog _ _
  split
  · exact h.addWriter _ _
  split
  · exact h.addReader _ _ _ _
  split
  · exact h.addPool _ _ _ _
  split
  · exact h.send _ _
  split
  · exact ⟨(h.take _).1, (h.take _).2.1⟩
  exact ⟨rfl, h⟩
theorem Sim.apply (h : Sim P M) (o : Opn) : (P.apply o).2 = (M.apply o).2 ∧ Sim (P.apply o).1 (M.apply o).1 := by
  unfold MdP.apply MdR.apply
  split
  · exact h.addLog _ _
  split
  · exact h.addWriter _ _
  split
  · exact h.addReader _ _ _ _
  split
  · exact h.addPool _ _ _ _
  split
  · exact h.send _ _
  exact ⟨(h.take _).1, (h.take _).2.1⟩
/-- What is refused changes nothing. -/
theorem Sim.refused (h : Sim P M) (o : Opn) (hc : (P.apply o).2 ≠ 0) : (P.apply o).1 = P := by
  revert hc
  unfold MdP.apply
  split
  · unfold MdP.addLog; split; · simp
    split <;> simp
  split
  · unfold MdP.addWriter; split; · simp
    split <;> simp
  split
  · unfold MdP.addReader; split; · simp
    split; · simp
    split; · simp
    split <;> simp
  split
  · unfold MdP.addPool; split; · simp
    split; · simp
    split; · simp
    split; · simp
    split <;> simp
  split
  · unfold MdP.send; split; · simp
    split <;> simp
  intro hc
  exact (h.take _).2.2 (by rw [← (h.take _).1]; exact hc)
end

/-! ### How large it gets -/
structure Bnd8 (P : MdP) (T : Nat) : Prop where
  logs : P.logs.length ≤ 8
  log : ∀ g ∈ P.logs, g.l.length ≤ 8260 * T
  pools : P.pools.length ≤ T
  pool : ∀ p ∈ P.pools, p.taken.length ≤ 8260 * T
  many : P.writers.length + P.readers.length ≤ 512
  calls : ∀ w ∈ P.writers, w.calls.length ≤ T
  ahead : ∀ r ∈ P.readers, r.ahead.length ≤ 1000
theorem mem_modify {α : Type} {l : List α} {k : Nat} {f : α → α} {Q : α → Prop} (h : ∀ x ∈ l, Q x) (hf : ∀ x, l[k]? = some x → Q (f x)) : ∀ x ∈ l.modify k f, Q x := fun x hx => by
  obtain ⟨j, hj⟩ := List.getElem?_of_mem hx
  rw [modify_at] at hj
  split at hj
  · rename_i e
    subst e
    cases hl : l[j]? with
    | none => rw [hl] at hj; cases hj
    | some y => rw [hl] at hj; cases hj; exact hf y hl
  · exact h x (List.mem_of_getElem? hj)
section
variable {P : MdP} {M : MdR} {T : Nat}
theorem Bnd8.more (h : Bnd8 P T) : Bnd8 P (T + 1) :=
  ⟨h.logs, fun g hg => by have := h.log g hg; omega, by have := h.pools; omega, fun p hp => by have := h.pool p hp; omega, h.many, fun w hw => by have := h.calls w hw; omega, h.ahead⟩
theorem Bnd8.addLog (h : Bnd8 P T) (size : Int) (many : Bool) : Bnd8 (P.addLog size many).1 (T + 1) := by
  unfold MdP.addLog
  split
  · exact h.more
  split
  · exact h.more
  · rename_i h8
    have h' := h.more
    refine ⟨by show (P.logs ++ _).length ≤ 8; simp only [List.length_append, List.length_singleton]; omega, fun g hg => ?_, h'.pools, h'.pool, h'.many, h'.calls, h'.ahead⟩
    rcases List.mem_append.1 hg with hg | hg
    · exact h'.log g hg
    · simp only [List.mem_singleton] at hg
      subst hg
      exact Nat.zero_le _
theorem fresh_many {n ring : Int} (h : ¬P.fresh n ring ≠ 0) : (P.writers.length : Int) + P.readers.length + n ≤ 512 := by
  unfold MdP.fresh at h
  split at h
  · exact absurd (by decide) h
  split at h
  · exact absurd (by decide) h
  · omega
theorem Bnd8.addWriter (h : Bnd8 P T) (who ring : Int) : Bnd8 (P.addWriter who ring).1 (T + 1) := by
  unfold MdP.addWriter
  split
  · exact h.more
  split
  · exact h.more
  · rename_i hf _
    have := fresh_many hf
    have h' := h.more
    refine ⟨h'.logs, h'.log, h'.pools, h'.pool, ?_, fun w hw => ?_, h'.ahead⟩
    · show (P.writers ++ _).length + _ ≤ _
      simp only [List.length_append, List.length_singleton]
      omega
    · rcases List.mem_append.1 hw with hw | hw
      · exact h'.calls w hw
      · simp only [List.mem_singleton] at hw
        subst hw
        exact Nat.zero_le _
theorem Bnd8.addReader (h : Bnd8 P T) (who ring start : Int) (ahead : List Int) (ha : ahead.length ≤ 1000) : Bnd8 (P.addReader who ring start ahead).1 (T + 1) := by
  unfold MdP.addReader
  split
  · exact h.more
  split
  · exact h.more
  split
  · exact h.more
  split
  · exact h.more
  · rename_i hf _ _ _
    have := fresh_many hf
    have h' := h.more
    refine ⟨h'.logs, h'.log, h'.pools, h'.pool, ?_, h'.calls, fun r hr => ?_⟩
    · show _ + (P.readers ++ _).length ≤ _
      simp only [List.length_append, List.length_singleton]
      omega
    · rcases List.mem_append.1 hr with hr | hr
      · exact h'.ahead r hr
      · simp only [List.mem_singleton] at hr
        subst hr
        exact ha
theorem Bnd8.addPool (h : Bnd8 P T) (ring start : Int) (who ahead : List Int) (ha : ahead.length ≤ 1000) : Bnd8 (P.addPool ring start who ahead).1 (T + 1) := by
  unfold MdP.addPool
  split
  · exact h.more
  split
  · exact h.more
  split
  · exact h.more
  split
  · exact h.more
  split
  · exact h.more
  · rename_i hf hl _ _ _
    have := fresh_many hf
    have h' := h.more
    refine ⟨h'.logs, h'.log, ?_, fun p hp => ?_, ?_, h'.calls, fun r hr => ?_⟩
    · show (P.pools ++ _).length ≤ _
      have := h.pools
      simp only [List.length_append, List.length_singleton]
      omega
    · rcases List.mem_append.1 hp with hp | hp
      · exact h'.pool p hp
      · simp only [List.mem_singleton] at hp
        subst hp
        exact Nat.zero_le _
    · show _ + (P.readers ++ _).length ≤ _
      simp only [List.length_append, List.length_map]
      omega
    · rcases List.mem_append.1 hr with hr | hr
      · exact h'.ahead r hr
      · obtain ⟨a, _, rfl⟩ := List.mem_map.1 hr
        exact ha
theorem Bnd8.send (h : Bnd8 P T) (who : Int) (l : List Ev) : Bnd8 (P.send who l).1 (T + 1) := by
  unfold MdP.send
  split
  · exact h.more
  · split
    · exact h.more
    · have h' := h.more
      refine ⟨h'.logs, h'.log, h'.pools, h'.pool, by show (P.writers.modify _ _).length + _ ≤ _; rw [List.length_modify]; exact h.many, mem_modify h'.calls fun w hw => ?_, h'.ahead⟩
      have := h.calls w (List.mem_of_getElem? hw)
      show (w.calls ++ [l]).length ≤ _
      simp only [List.length_append, List.length_singleton]
      omega
theorem Bnd8.setW (h : Bnd8 P T) (k : Nat) (f : WrP → WrP) (hf : ∀ w, (f w).calls.length ≤ w.calls.length) : Bnd8 (P.setW k f) T :=
  ⟨h.logs, h.log, h.pools, h.pool, by show (P.writers.modify _ _).length + _ ≤ _; rw [List.length_modify]; exact h.many, mem_modify h.calls fun w hw => Nat.le_trans (hf w) (h.calls w (List.mem_of_getElem? hw)), h.ahead⟩
theorem Bnd8.setR (h : Bnd8 P T) (k : Nat) (f : RdP → RdP) (hf : ∀ r, (f r).ahead.length ≤ r.ahead.length) : Bnd8 (P.setR k f) T :=
  ⟨h.logs, h.log, h.pools, h.pool, by show _ + (P.readers.modify _ _).length ≤ _; rw [List.length_modify]; exact h.many, h.calls, mem_modify h.ahead fun r hr => Nat.le_trans (hf r) (h.ahead r (List.mem_of_getElem? hr))⟩
theorem Bnd8.take (h : Bnd8 P T) (hs : Sim P M) (n : Nt) : Bnd8 (P.take n).1 (T + 1) := by
  have h' := h.more
  have hreads : Bnd8 (P.reads n).1 (T + 1) := by
    unfold MdP.reads
    split
    · exact h'
    split
    · exact h'
    rename_i r hr
    split
    · exact h'
    split
    · unfold MdP.handles
      split
      · exact h'
      rename_i x hx
      split
      · exact h'
      split
      · exact h'
      split
      · exact h'
      split
      · split
        · exact h'
        · exact h'.setR _ _ fun _ => Nat.le_refl _
      split
      · exact h'
      rename_i p hp
      split
      · exact h'
      rename_i hhas
      refine ⟨h'.logs, h'.log, by show (P.pools.modify _ _).length ≤ _; rw [List.length_modify]; exact h'.pools, mem_modify h'.pool fun q hq => ?_, h'.many, h'.calls, h'.ahead⟩
      have hq' : q = p := by
        have := hq.symm.trans hp
        exact Option.some.inj this
      subst hq'
      have hst : q.start ≤ n.seq := by
        unfold PlP.has at hhas
        simp only [Bool.or_eq_true, decide_eq_true_eq, not_or] at hhas
        omega
      have hs0 : 0 ≤ q.start := by
        obtain ⟨r, hr, _, e⟩ := hs.start _ _ hq
        rw [← e]; exact (hs.rstart r hr).1
      have hlt : (n.seq : Int) < 8260 * T := by
        unfold MdP.event at hx
        split at hx
        · cases hx
        split at hx
        · cases hx
        rename_i g hg
        split at hx
        · rename_i hp
          have := pub_lt (hs.log _ g hg).len hp
          have := h.log g (List.mem_of_getElem? hg)
          omega
        · cases hx
      have := h.pool q (List.mem_of_getElem? hq)
      show (q.put _).taken.length ≤ _
      unfold PlP.put
      simp only [List.length_set, List.length_append, List.length_replicate]
      omega
    split
    · unfold MdP.moves
      split
      · exact h'
      split
      · exact h'
      split
      · exact h'
      · exact h'.setR _ _ fun _ => Nat.le_refl _
    split
    · unfold MdP.returns
      split
      · exact h'
      split
      · exact h'
      split
      · exact h'
      · exact h'.setR _ _ fun _ => Nat.le_refl _
    split
    · unfold MdP.leaves
      split
      · exact h'
      · exact h'.setR _ _ fun _ => Nat.le_refl _
    split
    · refine ⟨h'.logs, h'.log, h'.pools, h'.pool, ?_, h'.calls, fun r hr => ?_⟩
      · show _ + (P.readers.map _).length ≤ _
        rw [List.length_map]; exact h.many
      · obtain ⟨r0, hr0, rfl⟩ := List.mem_map.1 hr
        have := h'.ahead r0 hr0
        split <;> exact this
    split
    · split <;> exact h'
    · exact h'
  unfold MdP.take
  split
  · exact h'
  split
  · exact hreads
  rename_i k hk
  split
  · exact hreads
  rename_i w hw
  split
  · unfold MdP.writes
    split
    · exact h'
    split
    · split
      · exact h'.setW _ _ fun w => Nat.le_refl _
      · exact h'
    split
    · exact h'
    split
    · exact h'
    rename_i l ls hl
    split
    · split
      · rename_i g hg
        unfold MdP.shows
        split
        · exact h'
        split
        · exact h'
        split
        · exact h'
        split
        · exact h'
        split
        · exact h'
        split
        · exact h'
        rename_i q1 q2 q3 q4 q5 q6
        refine ⟨by show (P.logs.modify _ _).length ≤ _; rw [List.length_modify]; exact h'.logs, mem_modify h'.log fun g' hg' => ?_, h'.pools, h'.pool, by show (P.writers.modify _ _).length + _ ≤ _; rw [List.length_modify]; exact h.many, mem_modify h'.calls fun w' hw' => h'.calls w' (List.mem_of_getElem? hw'), h'.ahead⟩
        have e : g' = g := by
          have := hg'.symm.trans hg
          exact Option.some.inj this
        subst e
        have hlen := (hs.log _ _ hg).len
        obtain ⟨xs, exs⟩ : ∃ xs, xs = (l.drop w.shown).take (n.seq - n.lo + 1).toNat := ⟨_, rfl⟩
        rw [← exs]
        obtain ⟨_, _, _, p4, _⟩ := puts_all xs g' n.lo.toNat hlen
        have hg8 := h.log _ (List.mem_of_getElem? hg)
        have hxl : xs.length ≤ 64 := by
          rw [exs, List.length_take, List.length_drop]
          have : l.length ≤ 64 := by
            have hwr := hs.wr k
            rw [hw] at hwr
            cases hm : M.writers[k]? with
            | none => rw [hm] at hwr; cases hwr
            | some v =>
              rw [hm] at hwr
              have hwe : w = wrOf M.facts v := by simpa using hwr
              have hlm : l ∈ v.calls := by
                have : l ∈ w.calls := by rw [hl]; exact List.mem_cons_self
                rw [hwe] at this
                exact List.mem_of_mem_drop this
              exact (hs.calls v (List.mem_of_getElem? hm) l hlm).2
          omega
        by_cases hx : xs = []
        · rw [hx]; simp only [LogP.puts]; omega
        · rw [p4 hx]
          have q4' : n.lo ≤ (g'.l.length : Int) + 8192 := by
            by_cases e : (g'.l.length : Int) + 8192 < n.lo
            · exact absurd (.inr e) q4
            · omega
          omega
      · exact h'
    split
    · exact h'
    split
    · exact h'
    · exact h'.setW _ _ fun w => by simp
  · exact hreads
theorem Bnd8.op (h : Bnd8 P T) (hs : Sim P M) (o : Opn) (ha : o.ahead.length ≤ 1000) : Bnd8 (P.op o).1 (T + 1) := by
  unfold MdP.op
  split
  · exact h.addLog _ _
  split
  · exact h.addWriter _ _
  split
  · exact h.addReader _ _ _ _ ha
  split
  · exact h.addPool _ _ _ _ ha
  split
  · exact h.send _ _
  split
  · exact h.take hs _
  exact h.more
theorem Bnd8.apply (h : Bnd8 P T) (hs : Sim P M) (o : Opn) (ha : o.ahead.length ≤ 1000) : Bnd8 (P.apply o).1 (T + 1) := by
  unfold MdP.apply
  split
  · exact h.addLog _ _
  split
  · exact h.addWriter _ _
  split
  · exact h.addReader _ _ _ _ ha
  split
  · exact h.addPool _ _ _ _ ha
  split
  · exact h.send _ _
  exact h.take hs _
theorem Bnd8.nil : Bnd8 ⟨[], [], [], []⟩ 0 := ⟨by simp, by simp, by simp, by simp, by simp, by simp, by simp⟩
end

/-! ### What a walk asks -/
structure MdW (P : MdP) : Prop where
  nl : P.logs.length ≤ 8
  nw : P.writers.length + P.readers.length ≤ 512
  np : P.pools.length ≤ 200
  gl : ∀ g ∈ P.logs, g.there.length = g.l.length ∧ g.l.length ≤ 2000000 ∧ 1 ≤ g.size ∧ g.size ≤ 1048576
  rring : ∀ r ∈ P.readers, 0 ≤ r.ring ∧ r.ring < P.logs.length
  rb : ∀ r ∈ P.readers, -1 ≤ r.cursor ∧ r.cursor ≤ 4611686018427387904 ∧ 0 ≤ r.next ∧ r.next ≤ 4611686018427387905 ∧ 0 ≤ r.began ∧ r.began ≤ 4611686018427387905
  rpool : ∀ r ∈ P.readers, -1 ≤ r.pool ∧ r.pool < P.pools.length
  rah : ∀ r ∈ P.readers, ∀ a ∈ r.ahead, (P.at a r.ring).isSome = true
  wring : ∀ w ∈ P.writers, 0 ≤ w.ring ∧ w.ring < P.logs.length
  wb : ∀ w ∈ P.writers, -1 ≤ w.first ∧ w.first ≤ 4611686018427387904 ∧ w.shown ≤ 64 ∧ w.calls.length ≤ 200
  wcall : ∀ w ∈ P.writers, ∀ l ∈ w.calls, 0 < l.length ∧ l.length ≤ 64
  wsh : ∀ w ∈ P.writers, ∀ l r, w.calls = l :: r → w.shown ≤ l.length
  ral : ∀ r ∈ P.readers, r.ahead.length ≤ 1000
  pl : ∀ p ∈ P.pools, 0 ≤ p.start ∧ p.start ≤ 4611686018427387904 ∧ p.taken.length ≤ 2000000
theorem Sim.mdw {P : MdP} {M : MdR} {T : Nat} (h : Sim P M) (hb : Bnd8 P T) (hT : T ≤ 200) : MdW P := by
  have hl := h.len_l
  have hp := h.pools
  have hr : ∀ r ∈ P.readers, ∃ s ∈ M.readers, r.er = rdOf M.facts s := fun r hr => by
    obtain ⟨k, hk⟩ := List.getElem?_of_mem hr
    obtain ⟨s, hs, he⟩ := h.rdAt' hk
    exact ⟨s, List.mem_of_getElem? hs, he⟩
  have hw : ∀ w ∈ P.writers, ∃ v ∈ M.writers, w = wrOf M.facts v := fun w hw => by
    rw [len_of_get h.wr] at hw
    obtain ⟨v, hv, e⟩ := List.mem_map.1 hw
    exact ⟨v, hv, e.symm⟩
  refine ⟨hb.logs, hb.many, by have := hb.pools; omega, fun g hg => ?_, fun r hr' => ?_, fun r hr' => ?_, fun r hr' => ?_, fun r hr' => ?_, fun w hw' => ?_, fun w hw' => ?_, fun w hw' => ?_, fun w hw' => ?_, hb.ahead, fun p hp' => ?_⟩
  · obtain ⟨k, hk⟩ := List.getElem?_of_mem hg
    have h1 := (h.log k g hk).len
    have h2 := hb.log g hg
    have h3 : (g.size, g.many) ∈ M.logs := by rw [h.logsE]; exact List.mem_map.2 ⟨g, hg, rfl⟩
    have h4 := h.size _ h3
    dsimp only at h4
    have : 8260 * T ≤ 8260 * 200 := Nat.mul_le_mul_left _ hT
    exact ⟨h1, by omega, h4.1, h4.2⟩
  · obtain ⟨s, hs, he⟩ := hr r hr'
    obtain ⟨e1, e2, e3, e4, e5, e6, e7, e8⟩ := er_who he
    have := h.rring s hs
    rw [e2, hl]; exact this
  · obtain ⟨s, hs, he⟩ := hr r hr'
    obtain ⟨e1, e2, e3, e4, e5, e6, e7, e8⟩ := er_who he
    have := h.rb s hs
    rw [e3, e4, e5]; exact this
  · obtain ⟨s, hs, he⟩ := hr r hr'
    obtain ⟨e1, e2, e3, e4, e5, e6, e7, e8⟩ := er_who he
    have := h.rpool s hs
    rw [e6, hp]; exact this
  · obtain ⟨s, hs, he⟩ := hr r hr'
    obtain ⟨e1, e2, e3, e4, e5, e6, e7, e8⟩ := er_who he
    rw [e7, e2]
    intro a ha
    rw [h.atE]
    exact h.ahead s hs a ha
  · obtain ⟨v, hv, rfl⟩ := hw w hw'
    have := h.wring v hv
    rw [hl]; exact this
  · obtain ⟨v, hv, rfl⟩ := hw w hw'
    have hc := h.call v hv
    have h1 := hb.calls _ hw'
    refine ⟨hc.f0, hc.fm, ?_, by omega⟩
    show (callF M.facts v.who).shown.toNat ≤ 64
    by_cases hi : v.calls.length ≤ (callF M.facts v.who).ended
    · have := hc.idle hi; omega
    · have hlt : (callF M.facts v.who).ended < v.calls.length := by omega
      have h2 := hc.s1 _ (List.getElem?_eq_getElem hlt)
      have h3 := h.calls v hv _ (List.getElem_mem hlt)
      omega
  · obtain ⟨v, hv, rfl⟩ := hw w hw'
    exact fun l hl => h.calls v hv l (List.mem_of_mem_drop hl)
  · obtain ⟨v, hv, rfl⟩ := hw w hw'
    intro l r hlr
    have hc := h.call v hv
    have hlr' : v.calls.drop (callF M.facts v.who).ended = l :: r := hlr
    have h0 : v.calls[(callF M.facts v.who).ended]? = some l := by
      have := congrArg (fun x => x[0]?) hlr'
      simpa using this
    have := hc.s1 l h0
    have := hc.s0
    show (callF M.facts v.who).shown.toNat ≤ _
    omega
  · obtain ⟨k, hk⟩ := List.getElem?_of_mem hp'
    obtain ⟨s, hs, _, e⟩ := h.start k p hk
    have := h.rstart s hs
    have h2 := hb.pool p hp'
    have : 8260 * T ≤ 8260 * 200 := Nat.mul_le_mul_left _ hT
    rw [← e]
    omega
end Go.Proofs.Ytngfadijcpnblaa

/- The program's model in the memory: blocks, slices, one assertion of all; what it lets see. -/
namespace Go.Proofs.Ytngfadijcpnblaa
open Go.RowKit

def evC (x : Ev) : List Value := [.int .i64 x.key, .int .i64 x.val]
theorem evC_len (x : Ev) : (evC x).length = 2 := rfl
def boC (b : Bool) : List Value := [.bool b]
theorem boC_len (b : Bool) : (boC b).length = 1 := rfl
def inC (n : Int) : List Value := [.int .i64 n]
theorem inC_len (n : Int) : (inC n).length = 1 := rfl
def Nt.enc (n : Nt) : List Value := [.int .i64 n.who, .int .i64 n.ring, .int .i64 n.deed, .int .i64 n.lo, .int .i64 n.seq, .int .i64 n.x.key, .int .i64 n.x.val, .int .i64 n.code]
theorem Nt.enc_len (n : Nt) : n.enc.length = 8 := rfl
abbrev ptr (b : Nat) : Value := .pointer (some ⟨b, 0, none⟩)

structure LogH where
  b : Nat
  g : LogP
  lA : Option Addr
  lc : Nat
  tA : Option Addr
  tc : Nat
def LogH.cells (x : LogH) : List Value := [.int .i64 x.g.size, .bool x.g.many, .slice x.lA x.g.l.length x.lc, .slice x.tA x.g.there.length x.tc]
def LogH.pt (x : LogH) : List Value := [ptr x.b]
def LogH.sp (x : LogH) : SP := star [blk x.b (.cells x.cells.toArray 90 (0, 0)), ownT 39 x.lA x.g.l.length x.lc 2 (x.g.l.flatMap evC), ownT 4 x.tA x.g.there.length x.tc 1 (x.g.there.flatMap boC)]
structure CallH where
  l : List Ev
  A : Option Addr
  c : Nat
def CallH.enc (x : CallH) : List Value := [.slice x.A x.l.length x.c]
def CallH.sp (x : CallH) : SP := rdS x.A x.l.length 2 (x.l.flatMap evC)
structure WrH where
  b : Nat
  who : Int
  ring : Int
  calls : List CallH
  cA : Option Addr
  cc : Nat
  first : Int
  shown : Nat
  over : Bool
def WrH.p (x : WrH) : WrP := ⟨x.who, x.ring, x.calls.map (·.l), x.first, x.shown, x.over⟩
def WrH.cells (x : WrH) : List Value := [.int .i64 x.who, .int .i64 x.ring, .slice x.cA x.calls.length x.cc, .int .i64 x.first, .int .i64 x.shown, .bool x.over]
def WrH.pt (x : WrH) : List Value := [ptr x.b]
def WrH.sp (x : WrH) : SP := star [blk x.b (.cells x.cells.toArray 104 (0, 0)), ownT 36 x.cA x.calls.length x.cc 1 (x.calls.flatMap CallH.enc), star (x.calls.map CallH.sp)]
structure RdH where
  b : Nat
  r : RdP
  aA : Option Addr
  ac : Nat
def RdH.cells (x : RdH) : List Value := [.int .i64 x.r.who, .int .i64 x.r.ring, .int .i64 x.r.next, .int .i64 x.r.cursor, .int .i64 x.r.began, .int .i64 x.r.pool, .slice x.aA x.r.ahead.length x.ac, .bool x.r.held, .bool x.r.over]
def RdH.pt (x : RdH) : List Value := [ptr x.b]
def RdH.sp (x : RdH) : SP := star [blk x.b (.cells x.cells.toArray 93 (0, 0)), rdS x.aA x.r.ahead.length 1 (x.r.ahead.flatMap inC)]
structure PlH where
  b : Nat
  p : PlP
  tA : Option Addr
  tc : Nat
def PlH.cells (x : PlH) : List Value := [.int .i64 x.p.start, .slice x.tA x.p.taken.length x.tc]
def PlH.pt (x : PlH) : List Value := [ptr x.b]
def PlH.sp (x : PlH) : SP := star [blk x.b (.cells x.cells.toArray 109 (0, 0)), ownT 4 x.tA x.p.taken.length x.tc 1 (x.p.taken.flatMap boC)]
structure MdH where
  b : Nat
  logs : List LogH
  lA : Option Addr
  lc : Nat
  writers : List WrH
  wA : Option Addr
  wc : Nat
  readers : List RdH
  rA : Option Addr
  rc : Nat
  pools : List PlH
  pA : Option Addr
  pc : Nat
def MdH.p (x : MdH) : MdP := ⟨x.logs.map (·.g), x.writers.map (·.p), x.readers.map (·.r), x.pools.map (·.p)⟩
def MdH.cells (x : MdH) : List Value := [.slice x.lA x.logs.length x.lc, .slice x.wA x.writers.length x.wc, .slice x.rA x.readers.length x.rc, .slice x.pA x.pools.length x.pc]
def MdH.parts (x : MdH) : List SP := [blk x.b (.cells x.cells.toArray 78 (0, 0)), ownS 86 x.lA x.logs.length x.lc 1 (x.logs.flatMap LogH.pt), ownS 101 x.wA x.writers.length x.wc 1 (x.writers.flatMap WrH.pt),
  ownS 91 x.rA x.readers.length x.rc 1 (x.readers.flatMap RdH.pt), ownS 107 x.pA x.pools.length x.pc 1 (x.pools.flatMap PlH.pt),
  star (x.logs.map LogH.sp), star (x.writers.map WrH.sp), star (x.readers.map RdH.sp), star (x.pools.map PlH.sp)]
def MdH.sp (x : MdH) : SP := star x.parts

section
variable (M : MdH)
theorem MdH.seeM : SeesAt M.sp M.b 0 M.cells := star_at (P := blk M.b (.cells M.cells.toArray 78 (0, 0))) (by simp [MdH.parts]) (blk_at _ _ _)
theorem MdH.seeL : Sees M.sp M.lA M.logs.length 1 (M.logs.flatMap LogH.pt) := star_sees (P := ownS 86 M.lA M.logs.length M.lc 1 (M.logs.flatMap LogH.pt)) (by simp [MdH.parts]) (ownS_sees _ _ _ _ _ _)
theorem MdH.seeW : Sees M.sp M.wA M.writers.length 1 (M.writers.flatMap WrH.pt) := star_sees (P := ownS 101 M.wA M.writers.length M.wc 1 (M.writers.flatMap WrH.pt)) (by simp [MdH.parts]) (ownS_sees _ _ _ _ _ _)
theorem MdH.seeR : Sees M.sp M.rA M.readers.length 1 (M.readers.flatMap RdH.pt) := star_sees (P := ownS 91 M.rA M.readers.length M.rc 1 (M.readers.flatMap RdH.pt)) (by simp [MdH.parts]) (ownS_sees _ _ _ _ _ _)
theorem MdH.seeP : Sees M.sp M.pA M.pools.length 1 (M.pools.flatMap PlH.pt) := star_sees (P := ownS 107 M.pA M.pools.length M.pc 1 (M.pools.flatMap PlH.pt)) (by simp [MdH.parts]) (ownS_sees _ _ _ _ _ _)
variable {M}
theorem MdH.lat {x : LogH} (h : x ∈ M.logs) : SeesAt M.sp x.b 0 x.cells :=
  star_at (P := star (M.logs.map LogH.sp)) (by simp [MdH.parts]) (star_at (P := x.sp) (List.mem_map_of_mem h) (star_at (P := blk x.b (.cells x.cells.toArray 90 (0, 0))) (by simp) (blk_at _ _ _)))
theorem MdH.lev {x : LogH} (h : x ∈ M.logs) : Sees M.sp x.lA x.g.l.length 2 (x.g.l.flatMap evC) :=
  star_sees (P := star (M.logs.map LogH.sp)) (by simp [MdH.parts]) (star_sees (P := x.sp) (List.mem_map_of_mem h) (star_sees (P := ownT 39 x.lA x.g.l.length x.lc 2 (x.g.l.flatMap evC)) (by simp) (ownT_sees _ _ _ _ _ _)))
theorem MdH.lbo {x : LogH} (h : x ∈ M.logs) : Sees M.sp x.tA x.g.there.length 1 (x.g.there.flatMap boC) :=
  star_sees (P := star (M.logs.map LogH.sp)) (by simp [MdH.parts]) (star_sees (P := x.sp) (List.mem_map_of_mem h) (star_sees (P := ownT 4 x.tA x.g.there.length x.tc 1 (x.g.there.flatMap boC)) (by simp) (ownT_sees _ _ _ _ _ _)))
theorem MdH.wat {x : WrH} (h : x ∈ M.writers) : SeesAt M.sp x.b 0 x.cells :=
  star_at (P := star (M.writers.map WrH.sp)) (by simp [MdH.parts]) (star_at (P := x.sp) (List.mem_map_of_mem h) (star_at (P := blk x.b (.cells x.cells.toArray 104 (0, 0))) (by simp) (blk_at _ _ _)))
theorem MdH.wca {x : WrH} (h : x ∈ M.writers) : Sees M.sp x.cA x.calls.length 1 (x.calls.flatMap CallH.enc) :=
  star_sees (P := star (M.writers.map WrH.sp)) (by simp [MdH.parts]) (star_sees (P := x.sp) (List.mem_map_of_mem h) (star_sees (P := ownT 36 x.cA x.calls.length x.cc 1 (x.calls.flatMap CallH.enc)) (by simp) (ownT_sees _ _ _ _ _ _)))
theorem MdH.wev {x : WrH} (h : x ∈ M.writers) {c : CallH} (hc : c ∈ x.calls) : Sees M.sp c.A c.l.length 2 (c.l.flatMap evC) :=
  star_sees (P := star (M.writers.map WrH.sp)) (by simp [MdH.parts]) (star_sees (P := x.sp) (List.mem_map_of_mem h) (star_sees (P := star (x.calls.map CallH.sp)) (by simp) (star_sees (P := c.sp) (List.mem_map_of_mem hc) (rdS_sees _ _ _ _))))
theorem MdH.rat {x : RdH} (h : x ∈ M.readers) : SeesAt M.sp x.b 0 x.cells :=
  star_at (P := star (M.readers.map RdH.sp)) (by simp [MdH.parts]) (star_at (P := x.sp) (List.mem_map_of_mem h) (star_at (P := blk x.b (.cells x.cells.toArray 93 (0, 0))) (by simp) (blk_at _ _ _)))
theorem MdH.rah {x : RdH} (h : x ∈ M.readers) : Sees M.sp x.aA x.r.ahead.length 1 (x.r.ahead.flatMap inC) :=
  star_sees (P := star (M.readers.map RdH.sp)) (by simp [MdH.parts]) (star_sees (P := x.sp) (List.mem_map_of_mem h) (star_sees (P := rdS x.aA x.r.ahead.length 1 (x.r.ahead.flatMap inC)) (by simp) (rdS_sees _ _ _ _)))
theorem MdH.pat {x : PlH} (h : x ∈ M.pools) : SeesAt M.sp x.b 0 x.cells :=
  star_at (P := star (M.pools.map PlH.sp)) (by simp [MdH.parts]) (star_at (P := x.sp) (List.mem_map_of_mem h) (star_at (P := blk x.b (.cells x.cells.toArray 109 (0, 0))) (by simp) (blk_at _ _ _)))
theorem MdH.pbo {x : PlH} (h : x ∈ M.pools) : Sees M.sp x.tA x.p.taken.length 1 (x.p.taken.flatMap boC) :=
  star_sees (P := star (M.pools.map PlH.sp)) (by simp [MdH.parts]) (star_sees (P := x.sp) (List.mem_map_of_mem h) (star_sees (P := ownT 4 x.tA x.p.taken.length x.tc 1 (x.p.taken.flatMap boC)) (by simp) (ownT_sees _ _ _ _ _ _)))

/-! ### Stores -/
theorem flat_set {α : Type} {f : α → List Value} : ∀ {l : List α} {k : Nat} {x y : α}, l[k]? = some x → f y = f x → (l.set k y).flatMap f = l.flatMap f
  | [], _, _, _, h, _ => by simp at h
  | a :: l, 0, x, y, h, e => by
    simp only [List.getElem?_cons_zero, Option.some.injEq] at h
    subst h
    simp [e]
  | a :: l, k + 1, x, y, h, e => by
    have := flat_set (f := f) (l := l) (k := k) (x := x) (y := y) (by simpa using h) e
    simp [this]
def MdH.setR (M : MdH) (k : Nat) (y : RdH) : MdH := { M with readers := M.readers.set k y }
def MdH.setW (M : MdH) (k : Nat) (y : WrH) : MdH := { M with writers := M.writers.set k y }
def MdH.setL (M : MdH) (k : Nat) (y : LogH) : MdH := { M with logs := M.logs.set k y }
def MdH.setP (M : MdH) (k : Nat) (y : PlH) : MdH := { M with pools := M.pools.set k y }
theorem setR_set {k : Nat} {x y : RdH} {b p : Nat} {v : Value} (hk : M.readers[k]? = some x) (hb : y.b = x.b) (hs : SetAt x.sp b p v y.sp) : SetAt M.sp b p v (M.setR k y).sp := by
  have h1 : SetAt (star (M.readers.map RdH.sp)) b p v (star ((M.readers.map RdH.sp).set k y.sp)) := star_set (k := k) (by rw [List.getElem?_map, hk]; rfl) hs
  have h2 := star_set (L := M.parts) (k := 7) rfl h1
  have e : M.parts.set 7 (star ((M.readers.map RdH.sp).set k y.sp)) = (M.setR k y).parts := by
    have e1 : ((M.readers.set k y).flatMap RdH.pt) = M.readers.flatMap RdH.pt := flat_set hk (by unfold RdH.pt; rw [hb])
    simp only [MdH.parts, MdH.setR, List.set_cons_succ, List.set_cons_zero, e1, List.length_set, List.map_set, MdH.cells]
  rw [e] at h2
  exact h2
theorem setW_set {k : Nat} {x y : WrH} {b p : Nat} {v : Value} (hk : M.writers[k]? = some x) (hb : y.b = x.b) (hs : SetAt x.sp b p v y.sp) : SetAt M.sp b p v (M.setW k y).sp := by
  have h1 : SetAt (star (M.writers.map WrH.sp)) b p v (star ((M.writers.map WrH.sp).set k y.sp)) := star_set (k := k) (by rw [List.getElem?_map, hk]; rfl) hs
  have h2 := star_set (L := M.parts) (k := 6) rfl h1
  have e : M.parts.set 6 (star ((M.writers.map WrH.sp).set k y.sp)) = (M.setW k y).parts := by
    have e1 : ((M.writers.set k y).flatMap WrH.pt) = M.writers.flatMap WrH.pt := flat_set hk (by unfold WrH.pt; rw [hb])
    simp only [MdH.parts, MdH.setW, List.set_cons_succ, List.set_cons_zero, e1, List.length_set, List.map_set, MdH.cells]
  rw [e] at h2
  exact h2
theorem setL_set {k : Nat} {x y : LogH} {b p : Nat} {v : Value} (hk : M.logs[k]? = some x) (hb : y.b = x.b) (hs : SetAt x.sp b p v y.sp) : SetAt M.sp b p v (M.setL k y).sp := by
  have h1 : SetAt (star (M.logs.map LogH.sp)) b p v (star ((M.logs.map LogH.sp).set k y.sp)) := star_set (k := k) (by rw [List.getElem?_map, hk]; rfl) hs
  have h2 := star_set (L := M.parts) (k := 5) rfl h1
  have e : M.parts.set 5 (star ((M.logs.map LogH.sp).set k y.sp)) = (M.setL k y).parts := by
    have e1 : ((M.logs.set k y).flatMap LogH.pt) = M.logs.flatMap LogH.pt := flat_set hk (by unfold LogH.pt; rw [hb])
    simp only [MdH.parts, MdH.setL, List.set_cons_succ, List.set_cons_zero, e1, List.length_set, List.map_set, MdH.cells]
  rw [e] at h2
  exact h2
theorem setP_set {k : Nat} {x y : PlH} {b p : Nat} {v : Value} (hk : M.pools[k]? = some x) (hb : y.b = x.b) (hs : SetAt x.sp b p v y.sp) : SetAt M.sp b p v (M.setP k y).sp := by
  have h1 : SetAt (star (M.pools.map PlH.sp)) b p v (star ((M.pools.map PlH.sp).set k y.sp)) := star_set (k := k) (by rw [List.getElem?_map, hk]; rfl) hs
  have h2 := star_set (L := M.parts) (k := 8) rfl h1
  have e : M.parts.set 8 (star ((M.pools.map PlH.sp).set k y.sp)) = (M.setP k y).parts := by
    have e1 : ((M.pools.set k y).flatMap PlH.pt) = M.pools.flatMap PlH.pt := flat_set hk (by unfold PlH.pt; rw [hb])
    simp only [MdH.parts, MdH.setP, List.set_cons_succ, List.set_cons_zero, e1, List.length_set, List.map_set, MdH.cells]
  rw [e] at h2
  exact h2
theorem map_set_modify {α β : Type} {f : α → β} {u : β → β} : ∀ {l : List α} {k : Nat} {x y : α}, l[k]? = some x → f y = u (f x) → (l.set k y).map f = (l.map f).modify k u
  | [], _, _, _, h, _ => by simp at h
  | a :: l, 0, x, y, h, e => by
    simp only [List.getElem?_cons_zero, Option.some.injEq] at h
    subst h
    simp [e, List.modify]
  | a :: l, k + 1, x, y, h, e => by
    have := map_set_modify (f := f) (u := u) (l := l) (k := k) (x := x) (y := y) (by simpa using h) e
    simpa [List.modify] using this
end
end Go.Proofs.Ytngfadijcpnblaa

/- The program's model: functions that only look. -/
namespace Go.Proofs.Ytngfadijcpnblaa
open Go.RowKit
set_option maxRecDepth 20000
set_option maxHeartbeats 2000000
attribute [local irreducible] Nx Ar BrM headC OneC HoC AftC planHead endF
def errB (b : Nat) (q : List UInt8 × Int) (c : Int) : SP := blk b (.cells #[str q.1, .int .i64 q.2, .iface 40 (.int .i64 c)] 132 (0, 0))
/-- What a function that may err comes to: nothing, or a fault around a number. -/
def ErP (c : Int) (v : Value) (E : List SP) : Prop := (c = 0 ∧ v = .nilIface ∧ E = []) ∨ (c ≠ 0 ∧ ∃ b q, v = .iface 130 (.pointer (some ⟨b, 0, none⟩)) ∧ E = [errB b q c])
theorem Wrap_ok (op : List UInt8) (seq c : Int) : FnOk Try.prog 57 [str op, .int .i64 seq, .iface 40 (.int .i64 c)] [] (fun v Q => ∃ b, v = .iface 130 (.pointer (some ⟨b, 0, none⟩)) ∧ Q = [errB b (op, seq) c]) := by
  refine FnOk.start Try.func57 rfl rfl rfl rfl fun F os tape output => ?_
  refine go 200 ?_
  conv => whnf
  repeat' (first | ((first | refine BrM.t rfl ?_ | refine BrM.f rfl ?_ | refine BrM.dec (fun _ => ?_) (fun _ => ?_) | refine BrM.mk (fun _ => ?_) (fun _ => ?_) | refine Ar.i64 (by omega) (by omega) ?_ | refine gO rfl ?_ | refine gP rfl (by repeat constructor) ?_) <;> conv => whnf) | ((with_reducible refine atEsc ?_); intro _; refine Nx.out 13 rfl rfl rfl rfl ?_) | (refine atRet ?_; refine Nx.ret [13] Try.func57 rfl rfl ?_; (exact ⟨_, rfl, rfl⟩)) | refine Nx.late ?_)
theorem wrong_ok (op : List UInt8) (seq c : Int) : FnOk Try.prog 37 [str op, .int .i64 seq, .int .i64 c] [] (fun v Q => ∃ b, v = .iface 130 (.pointer (some ⟨b, 0, none⟩)) ∧ Q = [errB b (op, seq) c]) := by
  refine FnOk.start Try.func37 rfl rfl rfl rfl fun F os tape output => ?_
  refine go 200 ?_
  conv => whnf
  repeat' (first | ((first | refine BrM.t rfl ?_ | refine BrM.f rfl ?_ | refine BrM.dec (fun _ => ?_) (fun _ => ?_) | refine BrM.mk (fun _ => ?_) (fun _ => ?_) | refine Ar.i64 (by omega) (by omega) ?_ | refine gO rfl ?_ | refine gP rfl (by repeat constructor) ?_) <;> conv => whnf) | (refine (atCall 57) ?_; refine Nx.call [] [9] rfl rfl rfl rfl rfl ((Wrap_ok _ _ c)) rfl fun v Q hQ => ?_; obtain ⟨b,rfl,rfl⟩ := hQ) | (refine atRet ?_; refine Nx.ret [9] Try.func37 rfl rfl ?_; (exact ⟨_, rfl, rfl⟩)) | refine Nx.late ?_)
theorem LogH.pt_len (x : LogH) : x.pt.length = 1 := rfl
theorem WrH.pt_len (x : WrH) : x.pt.length = 1 := rfl
theorem RdH.pt_len (x : RdH) : x.pt.length = 1 := rfl
theorem PlH.pt_len (x : PlH) : x.pt.length = 1 := rfl
def MdH.rp (M : MdH) (k : Option Nat) : Value := match k with | none => .pointer none | some k => match M.readers[k]? with | none => .pointer none | some r => ptr r.b
def MdH.wp (M : MdH) (k : Option Nat) : Value := match k with | none => .pointer none | some k => match M.writers[k]? with | none => .pointer none | some r => ptr r.b
theorem of_ok (M : MdH) (hm : MdW M.p) (who : Int) : FnOk Try.prog 41 [ptr M.b, .int .i64 who] [M.sp] (fun v Q => v = M.wp (M.p.of who) ∧ Q = [M.sp]) := by
  have hM := M.seeM
  have hW := M.seeW
  have hn : M.writers.length ≤ 512 := by have := hm.nw; simp only [MdH.p, List.length_map] at this; omega
  refine FnOk.start Try.func41 rfl rfl rfl rfl fun F os tape output => ?_
  refine go 200 ?_
  conv => whnf
  repeat' (first | ((first | refine BrM.t rfl ?_ | refine BrM.f rfl ?_ | refine BrM.dec (fun _ => ?_) (fun _ => ?_) | refine BrM.mk (fun _ => ?_) (fun _ => ?_) | refine Ar.i64 (by omega) (by omega) ?_ | refine gO rfl ?_ | refine gP rfl (by repeat constructor) ?_) <;> conv => whnf) | (refine atLoad ?_; refine Nx.load1 0 rfl rfl rfl rfl ((hM.sub 1 rfl)) rfl ?_) | refine Nx.late ?_)
  refine Nx.loop (X := Nat) (fun k => k ≤ M.writers.length ∧ ∀ i, (hi : i < k) → (hl : i < M.writers.length) → M.writers[i].who ≠ who) (fun k => M.writers.length - k)
    (fun k => [(0, .c (.v (ptr M.b))), (1, iv who), (10, sl M.wA M.writers.length M.wc), (11, iv M.writers.length), (12, iv k)]) (fun _ => []) [] (fun _ => [(0, M.sp)]) 0 ⟨Nat.zero_le _, fun i hi => by omega⟩ ?_ ?_ ?_ ?_ ?_
  all_goals repeat (first | exact .nil _ | refine .cons rfl ?_ | refine .cons rfl rfl ?_ | refine .cons rfl rfl rfl ?_ | refine .cons' rfl (fun _ => rfl) ?_)
  intro k ⟨hk, hno⟩ ih
  by_cases hlt : k < M.writers.length
  · have hx := MdH.wat (M := M) (List.getElem_mem hlt)
    by_cases hw : M.writers[k].who = who
    · have e : M.wp (M.p.of who) = ptr M.writers[k].b := by
        have : M.p.of who = some k := findI_some (by simpa [MdH.p] using hlt) (by simp [MdH.p, WrH.p, hw]) fun i hi => by simpa [MdH.p, WrH.p] using hno i hi (by omega)
        rw [this]
        simp [MdH.wp, List.getElem?_eq_getElem hlt]
      rw [e]
      repeat' (first | ((first | refine BrM.yes (by omega) ?_ | refine BrM.t rfl ?_ | refine BrM.f rfl ?_ | refine BrM.dec (fun _ => ?_) (fun _ => ?_) | refine BrM.mk (fun _ => ?_) (fun _ => ?_) | refine Ar.i64 (by omega) (by omega) ?_ | refine gO rfl ?_ | refine gP rfl (by repeat constructor) ?_) <;> conv => whnf) | (refine atIdx ?_; refine Nx.idx 0 (j := k) rfl rfl rfl Try.underlying74 rfl rfl rfl WrH.pt_len hW rfl (by omega) (by omega) fun _ _ _ => ?_) | (refine atLoad ?_; refine Nx.load1 0 rfl rfl rfl rfl ((hx.sub 0 rfl)) rfl ?_) | (refine atLoad ?_; first | (refine Nx.load1 0 rfl rfl rfl rfl (SeesAt.sub (by assumption) _ rfl) rfl ?_) | (refine Nx.load1 0 rfl rfl rfl rfl (by assumption) rfl ?_) | (refine Nx.load 0 rfl rfl rfl rfl (by assumption) rfl rfl ?_)) | (refine atRet ?_; refine Nx.ret [0] Try.func41 rfl rfl ?_; (exact ⟨rfl, rfl⟩)) | refine Nx.late ?_)
    · repeat' (first | (refine atBr ?_; refine BrM.not (hw) ?_; conv => whnf) | ((first | refine BrM.yes (by omega) ?_ | refine BrM.t rfl ?_ | refine BrM.f rfl ?_ | refine BrM.dec (fun _ => ?_) (fun _ => ?_) | refine BrM.mk (fun _ => ?_) (fun _ => ?_) | refine Ar.i64 (by omega) (by omega) ?_ | refine gO rfl ?_ | refine gP rfl (by repeat constructor) ?_) <;> conv => whnf) | (refine atIdx ?_; refine Nx.idx 0 (j := k) rfl rfl rfl Try.underlying74 rfl rfl rfl WrH.pt_len hW rfl (by omega) (by omega) fun _ _ _ => ?_) | (refine atLoad ?_; refine Nx.load1 0 rfl rfl rfl rfl ((hx.sub 0 rfl)) rfl ?_) | (refine atLoad ?_; first | (refine Nx.load1 0 rfl rfl rfl rfl (SeesAt.sub (by assumption) _ rfl) rfl ?_) | (refine Nx.load1 0 rfl rfl rfl rfl (by assumption) rfl ?_) | (refine Nx.load 0 rfl rfl rfl rfl (by assumption) rfl rfl ?_)) | refine Nx.late ?_)
      refine (ih (k + 1) ⟨by omega, fun i hi hl => ?_⟩ (by omega)).weak ?_ ?_ ?_ ?_
      · by_cases e : i = k
        · subst e; exact hw
        · exact hno i (by omega) hl
      · exact .cons rfl rfl (.cons rfl rfl (.cons rfl rfl (.cons rfl rfl (.cons rfl (by simp) (.nil _)))))
      all_goals repeat (first | exact .nil _ | refine .cons rfl ?_ | refine .cons rfl rfl ?_ | refine .cons rfl rfl rfl ?_ | refine .cons' rfl (fun _ => rfl) ?_)
  · have e : M.wp (M.p.of who) = .pointer none := by
      have : M.p.of who = none := findI_none fun i hi => by
        have hl : i < M.writers.length := by simpa [MdH.p] using hi
        simpa [MdH.p, WrH.p] using hno i (by omega) hl
      rw [this]; rfl
    rw [e]
    repeat' (first | ((first | refine BrM.not (by omega) ?_ | refine BrM.t rfl ?_ | refine BrM.f rfl ?_ | refine BrM.dec (fun _ => ?_) (fun _ => ?_) | refine BrM.mk (fun _ => ?_) (fun _ => ?_) | refine Ar.i64 (by omega) (by omega) ?_ | refine gO rfl ?_ | refine gP rfl (by repeat constructor) ?_) <;> conv => whnf) | (refine atRet ?_; refine Nx.ret [0] Try.func41 rfl rfl ?_; (exact ⟨rfl, rfl⟩)) | refine Nx.late ?_)
end Go.Proofs.Ytngfadijcpnblaa
