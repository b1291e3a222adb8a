/- ReportLists: the statement's tied card holds: for all notes the law returns true, and they read as they did, where the listed package-level variables hold what the program's text lays. -/
import Derived.Test.YtccmdlmlbkpjjaaGreatDoorMc
import Derived.Test.YtccmdlmlbkpjjaaGreatDoorChecked
import Derived.OpenShut
import Derived.SizedLaws
import Derived.Laws.Externs
import Derived.KernelRfl
import Derived.Test.YtccmdlmlbkpjjaaGreatDoorCards
import Derived.Test.YtccmdlmlbkpjjaaGreatDoorTie
set_option linter.unusedSimpArgs false
set_option linter.unusedVariables false
/- What body-less functions give, package-level variables, the awakes of norialaw24 and norialaw26 by the evaluator. -/
namespace Go.Proofs.YtccmdlmlbkpjjaaGreatDoor
open Go.RowKit Go.Lib

noncomputable def cmpE : Array Value → Sem Value := Extern.ReflectliteType.method fun t => do Extern.Rtype.noPackHeld "Comparable" t; pure (.bool (← typeInfo t).comparable)
def inI64 : Int → Bool
  | .ofNat n => Nat.ble n 9223372036854775807
  | .negSucc n => Nat.ble n 9223372036854775807
theorem inI64_ok {n : Int} (h : inI64 n = true) : I64n n := by
  unfold inI64 at h
  unfold I64n
  split at h
  · rename_i k
    have hk : k ≤ 9223372036854775807 := by simpa using h
    have : (Int.ofNat k : Int) = (k : Int) := rfl
    omega
  · rename_i k
    have hk : k ≤ 9223372036854775807 := by simpa using h
    have : Int.negSucc k = -(k : Int) - 1 := by omega
    omega
def exE : Nat → List SV → Option SV
  | 91, [.c (.v (.iface 45 _))] => some (.c (.v (.iface 242 (.agg #[.pointer (some ⟨12, 45, none⟩)]))))
  | 257, [.agg [.v (.pointer (some ⟨12, 45, none⟩))]] => some (.c (.v (.bool true)))
  | _, _ => none
def exT : Nat → List SV → Option SV
  | 106, [.c (.v (.int .i64 n)), .c (.v (.int .i64 10))] => match inI64 n with
    | true => some (.c (.v (str (itoa n))))
    | false => none
  | f, vs => exE f vs
def glE : Gl := [(7, bruijn.map fun n => .int .u8 n)]
def glT : Gl := [(0, strs kindsL), (1, strs statesL), (2, strs deedsL), (3, strs signsL), (7, bruijn.map fun n => .int .u8 n)]
theorem ext91 : ∃ fn, Tryz.prog.funcs[91]? = some fn ∧ (fn.name == "runtime.NumGoroutine") = false ∧ fn.body.isNone = true ∧ Extern.findNext fn = none ∧ Extern.find fn = some Extern.ReflectliteType.typeOf :=
  ⟨_, Tryz.func91, by kernel_rfl, by kernel_rfl, by kernel_rfl, by kernel_rfl⟩
theorem ext257 : ∃ fn, Tryz.prog.funcs[257]? = some fn ∧ (fn.name == "runtime.NumGoroutine") = false ∧ fn.body.isNone = true ∧ Extern.findNext fn = none ∧ Extern.find fn = some cmpE :=
  ⟨_, Tryz.func257, by kernel_rfl, by kernel_rfl, by kernel_rfl, by kernel_rfl⟩
theorem typeOf45 (v : Value) (w : World) : (Extern.ReflectliteType.typeOf #[.iface 45 v]).run Tryz.prog w = .ok (.iface 242 (.agg #[.pointer (some ⟨12, 45, none⟩)])) w := by kernel_rfl
theorem comparable45 (w : World) : (cmpE #[.agg #[.pointer (some ⟨12, 45, none⟩)]]).run Tryz.prog w = .ok (.bool true) w := by kernel_rfl
theorem exE_ok {m : PH} : ExOk Tryz.prog exE [roAll m] := by
  intro f vs x h
  unfold exE at h
  split at h
  · cases h
    refine ⟨fun _ => trivial, fun β => .inl fun w => ?_⟩
    obtain ⟨fn, h1, h2, h3, h4, h5⟩ := ext91
    rw [run_callFunc_extern h1 h2 h3 h4 h5]
    have := typeOf45
    simp only [List.map_cons, List.map_nil, SV.den, Ce.den]
    rw [this]
    rfl
  · cases h
    refine ⟨fun _ => trivial, fun β => .inl fun w => ?_⟩
    obtain ⟨fn, h1, h2, h3, h4, h5⟩ := ext257
    rw [run_callFunc_extern h1 h2 h3 h4 h5]
    have := comparable45
    simp only [List.map_cons, List.map_nil, SV.den, Ce.den]
    rw [this]
    rfl
  · cases h
theorem exT_ok {m : PH} (hG : GlN m) : ExOk Tryz.prog exT [roAll m] := by
  intro f vs x h
  unfold exT at h
  split at h
  · rename_i n
    split at h <;> cases h
    rename_i hn
    refine ⟨fun _ => trivial, fun β => .inr ?_⟩
    exact (FormatInt_ok hG n (inI64_ok hn)).mono fun v Q hq => hq.1
  · exact exE_ok f vs x h
theorem mix0 : Tryz.prog.follows .mixedOrders = true := by kernel_rfl
theorem noNg0 : noNg Tryz.prog = true := by kernel_rfl
abbrev kn (m : PH) : Kn := ⟨exT, glT, [roAll m], 58⟩
theorem jn_ok : JnOk Tryz.prog 58 := fun _ => ⟨enters_of Tryz.func58 (by kernel_rfl) rfl, fun bk o c xs sep w h1 h2 h3 h4 h5 => Tryz.strings_Join bk o c xs sep w h1 h2 h3 h4 h5⟩
abbrev knE (m : PH) : Kn := ⟨exE, glE, [roAll m], 58⟩
theorem glE_ok {m : PH} (hG : GlT m) : GlobP glE [roAll m] [roAll m] := GlobP.ro fun e he => by
  simp only [glE, List.mem_cons, List.not_mem_nil, or_false] at he
  rcases he with rfl
  exact hG.tz
theorem gl_ok {m : PH} (hG : GlN m) : GlobP glT [roAll m] [roAll m] := GlobP.ro fun e he => by
  simp only [glT, List.mem_cons, List.not_mem_nil, or_false] at he
  rcases he with rfl | rfl | rfl | rfl | rfl
  · exact hG.kinds
  · exact hG.states
  · exact hG.deeds
  · exact hG.signs
  · exact hG.tz
end Go.Proofs.YtccmdlmlbkpjjaaGreatDoor

/- The document's Digits, num and Deed; the program's number. -/
namespace Go.Proofs.YtccmdlmlbkpjjaaGreatDoor
open Go.RowKit Go.Lib
attribute [local irreducible] Nx Ar BrM headC OneC HoC AftC planHead endF
set_option maxRecDepth 20000

structure DgX where
  m : Int
  d : Str
  A : Option Addr
  c : Nat
structure DgI (n : Int) (x : DgX) : Prop where
  e : decDigits n.natAbs = decDigits x.m.natAbs ++ x.d.reverse
  b : I64n x.m
  len : x.d.length ≤ 20
theorem dg_step {n m : Int} {d : Str} (h : decDigits n.natAbs = decDigits m.natAbs ++ d.reverse) (h0 : ¬ m.natAbs < 10) :
    decDigits n.natAbs = decDigits (m.tdiv 10).natAbs ++ (d ++ [UInt8.ofNat (48 + m.natAbs % 10)]).reverse := by
  have e : (m.tdiv 10).natAbs = m.natAbs / 10 := by rw [Int.natAbs_tdiv]; rfl
  rw [e, h, decDigits_big h0]
  simp
theorem dg_last {n m : Int} {d : Str} (h : decDigits n.natAbs = decDigits m.natAbs ++ d.reverse) (h0 : m.natAbs < 10) :
    decDigits n.natAbs = (d ++ [UInt8.ofNat (48 + m.natAbs % 10)]).reverse := by
  rw [h, decDigits_small h0, Nat.mod_eq_of_lt h0]
  simp

theorem u8s_snoc (l : Str) (c : UInt8) {v : Int} (h : (c.toNat : Int) = v) : u8s (l ++ [c]) = u8s l ++ [.int .u8 v] := by subst h; simp [u8s]
theorem drop_rev {d : Str} {j : Nat} (h : j < d.length) : (d.drop j).reverse = (d.drop (j + 1)).reverse ++ [d[j]] := by
  rw [List.drop_eq_getElem_cons h]; simp
theorem one_of_drop {d : Str} {j : Nat} (h : j < d.length) : ((u8s d).drop (j * 1)).take ((j + 1 - j) * 1) = u8s [d[j]] := by
  have h2 : j + 1 - j = 1 := by omega
  rw [h2, Nat.mul_one, Nat.mul_one]
  have : j < (u8s d).length := by simpa using h
  rw [List.drop_eq_getElem_cons this]
  simp [u8s]

set_option maxHeartbeats 4000000 in
theorem Digits_ok (n : Int) (hn : I64n n) : FnOk Tryz.prog 46 [.int .i64 n] [] (fun v Q => v = str (itoa n) ∧ Q = []) := by
  have hn' := hn
  unfold I64n at hn'
  have hlen := decDigits_len 20 n.natAbs (by omega) (by omega)
  refine FnOk.start Tryz.func46 rfl rfl rfl rfl fun F os tape output => ?_
  refine go 200 ?_
  conv => whnf
  repeat' (first | ((first | refine BrM.t rfl ?_ | refine BrM.f rfl ?_ | refine BrM.dec (fun _ => ?_) (fun _ => ?_) | refine BrM.mk (fun _ => ?_) (fun _ => ?_) | refine Ar.i64 (by omega) (by omega) ?_ | refine gO rfl ?_ | refine gP rfl (by repeat constructor) ?_) <;> conv => whnf) | (fail) | refine Nx.late ?_)
  refine Nx.give 1 (ownS 5 none 0 0 1 []) (own_nil _ _ _ _) ?_
  repeat' (first | ((first | refine BrM.t rfl ?_ | refine BrM.f rfl ?_ | refine BrM.dec (fun _ => ?_) (fun _ => ?_) | refine BrM.mk (fun _ => ?_) (fun _ => ?_) | refine Ar.i64 (by omega) (by omega) ?_ | refine gO rfl ?_ | refine gP rfl (by repeat constructor) ?_) <;> conv => whnf) | (fail) | refine Nx.late ?_)
  refine Nx.loop (X := DgX) (DgI n) (fun x => x.m.natAbs)
    (fun x => [(0, iv x.m), (3, bv (decide (n < 0))), (4, sl x.A x.d.length x.c)]) (fun _ => []) [] (fun x => [(1, ownS 5 x.A x.d.length x.c 1 (u8s x.d))])
    ⟨n, [], none, 0⟩ ⟨by simp, hn, by simp⟩ ?_ ?_ ?_ ?_ ?_
  all_goals repeat (first | exact .nil _ | refine .cons rfl ?_ | refine .cons rfl rfl ?_ | refine .cons rfl rfl rfl ?_ | refine .cons' rfl (fun _ => rfl) ?_)
  intro x hx ih
  have hb := hx.b
  unfold I64n at hb
  have hxl := hx.len
  obtain ⟨r, hr⟩ : ∃ r : Nat, r = x.m.natAbs % 10 := ⟨_, rfl⟩
  obtain ⟨q, hq⟩ : ∃ q : Int, q = x.m.tdiv 10 := ⟨_, rfl⟩
  have hm : x.m.tmod 10 = (if x.m < 0 then -(r : Int) else (r : Int)) := by
    subst hr
    split
    · obtain ⟨k, hk⟩ : ∃ k : Nat, x.m = -(k : Int) := ⟨x.m.natAbs, by omega⟩
      rw [hk, Int.neg_tmod]; simp; rfl
    · obtain ⟨k, hk⟩ : ∃ k : Nat, x.m = (k : Int) := ⟨x.m.natAbs, by omega⟩
      rw [hk]; simp; rfl
  have hd : q.natAbs = x.m.natAbs / 10 := by rw [hq, Int.natAbs_tdiv]; rfl
  have hqr : inR .i64 q := ⟨by omega, by omega⟩
  have hq2 : IntKind.i64.wrap (x.m.tdiv 10) = q := by rw [← hq]; exact inR_wrap hqr
  have hdig : ((UInt8.ofNat (48 + x.m.natAbs % 10)).toNat : Int) = 48 + (r : Int) := by rw [dig_ofNat (by omega)]; omega
  have hstep := fun h0 => dg_step hx.e (h0 : ¬ x.m.natAbs < 10)
  have hlast := fun h0 => dg_last hx.e (h0 : x.m.natAbs < 10)
  rw [← hq] at hstep
  obtain ⟨d', hd'⟩ : ∃ d' : Str, d' = x.d ++ [UInt8.ofNat (48 + x.m.natAbs % 10)] := ⟨_, rfl⟩
  rw [← hd'] at hstep hlast
  have hdl : d'.length = x.d.length + 1 := by rw [hd', List.length_append]; rfl
  have hdu : u8s d' = u8s x.d ++ [.int .u8 (48 + (r : Int))] := by rw [hd', u8s_snoc _ _ hdig]
  have hr10 : r < 10 := by omega
  clear hr hq hd'
  refine go 200 ?_
  conv => whnf
  refine Nx.divI rfl (.inl ⟨rfl, hm⟩) rfl rfl (by decide) rfl ?_
  refine go 3 ?_
  conv => whnf
  refine Nx.joinR (E := [(0, iv x.m), (3, bv (decide (n < 0))), (4, sl x.A x.d.length x.c), (5, iv r)]) (M := []) (B := []) (R := [(1, ownS 5 x.A x.d.length x.c 1 (u8s x.d))]) (fun K => ?_) ?_
  · by_cases h0 : x.m < 0
    · rw [if_pos h0]
      by_cases hr0 : r = 0
      · subst hr0
        repeat' (first | (with_reducible refine Nx.weak K ?_ ?_ ?_ ?_) <;> (first | ((repeat (first | exact .nil _ | refine .cons rfl ?_ | refine .cons rfl rfl ?_ | refine .cons rfl rfl rfl ?_ | refine .cons' rfl (fun _ => rfl) ?_)); done) | omega | (dsimp only; omega) | (repeat (first | exact subE.nil _ | refine subE.cons rfl rfl ?_ | refine subE.cons' rfl (fun _ => rfl) ?_ | (refine subE.cons rfl ?_ ?_; · (simp; done))); done) | skip) | ((first | refine BrM.not (by omega) ?_ | refine BrM.t rfl ?_ | refine BrM.f rfl ?_ | refine BrM.dec (fun _ => ?_) (fun _ => ?_) | refine BrM.mk (fun _ => ?_) (fun _ => ?_) | refine Ar.i64 (by omega) (by omega) ?_ | refine gR rfl ?_ | refine gP rfl (by repeat constructor) ?_) <;> conv => whnf) | refine Nx.late ?_)
      · repeat' (first | (with_reducible refine Nx.weak K ?_ ?_ ?_ ?_) <;> (first | ((repeat (first | exact .nil _ | refine .cons rfl ?_ | refine .cons rfl rfl ?_ | refine .cons rfl rfl rfl ?_ | refine .cons' rfl (fun _ => rfl) ?_)); done) | omega | (dsimp only; omega) | (repeat (first | exact subE.nil _ | refine subE.cons rfl rfl ?_ | refine subE.cons' rfl (fun _ => rfl) ?_ | (refine subE.cons rfl ?_ ?_; · (simp; done))); done) | skip) | (refine atAr ?_; refine Ar.to (k := .i64) ((r : Int)) (by omega) ⟨by omega, by omega⟩ ?_; conv => whnf) | ((first | refine BrM.yes (by omega) ?_ | refine BrM.t rfl ?_ | refine BrM.f rfl ?_ | refine BrM.dec (fun _ => ?_) (fun _ => ?_) | refine BrM.mk (fun _ => ?_) (fun _ => ?_) | refine Ar.i64 (by omega) (by omega) ?_ | refine gR rfl ?_ | refine gP rfl (by repeat constructor) ?_) <;> conv => whnf) | refine Nx.late ?_)
    · rw [if_neg h0]
      repeat' (first | (with_reducible refine Nx.weak K ?_ ?_ ?_ ?_) <;> (first | ((repeat (first | exact .nil _ | refine .cons rfl ?_ | refine .cons rfl rfl ?_ | refine .cons rfl rfl rfl ?_ | refine .cons' rfl (fun _ => rfl) ?_)); done) | omega | (dsimp only; omega) | (repeat (first | exact subE.nil _ | refine subE.cons rfl rfl ?_ | refine subE.cons' rfl (fun _ => rfl) ?_ | (refine subE.cons rfl ?_ ?_; · (simp; done))); done) | skip) | ((first | refine BrM.not (by omega) ?_ | refine BrM.t rfl ?_ | refine BrM.f rfl ?_ | refine BrM.dec (fun _ => ?_) (fun _ => ?_) | refine BrM.mk (fun _ => ?_) (fun _ => ?_) | refine Ar.i64 (by omega) (by omega) ?_ | refine gR rfl ?_ | refine gP rfl (by repeat constructor) ?_) <;> conv => whnf) | refine Nx.late ?_)
  by_cases hq0 : q = 0
  · repeat' (first | ((first | refine BrM.yes (by omega) ?_ | refine BrM.t rfl ?_ | refine BrM.f rfl ?_ | refine BrM.dec (fun _ => ?_) (fun _ => ?_) | refine BrM.mk (fun _ => ?_) (fun _ => ?_) | refine Ar.i64 (by omega) (by omega) ?_ | refine gO rfl ?_ | refine gP rfl (by repeat constructor) ?_) <;> conv => whnf) | (refine atQuo ?_; refine Nx.divI rfl (.inr ⟨rfl, hq2⟩) rfl rfl (by decide) rfl ?_) | (refine atAr ?_; refine Ar.ok (k := .u8) ⟨by omega, by omega⟩ ?_; conv => whnf) | (refine atApp ?_; refine Nx.append 1 (sz := 1) (by_ := 1) (news := [.int .u8 (48+(r:Int))]) rfl rfl rfl rfl rfl Tryz.underlying180 rfl rfl rfl rfl rfl (by unfold maxLen; omega) (by omega) fun A' c'' => ?_) | refine Nx.late ?_)
    rw [← hdu, ← hdl]
    have hdl2 : d'.length ≤ 21 := by omega
    have hd2 := hlast (by omega)
    refine Nx.loop (X := Nat) (fun j => j ≤ d'.length) (fun j => j)
      (fun j => [(3, bv (decide (n < 0))), (4, sl A' d'.length c''), (6, sv (d'.drop j).reverse), (7, iv ((j : Int) - 1))]) (fun _ => []) [] (fun _ => [(1, ownS 5 A' d'.length c'' 1 (u8s d'))])
      d'.length (Nat.le_refl _) ?_ ?_ ?_ ?_ ?_
    · refine .cons rfl rfl (.cons rfl rfl (.cons rfl (by simp) (.cons rfl rfl (.nil _))))
    all_goals repeat (first | exact .nil _ | refine .cons rfl ?_ | refine .cons rfl rfl ?_ | refine .cons rfl rfl rfl ?_ | refine .cons' rfl (fun _ => rfl) ?_)
    intro j hj ih2
    refine Nx.fact 1 (p := d'.length ≤ c'') rfl (fun r h hs => (ownS_fit hs).1) fun hfit => ?_
    rcases j with _ | j
    · have hlr : (List.drop 0 d').reverse = decDigits n.natAbs := by rw [List.drop_zero, hd2]
      rw [hlr]
      by_cases hneg : n < 0
      · repeat' (first | ((first | refine BrM.yes (by omega) ?_ | refine BrM.not (by omega) ?_ | refine BrM.t rfl ?_ | refine BrM.f rfl ?_ | refine BrM.dec (fun _ => ?_) (fun _ => ?_) | refine BrM.mk (fun _ => ?_) (fun _ => ?_) | refine Ar.i64 (by omega) (by omega) ?_ | refine gO rfl ?_ | refine gP rfl (by repeat constructor) ?_) <;> conv => whnf) | (refine atAdd ?_; refine Nx.cat rfl rfl rfl rfl ((by simp; omega)) ?_) | (refine atRet ?_; refine Nx.ret [] Tryz.func46 rfl rfl ?_; (exact ⟨by rw [itoa_neg hneg]; rfl, rfl⟩)) | refine Nx.late ?_)
      · repeat' (first | ((first | refine BrM.yes (by omega) ?_ | refine BrM.not (by omega) ?_ | refine BrM.t rfl ?_ | refine BrM.f rfl ?_ | refine BrM.dec (fun _ => ?_) (fun _ => ?_) | refine BrM.mk (fun _ => ?_) (fun _ => ?_) | refine Ar.i64 (by omega) (by omega) ?_ | refine gO rfl ?_ | refine gP rfl (by repeat constructor) ?_) <;> conv => whnf) | (refine atRet ?_; refine Nx.ret [] Tryz.func46 rfl rfl ?_; (exact ⟨by rw [itoa_pos (by omega), show n.toNat = n.natAbs by omega]; rfl, rfl⟩)) | refine Nx.late ?_)
    · have e1 : ((j + 1 : Nat) : Int) - 1 = (j : Int) := by omega
      rw [e1]
      repeat' (first | ((first | refine BrM.yes (by omega) ?_ | refine BrM.t rfl ?_ | refine BrM.f rfl ?_ | refine BrM.dec (fun _ => ?_) (fun _ => ?_) | refine BrM.mk (fun _ => ?_) (fun _ => ?_) | refine Ar.i64 (by omega) (by omega) ?_ | refine gO rfl ?_ | refine gP rfl (by repeat constructor) ?_) <;> conv => whnf) | (refine atSlice ?_; refine Nx.reslice (l := j) (h := (j+1)) (m := c'') rfl rfl Tryz.underlying180 rfl rfl (rfl) (rfl) (rfl) (by simp) (by omega) (by omega) (by omega) ?_) | (refine atConv ?_; refine Nx.bstr 1 rfl rfl Tryz.underlying180 Tryz.underlying5 Tryz.underlying9 rfl rfl ((one_of_drop hj ▸ Sees.part (ownS_sees _ _ _ _ _ _) (by omega) (by omega) (by omega))) (by omega) ?_) | (refine atAdd ?_; refine Nx.cat rfl rfl rfl rfl ((by simp; omega)) ?_) | refine Nx.late ?_)
      refine (ih2 j (by omega) (by omega)).weak ?_ ?_ ?_ ?_
      · refine .cons rfl rfl (.cons rfl rfl (.cons rfl (by rw [drop_rev hj]) (.cons rfl rfl (.nil _))))
      all_goals repeat (first | exact .nil _ | refine .cons rfl ?_ | refine .cons rfl rfl ?_ | refine .cons rfl rfl rfl ?_ | refine .cons' rfl (fun _ => rfl) ?_)
  · repeat' (first | ((first | refine BrM.not (by omega) ?_ | refine BrM.t rfl ?_ | refine BrM.f rfl ?_ | refine BrM.dec (fun _ => ?_) (fun _ => ?_) | refine BrM.mk (fun _ => ?_) (fun _ => ?_) | refine Ar.i64 (by omega) (by omega) ?_ | refine gO rfl ?_ | refine gP rfl (by repeat constructor) ?_) <;> conv => whnf) | (refine atQuo ?_; refine Nx.divI rfl (.inr ⟨rfl, hq2⟩) rfl rfl (by decide) rfl ?_) | (refine atAr ?_; refine Ar.ok (k := .u8) ⟨by omega, by omega⟩ ?_; conv => whnf) | (refine atApp ?_; refine Nx.append 1 (sz := 1) (by_ := 1) (news := [.int .u8 (48+(r:Int))]) rfl rfl rfl rfl rfl Tryz.underlying180 rfl rfl rfl rfl rfl (by unfold maxLen; omega) (by omega) fun A' c'' => ?_) | refine Nx.late ?_)
    rw [← hdu, ← hdl]
    have hl2 := congrArg List.length (hstep (by omega))
    rw [List.length_append, List.length_reverse] at hl2
    refine (ih ⟨q, d', A', c''⟩ ⟨hstep (by omega), hqr, by show d'.length ≤ 20; omega⟩ (by show q.natAbs < _; omega)).weak ?_ ?_ ?_ ?_
    all_goals repeat (first | exact .nil _ | refine .cons rfl ?_ | refine .cons rfl rfl ?_ | refine .cons rfl rfl rfl ?_ | refine .cons' rfl (fun _ => rfl) ?_)
theorem itoa_len (n : Int) (hn : I64n n) : (itoa n).length ≤ 21 := by
  unfold I64n at hn
  have := decDigits_len 20 n.natAbs (by omega) (by omega)
  by_cases h : n < 0
  · rw [itoa_neg h]; simp; omega
  · rw [itoa_pos (by omega), show n.toNat = n.natAbs by omega]; omega
def numS (n : Int) : Str := 32 :: itoa n
theorem num_ok (n : Int) (hn : I64n n) : FnOk Tryz.prog 48 [.int .i64 n] [] (fun v Q => v = str (numS n) ∧ Q = []) := by
  have hl := itoa_len n hn
  refine FnOk.start Tryz.func48 rfl rfl rfl rfl fun F os tape output => ?_
  refine go 200 ?_
  conv => whnf
  repeat' (first | ((first | refine BrM.t rfl ?_ | refine BrM.f rfl ?_ | refine BrM.dec (fun _ => ?_) (fun _ => ?_) | refine BrM.mk (fun _ => ?_) (fun _ => ?_) | refine Ar.i64 (by omega) (by omega) ?_ | refine gO rfl ?_ | refine gP rfl (by repeat constructor) ?_) <;> conv => whnf) | (refine atCall 46 ?_; refine cE [] [] rfl rfl rfl rfl rfl ((Digits_ok n hn)) rfl ?_) | (refine atAdd ?_; refine Nx.cat rfl rfl rfl rfl ((by simp; omega)) ?_) | (refine atRet ?_; refine Nx.ret [] Tryz.func48 rfl rfl ?_; (exact ⟨rfl, rfl⟩)) | refine Nx.late ?_)
/-- A deed's name. -/
def deedW (d : Int) : Str := if 0 ≤ d ∧ d < 8 then deedsL.getD d.toNat [] else [110, 111, 110, 101]
theorem Deed_ok (d : Int) : FnOk Tryz.prog 47 [.int .i64 d] [] (fun v Q => v = str (deedW d) ∧ Q = []) := by
  by_cases h : 0 ≤ d ∧ d < 8
  · have e : deedW d = deedsL.getD d.toNat [] := by unfold deedW; rw [if_pos h]
    rw [e]
    have hc : d = 0 ∨ d = 1 ∨ d = 2 ∨ d = 3 ∨ d = 4 ∨ d = 5 ∨ d = 6 ∨ d = 7 := by omega
    rcases hc with rfl | rfl | rfl | rfl | rfl | rfl | rfl | rfl
    · refine FnOk.start Tryz.func47 rfl rfl rfl rfl fun F os tape output => ?_
      refine go 200 ?_
      conv => whnf
      repeat' (first | ((first | refine BrM.t rfl ?_ | refine BrM.f rfl ?_ | refine BrM.dec (fun _ => ?_) (fun _ => ?_) | refine BrM.mk (fun _ => ?_) (fun _ => ?_) | refine Ar.i64 (by omega) (by omega) ?_ | refine gO rfl ?_ | refine gP rfl (by repeat constructor) ?_) <;> conv => whnf) | (refine atIdx ?_; refine Nx.bind (l := 4) (fun _ => ?_) rfl; refine Nx.lidx (q := 0) (sz := 1) rfl rfl rfl rfl Tryz.underlying39 rfl rfl (by omega) (by omega) (by omega) ?_) | (refine atLoad ?_; refine Nx.loadAt 4 rfl rfl rfl rfl rfl rfl (rfl) ?_) | (refine atRet ?_; refine Nx.ret [] Tryz.func47 rfl rfl ?_; (exact ⟨rfl, rfl⟩)) | refine Nx.late ?_)
    · refine FnOk.start Tryz.func47 rfl rfl rfl rfl fun F os tape output => ?_
      refine go 200 ?_
      conv => whnf
      repeat' (first | ((first | refine BrM.t rfl ?_ | refine BrM.f rfl ?_ | refine BrM.dec (fun _ => ?_) (fun _ => ?_) | refine BrM.mk (fun _ => ?_) (fun _ => ?_) | refine Ar.i64 (by omega) (by omega) ?_ | refine gO rfl ?_ | refine gP rfl (by repeat constructor) ?_) <;> conv => whnf) | (refine atIdx ?_; refine Nx.bind (l := 4) (fun _ => ?_) rfl; refine Nx.lidx (q := 1) (sz := 1) rfl rfl rfl rfl Tryz.underlying39 rfl rfl (by omega) (by omega) (by omega) ?_) | (refine atLoad ?_; refine Nx.loadAt 4 rfl rfl rfl rfl rfl rfl (rfl) ?_) | (refine atRet ?_; refine Nx.ret [] Tryz.func47 rfl rfl ?_; (exact ⟨rfl, rfl⟩)) | refine Nx.late ?_)
    · refine FnOk.start Tryz.func47 rfl rfl rfl rfl fun F os tape output => ?_
      refine go 200 ?_
      conv => whnf
      repeat' (first | ((first | refine BrM.t rfl ?_ | refine BrM.f rfl ?_ | refine BrM.dec (fun _ => ?_) (fun _ => ?_) | refine BrM.mk (fun _ => ?_) (fun _ => ?_) | refine Ar.i64 (by omega) (by omega) ?_ | refine gO rfl ?_ | refine gP rfl (by repeat constructor) ?_) <;> conv => whnf) | (refine atIdx ?_; refine Nx.bind (l := 4) (fun _ => ?_) rfl; refine Nx.lidx (q := 2) (sz := 1) rfl rfl rfl rfl Tryz.underlying39 rfl rfl (by omega) (by omega) (by omega) ?_) | (refine atLoad ?_; refine Nx.loadAt 4 rfl rfl rfl rfl rfl rfl (rfl) ?_) | (refine atRet ?_; refine Nx.ret [] Tryz.func47 rfl rfl ?_; (exact ⟨rfl, rfl⟩)) | refine Nx.late ?_)
    · refine FnOk.start Tryz.func47 rfl rfl rfl rfl fun F os tape output => ?_
      refine go 200 ?_
      conv => whnf
      repeat' (first | ((first | refine BrM.t rfl ?_ | refine BrM.f rfl ?_ | refine BrM.dec (fun _ => ?_) (fun _ => ?_) | refine BrM.mk (fun _ => ?_) (fun _ => ?_) | refine Ar.i64 (by omega) (by omega) ?_ | refine gO rfl ?_ | refine gP rfl (by repeat constructor) ?_) <;> conv => whnf) | (refine atIdx ?_; refine Nx.bind (l := 4) (fun _ => ?_) rfl; refine Nx.lidx (q := 3) (sz := 1) rfl rfl rfl rfl Tryz.underlying39 rfl rfl (by omega) (by omega) (by omega) ?_) | (refine atLoad ?_; refine Nx.loadAt 4 rfl rfl rfl rfl rfl rfl (rfl) ?_) | (refine atRet ?_; refine Nx.ret [] Tryz.func47 rfl rfl ?_; (exact ⟨rfl, rfl⟩)) | refine Nx.late ?_)
    · refine FnOk.start Tryz.func47 rfl rfl rfl rfl fun F os tape output => ?_
      refine go 200 ?_
      conv => whnf
      repeat' (first | ((first | refine BrM.t rfl ?_ | refine BrM.f rfl ?_ | refine BrM.dec (fun _ => ?_) (fun _ => ?_) | refine BrM.mk (fun _ => ?_) (fun _ => ?_) | refine Ar.i64 (by omega) (by omega) ?_ | refine gO rfl ?_ | refine gP rfl (by repeat constructor) ?_) <;> conv => whnf) | (refine atIdx ?_; refine Nx.bind (l := 4) (fun _ => ?_) rfl; refine Nx.lidx (q := 4) (sz := 1) rfl rfl rfl rfl Tryz.underlying39 rfl rfl (by omega) (by omega) (by omega) ?_) | (refine atLoad ?_; refine Nx.loadAt 4 rfl rfl rfl rfl rfl rfl (rfl) ?_) | (refine atRet ?_; refine Nx.ret [] Tryz.func47 rfl rfl ?_; (exact ⟨rfl, rfl⟩)) | refine Nx.late ?_)
    · refine FnOk.start Tryz.func47 rfl rfl rfl rfl fun F os tape output => ?_
      refine go 200 ?_
      conv => whnf
      repeat' (first | ((first | refine BrM.t rfl ?_ | refine BrM.f rfl ?_ | refine BrM.dec (fun _ => ?_) (fun _ => ?_) | refine BrM.mk (fun _ => ?_) (fun _ => ?_) | refine Ar.i64 (by omega) (by omega) ?_ | refine gO rfl ?_ | refine gP rfl (by repeat constructor) ?_) <;> conv => whnf) | (refine atIdx ?_; refine Nx.bind (l := 4) (fun _ => ?_) rfl; refine Nx.lidx (q := 5) (sz := 1) rfl rfl rfl rfl Tryz.underlying39 rfl rfl (by omega) (by omega) (by omega) ?_) | (refine atLoad ?_; refine Nx.loadAt 4 rfl rfl rfl rfl rfl rfl (rfl) ?_) | (refine atRet ?_; refine Nx.ret [] Tryz.func47 rfl rfl ?_; (exact ⟨rfl, rfl⟩)) | refine Nx.late ?_)
    · refine FnOk.start Tryz.func47 rfl rfl rfl rfl fun F os tape output => ?_
      refine go 200 ?_
      conv => whnf
      repeat' (first | ((first | refine BrM.t rfl ?_ | refine BrM.f rfl ?_ | refine BrM.dec (fun _ => ?_) (fun _ => ?_) | refine BrM.mk (fun _ => ?_) (fun _ => ?_) | refine Ar.i64 (by omega) (by omega) ?_ | refine gO rfl ?_ | refine gP rfl (by repeat constructor) ?_) <;> conv => whnf) | (refine atIdx ?_; refine Nx.bind (l := 4) (fun _ => ?_) rfl; refine Nx.lidx (q := 6) (sz := 1) rfl rfl rfl rfl Tryz.underlying39 rfl rfl (by omega) (by omega) (by omega) ?_) | (refine atLoad ?_; refine Nx.loadAt 4 rfl rfl rfl rfl rfl rfl (rfl) ?_) | (refine atRet ?_; refine Nx.ret [] Tryz.func47 rfl rfl ?_; (exact ⟨rfl, rfl⟩)) | refine Nx.late ?_)
    · refine FnOk.start Tryz.func47 rfl rfl rfl rfl fun F os tape output => ?_
      refine go 200 ?_
      conv => whnf
      repeat' (first | ((first | refine BrM.t rfl ?_ | refine BrM.f rfl ?_ | refine BrM.dec (fun _ => ?_) (fun _ => ?_) | refine BrM.mk (fun _ => ?_) (fun _ => ?_) | refine Ar.i64 (by omega) (by omega) ?_ | refine gO rfl ?_ | refine gP rfl (by repeat constructor) ?_) <;> conv => whnf) | (refine atIdx ?_; refine Nx.bind (l := 4) (fun _ => ?_) rfl; refine Nx.lidx (q := 7) (sz := 1) rfl rfl rfl rfl Tryz.underlying39 rfl rfl (by omega) (by omega) (by omega) ?_) | (refine atLoad ?_; refine Nx.loadAt 4 rfl rfl rfl rfl rfl rfl (rfl) ?_) | (refine atRet ?_; refine Nx.ret [] Tryz.func47 rfl rfl ?_; (exact ⟨rfl, rfl⟩)) | refine Nx.late ?_)
  · have e : deedW d = [110, 111, 110, 101] := by unfold deedW; rw [if_neg h]
    rw [e]
    by_cases h0 : d < 0
    · refine FnOk.start Tryz.func47 rfl rfl rfl rfl fun F os tape output => ?_
      refine go 200 ?_
      conv => whnf
      repeat' (first | ((first | refine BrM.yes (by omega) ?_ | refine BrM.t rfl ?_ | refine BrM.f rfl ?_ | refine BrM.dec (fun _ => ?_) (fun _ => ?_) | refine BrM.mk (fun _ => ?_) (fun _ => ?_) | refine Ar.i64 (by omega) (by omega) ?_ | refine gO rfl ?_ | refine gP rfl (by repeat constructor) ?_) <;> conv => whnf) | (refine atRet ?_; refine Nx.ret [] Tryz.func47 rfl rfl ?_; (exact ⟨rfl, rfl⟩)) | refine Nx.late ?_)
    · refine FnOk.start Tryz.func47 rfl rfl rfl rfl fun F os tape output => ?_
      refine go 200 ?_
      conv => whnf
      repeat' (first | ((first | refine BrM.yes (by omega) ?_ | refine BrM.not (by omega) ?_ | refine BrM.t rfl ?_ | refine BrM.f rfl ?_ | refine BrM.dec (fun _ => ?_) (fun _ => ?_) | refine BrM.mk (fun _ => ?_) (fun _ => ?_) | refine Ar.i64 (by omega) (by omega) ?_ | refine gO rfl ?_ | refine gP rfl (by repeat constructor) ?_) <;> conv => whnf) | (refine atRet ?_; refine Nx.ret [] Tryz.func47 rfl rfl ?_; (exact ⟨rfl, rfl⟩)) | refine Nx.late ?_)
theorem number_ok {m : PH} (hG : GlN m) (n : Int) (hn : I64n n) : FnOk Tryz.prog 50 [.int .i64 n] [roAll m] (fun v Q => v = str (itoa n) ∧ Q = [roAll m]) := by
  refine FnOk.start Tryz.func50 rfl rfl rfl rfl fun F os tape output => ?_
  refine go 200 ?_
  conv => whnf
  repeat' (first | ((first | refine BrM.t rfl ?_ | refine BrM.f rfl ?_ | refine BrM.dec (fun _ => ?_) (fun _ => ?_) | refine BrM.mk (fun _ => ?_) (fun _ => ?_) | refine Ar.i64 (by omega) (by omega) ?_ | refine gO rfl ?_ | refine gP rfl (by repeat constructor) ?_) <;> conv => whnf) | (refine atCall 106 ?_; refine cE [0] [0] rfl rfl rfl rfl rfl ((FormatInt_ok hG n hn)) rfl ?_) | (refine atRet ?_; refine Nx.ret [0] Tryz.func50 rfl rfl ?_; (exact ⟨rfl, rfl⟩)) | refine Nx.late ?_)
end Go.Proofs.YtccmdlmlbkpjjaaGreatDoor

/- A note as a line: the document's, and the program's. -/
namespace Go.Proofs.YtccmdlmlbkpjjaaGreatDoor
open Go.RowKit Go.Lib
set_option maxRecDepth 20000
set_option maxHeartbeats 4000000
section
variable {g : Cx} {env : Env} {mem : Mem} {bnd : Bnd} {L : Res} {N : Act → World → Prop}
theorem Nx.realS (s : Nat) {l o n c b : Nat} (hl : look env s = some (.c (.locs l o n c))) (hb : lookB bnd l = some b) (h : Nx g ((s, .c (.v (.slice (some ⟨b, o, none⟩) n c))) :: env) mem bnd L N) : Nx g env mem bnd L N := by
  intro β a w hr
  refine h β a w ⟨hr.defers, hr.size, fun k x hx => ?_, hr.bnd, hr.os, hr.tape, hr.output, hr.sat⟩
  rw [look_cons] at hx
  split at hx
  · rename_i e
    subst e
    cases hx
    rw [hr.env s _ hl]
    simp [SV.den, Ce.den, hr.bnd l b hb]
  · exact hr.env k x hx
end
theorem own_blk {e : TypeId} {b : Nat} {cells : List Value} (h : cells.length ≤ maxLen) : ∀ r m, blk b (.cells cells.toArray e (0, 0)) r m → ownS e (some ⟨b, 0, none⟩) cells.length cells.length 1 cells r m := by
  intro r m hb
  refine ⟨by simp, .inr ⟨_, _, rfl, hb, Nat.le_refl _, h, by simp, by rw [Nat.mul_one]; exact List.take_of_length_le (by simp)⟩⟩
theorem atReg (i : Nat) {g : Cx} {env : Env} {mem : Mem} {bnd : Bnd} {L : Res} {ops : Array Oper} {b : Bool} {k : List Item} (h : Nx g env mem bnd L (RunC g (.code (.region i ops b) :: k))) : Nx g env mem bnd L (RunC g (.code (.region i ops b) :: k)) := h
attribute [local irreducible] Nx Ar BrM headC OneC HoC AftC planHead endF
structure Note where
  who : Int
  ring : Int
  deed : Int
  lo : Int
  seq : Int
  key : Int
  val : Int
  code : Int
  deriving DecidableEq
def Note.enc (n : Note) : List Value := [.int .i64 n.who, .int .i64 n.ring, .int .i64 n.deed, .int .i64 n.lo, .int .i64 n.seq, .int .i64 n.key, .int .i64 n.val, .int .i64 n.code]
structure Note.wf (n : Note) : Prop where
  who : I64n n.who
  ring : I64n n.ring
  deed : I64n n.deed
  lo : I64n n.lo
  seq : I64n n.seq
  key : I64n n.key
  val : I64n n.val
  code : I64n n.code
def baseS (n : Note) : Str := ((itoa n.who ++ [32]) ++ deedW n.deed) ++ numS n.ring
/-- A note's line. -/
def noteS (n : Note) : Str :=
  if n.deed = 1 ∨ n.deed = 3 then (baseS n ++ numS n.lo) ++ numS n.seq
  else if n.deed = 2 then (((baseS n ++ numS n.seq) ++ numS n.key) ++ [58]) ++ itoa n.val
  else if n.deed = 4 then (if n.code = 0 then ((baseS n ++ numS 0) ++ numS n.lo) ++ numS n.seq else baseS n ++ numS n.code)
  else if n.deed = 5 ∨ n.deed = 6 ∨ n.deed = 7 then baseS n ++ numS n.seq
  else baseS n
theorem deedW_len (d : Int) : (deedW d).length ≤ 8 := by
  unfold deedW
  split
  · rename_i h
    have hc : d = 0 ∨ d = 1 ∨ d = 2 ∨ d = 3 ∨ d = 4 ∨ d = 5 ∨ d = 6 ∨ d = 7 := by omega
    rcases hc with rfl | rfl | rfl | rfl | rfl | rfl | rfl | rfl <;> decide
  · decide
theorem numS_len (n : Int) (hn : I64n n) : (numS n).length ≤ 22 := by have := itoa_len n hn; unfold numS; simp; omega
theorem I64n_zero : I64n 0 := by unfold I64n; omega
theorem refNote_ok (n : Note) (hw : n.wf) : FnOk Tryz.prog 16 [.agg n.enc.toArray] [] (fun v Q => v = str (noteS n) ∧ Q = []) := by
  have l1 := itoa_len _ hw.who
  have l2 := deedW_len n.deed
  have l3 := numS_len _ hw.ring
  have l4 := numS_len _ hw.lo
  have l5 := numS_len _ hw.seq
  have l6 := numS_len _ hw.key
  have l7 := itoa_len _ hw.val
  have l8 := numS_len _ hw.code
  have l9 := numS_len _ I64n_zero
  obtain ⟨who, ring, deed, lo, seq, key, val, code⟩ := n
  obtain ⟨h1, h2, h3, h4, h5, h6, h7, h8⟩ := hw
  dsimp only at *
  have hc : deed = 1 ∨ deed = 2 ∨ deed = 3 ∨ deed = 4 ∨ deed = 5 ∨ deed = 6 ∨ deed = 7 ∨ ¬(1 ≤ deed ∧ deed ≤ 7) := by omega
  rcases hc with rfl | rfl | rfl | rfl | rfl | rfl | rfl | hd
  · rw [show noteS ⟨who, ring, 1, lo, seq, key, val, code⟩ = (baseS ⟨who, ring, 1, lo, seq, key, val, code⟩ ++ numS lo) ++ numS seq from rfl]
    refine FnOk.start Tryz.func16 rfl rfl rfl rfl fun F os tape output => ?_
    refine go 200 ?_
    conv => whnf
    repeat' (first | ((first | refine BrM.t rfl ?_ | refine BrM.f rfl ?_ | refine BrM.dec (fun _ => ?_) (fun _ => ?_) | refine BrM.mk (fun _ => ?_) (fun _ => ?_) | refine Ar.i64 (by omega) (by omega) ?_ | refine gO rfl ?_ | refine gP rfl (by repeat constructor) ?_) <;> conv => whnf) | (refine Nx.bind (l := 1) (fun _ => ?_) rfl; refine dN 1 [] [0,5,16,21,32,37,10,12,26,28,42,44,48] rfl (by kernel_rfl) rfl (by kernel_rfl) rfl (by repeat constructor) rfl ?_) | (refine dN 5 [] [0,4,9,20,25,14,16,30,32,36] rfl (by kernel_rfl) rfl (by kernel_rfl) rfl (by repeat constructor) rfl ?_) | (refine dN 7 [] [0,4,9,20,24,29,44,48,53,14,16,34,36,40,58,60,64] rfl (by kernel_rfl) rfl (by kernel_rfl) rfl (by repeat constructor) rfl ?_) | (refine dN 10 [] [0,12,17,28,33,6,8,22,24,38,40,44] rfl (by kernel_rfl) rfl (by kernel_rfl) rfl (by repeat constructor) rfl ?_) | (refine atCall 46 ?_; refine cE [] [] rfl rfl rfl rfl rfl ((Digits_ok _ (by assumption))) rfl ?_) | (refine atCall 47 ?_; refine cE [] [] rfl rfl rfl rfl rfl ((Deed_ok 1)) rfl ?_) | (refine atCall 48 ?_; refine cE [] [] rfl rfl rfl rfl rfl ((num_ok _ (by first | assumption | exact I64n_zero))) rfl ?_) | (refine atHoAdd ?_; refine Nx.hoCat rfl rfl rfl rfl ((by simp; omega)) ?_) | (refine atAdd ?_; refine Nx.cat rfl rfl rfl rfl ((by simp; omega)) ?_) | (refine atAftK ?_; refine Nx.keepN [] rfl (by repeat constructor) (by repeat constructor) rfl ?_) | (refine atRet ?_; refine Nx.ret [] Tryz.func16 rfl rfl ?_; (exact ⟨rfl, rfl⟩)) | refine Nx.late ?_)
  · rw [show noteS ⟨who, ring, 2, lo, seq, key, val, code⟩ = (((baseS ⟨who, ring, 2, lo, seq, key, val, code⟩ ++ numS seq) ++ numS key) ++ [58]) ++ itoa val from rfl]
    refine FnOk.start Tryz.func16 rfl rfl rfl rfl fun F os tape output => ?_
    refine go 200 ?_
    conv => whnf
    repeat' (first | ((first | refine BrM.t rfl ?_ | refine BrM.f rfl ?_ | refine BrM.dec (fun _ => ?_) (fun _ => ?_) | refine BrM.mk (fun _ => ?_) (fun _ => ?_) | refine Ar.i64 (by omega) (by omega) ?_ | refine gO rfl ?_ | refine gP rfl (by repeat constructor) ?_) <;> conv => whnf) | (refine Nx.bind (l := 1) (fun _ => ?_) rfl; refine dN 1 [] [0,5,16,21,32,37,10,12,26,28,42,44,48] rfl (by kernel_rfl) rfl (by kernel_rfl) rfl (by repeat constructor) rfl ?_) | (refine dN 5 [] [0,4,9,20,25,14,16,30,32,36] rfl (by kernel_rfl) rfl (by kernel_rfl) rfl (by repeat constructor) rfl ?_) | (refine dN 7 [] [0,4,9,20,24,29,44,48,53,14,16,34,36,40,58,60,64] rfl (by kernel_rfl) rfl (by kernel_rfl) rfl (by repeat constructor) rfl ?_) | (refine dN 10 [] [0,12,17,28,33,6,8,22,24,38,40,44] rfl (by kernel_rfl) rfl (by kernel_rfl) rfl (by repeat constructor) rfl ?_) | (refine atCall 46 ?_; refine cE [] [] rfl rfl rfl rfl rfl ((Digits_ok _ (by assumption))) rfl ?_) | (refine atCall 47 ?_; refine cE [] [] rfl rfl rfl rfl rfl ((Deed_ok 2)) rfl ?_) | (refine atCall 48 ?_; refine cE [] [] rfl rfl rfl rfl rfl ((num_ok _ (by first | assumption | exact I64n_zero))) rfl ?_) | (refine atHoAdd ?_; refine Nx.hoCat rfl rfl rfl rfl ((by simp; omega)) ?_) | (refine atAdd ?_; refine Nx.cat rfl rfl rfl rfl ((by simp; omega)) ?_) | (refine atAftK ?_; refine Nx.keepN [] rfl (by repeat constructor) (by repeat constructor) rfl ?_) | (refine atRet ?_; refine Nx.ret [] Tryz.func16 rfl rfl ?_; (exact ⟨rfl, rfl⟩)) | refine Nx.late ?_)
  · rw [show noteS ⟨who, ring, 3, lo, seq, key, val, code⟩ = (baseS ⟨who, ring, 3, lo, seq, key, val, code⟩ ++ numS lo) ++ numS seq from rfl]
    refine FnOk.start Tryz.func16 rfl rfl rfl rfl fun F os tape output => ?_
    refine go 200 ?_
    conv => whnf
    repeat' (first | ((first | refine BrM.t rfl ?_ | refine BrM.f rfl ?_ | refine BrM.dec (fun _ => ?_) (fun _ => ?_) | refine BrM.mk (fun _ => ?_) (fun _ => ?_) | refine Ar.i64 (by omega) (by omega) ?_ | refine gO rfl ?_ | refine gP rfl (by repeat constructor) ?_) <;> conv => whnf) | (refine Nx.bind (l := 1) (fun _ => ?_) rfl; refine dN 1 [] [0,5,16,21,32,37,10,12,26,28,42,44,48] rfl (by kernel_rfl) rfl (by kernel_rfl) rfl (by repeat constructor) rfl ?_) | (refine dN 5 [] [0,4,9,20,25,14,16,30,32,36] rfl (by kernel_rfl) rfl (by kernel_rfl) rfl (by repeat constructor) rfl ?_) | (refine dN 7 [] [0,4,9,20,24,29,44,48,53,14,16,34,36,40,58,60,64] rfl (by kernel_rfl) rfl (by kernel_rfl) rfl (by repeat constructor) rfl ?_) | (refine dN 10 [] [0,12,17,28,33,6,8,22,24,38,40,44] rfl (by kernel_rfl) rfl (by kernel_rfl) rfl (by repeat constructor) rfl ?_) | (refine atCall 46 ?_; refine cE [] [] rfl rfl rfl rfl rfl ((Digits_ok _ (by assumption))) rfl ?_) | (refine atCall 47 ?_; refine cE [] [] rfl rfl rfl rfl rfl ((Deed_ok 3)) rfl ?_) | (refine atCall 48 ?_; refine cE [] [] rfl rfl rfl rfl rfl ((num_ok _ (by first | assumption | exact I64n_zero))) rfl ?_) | (refine atHoAdd ?_; refine Nx.hoCat rfl rfl rfl rfl ((by simp; omega)) ?_) | (refine atAdd ?_; refine Nx.cat rfl rfl rfl rfl ((by simp; omega)) ?_) | (refine atAftK ?_; refine Nx.keepN [] rfl (by repeat constructor) (by repeat constructor) rfl ?_) | (refine atRet ?_; refine Nx.ret [] Tryz.func16 rfl rfl ?_; (exact ⟨rfl, rfl⟩)) | refine Nx.late ?_)
  · by_cases hz : code = 0
    · subst hz
      rw [show noteS ⟨who, ring, 4, lo, seq, key, val, 0⟩ = ((baseS ⟨who, ring, 4, lo, seq, key, val, 0⟩ ++ numS 0) ++ numS lo) ++ numS seq from rfl]
      refine FnOk.start Tryz.func16 rfl rfl rfl rfl fun F os tape output => ?_
      refine go 200 ?_
      conv => whnf
      repeat' (first | ((first | refine BrM.t rfl ?_ | refine BrM.f rfl ?_ | refine BrM.dec (fun _ => ?_) (fun _ => ?_) | refine BrM.mk (fun _ => ?_) (fun _ => ?_) | refine Ar.i64 (by omega) (by omega) ?_ | refine gO rfl ?_ | refine gP rfl (by repeat constructor) ?_) <;> conv => whnf) | (refine Nx.bind (l := 1) (fun _ => ?_) rfl; refine dN 1 [] [0,5,16,21,32,37,10,12,26,28,42,44,48] rfl (by kernel_rfl) rfl (by kernel_rfl) rfl (by repeat constructor) rfl ?_) | (refine dN 5 [] [0,4,9,20,25,14,16,30,32,36] rfl (by kernel_rfl) rfl (by kernel_rfl) rfl (by repeat constructor) rfl ?_) | (refine dN 7 [] [0,4,9,20,24,29,44,48,53,14,16,34,36,40,58,60,64] rfl (by kernel_rfl) rfl (by kernel_rfl) rfl (by repeat constructor) rfl ?_) | (refine dN 10 [] [0,12,17,28,33,6,8,22,24,38,40,44] rfl (by kernel_rfl) rfl (by kernel_rfl) rfl (by repeat constructor) rfl ?_) | (refine atCall 46 ?_; refine cE [] [] rfl rfl rfl rfl rfl ((Digits_ok _ (by assumption))) rfl ?_) | (refine atCall 47 ?_; refine cE [] [] rfl rfl rfl rfl rfl ((Deed_ok 4)) rfl ?_) | (refine atCall 48 ?_; refine cE [] [] rfl rfl rfl rfl rfl ((num_ok _ (by first | assumption | exact I64n_zero))) rfl ?_) | (refine atHoAdd ?_; refine Nx.hoCat rfl rfl rfl rfl ((by simp; omega)) ?_) | (refine atAdd ?_; refine Nx.cat rfl rfl rfl rfl ((by simp; omega)) ?_) | (refine atAftK ?_; refine Nx.keepN [] rfl (by repeat constructor) (by repeat constructor) rfl ?_) | (refine atRet ?_; refine Nx.ret [] Tryz.func16 rfl rfl ?_; (exact ⟨rfl, rfl⟩)) | refine Nx.late ?_)
    · rw [show noteS ⟨who, ring, 4, lo, seq, key, val, code⟩ = baseS ⟨who, ring, 4, lo, seq, key, val, code⟩ ++ numS code from if_neg hz]
      refine FnOk.start Tryz.func16 rfl rfl rfl rfl fun F os tape output => ?_
      refine go 200 ?_
      conv => whnf
      repeat' (first | ((first | refine BrM.not (by omega) ?_ | refine BrM.t rfl ?_ | refine BrM.f rfl ?_ | refine BrM.dec (fun _ => ?_) (fun _ => ?_) | refine BrM.mk (fun _ => ?_) (fun _ => ?_) | refine Ar.i64 (by omega) (by omega) ?_ | refine gO rfl ?_ | refine gP rfl (by repeat constructor) ?_) <;> conv => whnf) | (refine Nx.bind (l := 1) (fun _ => ?_) rfl; refine dN 1 [] [0,5,16,21,32,37,10,12,26,28,42,44,48] rfl (by kernel_rfl) rfl (by kernel_rfl) rfl (by repeat constructor) rfl ?_) | (refine atCall 46 ?_; refine cE [] [] rfl rfl rfl rfl rfl ((Digits_ok _ (by assumption))) rfl ?_) | (refine atCall 47 ?_; refine cE [] [] rfl rfl rfl rfl rfl ((Deed_ok 4)) rfl ?_) | (refine atCall 48 ?_; refine cE [] [] rfl rfl rfl rfl rfl ((num_ok _ (by first | assumption | exact I64n_zero))) rfl ?_) | (refine atHoAdd ?_; refine Nx.hoCat rfl rfl rfl rfl ((by simp; omega)) ?_) | (refine atAdd ?_; refine Nx.cat rfl rfl rfl rfl ((by simp; omega)) ?_) | (refine atAftK ?_; refine Nx.keepN [] rfl (by repeat constructor) (by repeat constructor) rfl ?_) | (refine atRet ?_; refine Nx.ret [] Tryz.func16 rfl rfl ?_; (exact ⟨rfl, rfl⟩)) | refine Nx.late ?_)
  · rw [show noteS ⟨who, ring, 5, lo, seq, key, val, code⟩ = baseS ⟨who, ring, 5, lo, seq, key, val, code⟩ ++ numS seq from rfl]
    refine FnOk.start Tryz.func16 rfl rfl rfl rfl fun F os tape output => ?_
    refine go 200 ?_
    conv => whnf
    repeat' (first | ((first | refine BrM.t rfl ?_ | refine BrM.f rfl ?_ | refine BrM.dec (fun _ => ?_) (fun _ => ?_) | refine BrM.mk (fun _ => ?_) (fun _ => ?_) | refine Ar.i64 (by omega) (by omega) ?_ | refine gO rfl ?_ | refine gP rfl (by repeat constructor) ?_) <;> conv => whnf) | (refine Nx.bind (l := 1) (fun _ => ?_) rfl; refine dN 1 [] [0,5,16,21,32,37,10,12,26,28,42,44,48] rfl (by kernel_rfl) rfl (by kernel_rfl) rfl (by repeat constructor) rfl ?_) | (refine dN 5 [] [0,4,9,20,25,14,16,30,32,36] rfl (by kernel_rfl) rfl (by kernel_rfl) rfl (by repeat constructor) rfl ?_) | (refine dN 7 [] [0,4,9,20,24,29,44,48,53,14,16,34,36,40,58,60,64] rfl (by kernel_rfl) rfl (by kernel_rfl) rfl (by repeat constructor) rfl ?_) | (refine dN 10 [] [0,12,17,28,33,6,8,22,24,38,40,44] rfl (by kernel_rfl) rfl (by kernel_rfl) rfl (by repeat constructor) rfl ?_) | (refine atCall 46 ?_; refine cE [] [] rfl rfl rfl rfl rfl ((Digits_ok _ (by assumption))) rfl ?_) | (refine atCall 47 ?_; refine cE [] [] rfl rfl rfl rfl rfl ((Deed_ok 5)) rfl ?_) | (refine atCall 48 ?_; refine cE [] [] rfl rfl rfl rfl rfl ((num_ok _ (by first | assumption | exact I64n_zero))) rfl ?_) | (refine atHoAdd ?_; refine Nx.hoCat rfl rfl rfl rfl ((by simp; omega)) ?_) | (refine atAdd ?_; refine Nx.cat rfl rfl rfl rfl ((by simp; omega)) ?_) | (refine atAftK ?_; refine Nx.keepN [] rfl (by repeat constructor) (by repeat constructor) rfl ?_) | (refine atRet ?_; refine Nx.ret [] Tryz.func16 rfl rfl ?_; (exact ⟨rfl, rfl⟩)) | refine Nx.late ?_)
  · rw [show noteS ⟨who, ring, 6, lo, seq, key, val, code⟩ = baseS ⟨who, ring, 6, lo, seq, key, val, code⟩ ++ numS seq from rfl]
    refine FnOk.start Tryz.func16 rfl rfl rfl rfl fun F os tape output => ?_
    refine go 200 ?_
    conv => whnf
    repeat' (first | ((first | refine BrM.t rfl ?_ | refine BrM.f rfl ?_ | refine BrM.dec (fun _ => ?_) (fun _ => ?_) | refine BrM.mk (fun _ => ?_) (fun _ => ?_) | refine Ar.i64 (by omega) (by omega) ?_ | refine gO rfl ?_ | refine gP rfl (by repeat constructor) ?_) <;> conv => whnf) | (refine Nx.bind (l := 1) (fun _ => ?_) rfl; refine dN 1 [] [0,5,16,21,32,37,10,12,26,28,42,44,48] rfl (by kernel_rfl) rfl (by kernel_rfl) rfl (by repeat constructor) rfl ?_) | (refine dN 5 [] [0,4,9,20,25,14,16,30,32,36] rfl (by kernel_rfl) rfl (by kernel_rfl) rfl (by repeat constructor) rfl ?_) | (refine dN 7 [] [0,4,9,20,24,29,44,48,53,14,16,34,36,40,58,60,64] rfl (by kernel_rfl) rfl (by kernel_rfl) rfl (by repeat constructor) rfl ?_) | (refine dN 10 [] [0,12,17,28,33,6,8,22,24,38,40,44] rfl (by kernel_rfl) rfl (by kernel_rfl) rfl (by repeat constructor) rfl ?_) | (refine atCall 46 ?_; refine cE [] [] rfl rfl rfl rfl rfl ((Digits_ok _ (by assumption))) rfl ?_) | (refine atCall 47 ?_; refine cE [] [] rfl rfl rfl rfl rfl ((Deed_ok 6)) rfl ?_) | (refine atCall 48 ?_; refine cE [] [] rfl rfl rfl rfl rfl ((num_ok _ (by first | assumption | exact I64n_zero))) rfl ?_) | (refine atHoAdd ?_; refine Nx.hoCat rfl rfl rfl rfl ((by simp; omega)) ?_) | (refine atAdd ?_; refine Nx.cat rfl rfl rfl rfl ((by simp; omega)) ?_) | (refine atAftK ?_; refine Nx.keepN [] rfl (by repeat constructor) (by repeat constructor) rfl ?_) | (refine atRet ?_; refine Nx.ret [] Tryz.func16 rfl rfl ?_; (exact ⟨rfl, rfl⟩)) | refine Nx.late ?_)
  · rw [show noteS ⟨who, ring, 7, lo, seq, key, val, code⟩ = baseS ⟨who, ring, 7, lo, seq, key, val, code⟩ ++ numS seq from rfl]
    refine FnOk.start Tryz.func16 rfl rfl rfl rfl fun F os tape output => ?_
    refine go 200 ?_
    conv => whnf
    repeat' (first | ((first | refine BrM.t rfl ?_ | refine BrM.f rfl ?_ | refine BrM.dec (fun _ => ?_) (fun _ => ?_) | refine BrM.mk (fun _ => ?_) (fun _ => ?_) | refine Ar.i64 (by omega) (by omega) ?_ | refine gO rfl ?_ | refine gP rfl (by repeat constructor) ?_) <;> conv => whnf) | (refine Nx.bind (l := 1) (fun _ => ?_) rfl; refine dN 1 [] [0,5,16,21,32,37,10,12,26,28,42,44,48] rfl (by kernel_rfl) rfl (by kernel_rfl) rfl (by repeat constructor) rfl ?_) | (refine dN 5 [] [0,4,9,20,25,14,16,30,32,36] rfl (by kernel_rfl) rfl (by kernel_rfl) rfl (by repeat constructor) rfl ?_) | (refine dN 7 [] [0,4,9,20,24,29,44,48,53,14,16,34,36,40,58,60,64] rfl (by kernel_rfl) rfl (by kernel_rfl) rfl (by repeat constructor) rfl ?_) | (refine dN 10 [] [0,12,17,28,33,6,8,22,24,38,40,44] rfl (by kernel_rfl) rfl (by kernel_rfl) rfl (by repeat constructor) rfl ?_) | (refine atCall 46 ?_; refine cE [] [] rfl rfl rfl rfl rfl ((Digits_ok _ (by assumption))) rfl ?_) | (refine atCall 47 ?_; refine cE [] [] rfl rfl rfl rfl rfl ((Deed_ok 7)) rfl ?_) | (refine atCall 48 ?_; refine cE [] [] rfl rfl rfl rfl rfl ((num_ok _ (by first | assumption | exact I64n_zero))) rfl ?_) | (refine atHoAdd ?_; refine Nx.hoCat rfl rfl rfl rfl ((by simp; omega)) ?_) | (refine atAdd ?_; refine Nx.cat rfl rfl rfl rfl ((by simp; omega)) ?_) | (refine atAftK ?_; refine Nx.keepN [] rfl (by repeat constructor) (by repeat constructor) rfl ?_) | (refine atRet ?_; refine Nx.ret [] Tryz.func16 rfl rfl ?_; (exact ⟨rfl, rfl⟩)) | refine Nx.late ?_)
  · have e : noteS ⟨who, ring, deed, lo, seq, key, val, code⟩ = baseS ⟨who, ring, deed, lo, seq, key, val, code⟩ := by
      unfold noteS
      dsimp only
      rw [if_neg (by omega), if_neg (by omega), if_neg (by omega), if_neg (by omega)]
    rw [e]
    unfold baseS Note.enc
    dsimp only
    refine FnOk.start Tryz.func16 rfl rfl rfl rfl fun F os tape output => ?_
    refine go 200 ?_
    conv => whnf
    repeat' (first | ((first | refine BrM.not (by omega) ?_ | refine BrM.t rfl ?_ | refine BrM.f rfl ?_ | refine BrM.dec (fun _ => ?_) (fun _ => ?_) | refine BrM.mk (fun _ => ?_) (fun _ => ?_) | refine Ar.i64 (by omega) (by omega) ?_ | refine gO rfl ?_ | refine gP rfl (by repeat constructor) ?_) <;> conv => whnf) | (refine Nx.bind (l := 1) (fun _ => ?_) rfl; refine dN 1 [] [0,5,16,21,32,37,10,12,26,28,42,44,48] rfl (by kernel_rfl) rfl (by kernel_rfl) rfl (by repeat constructor) rfl ?_) | (refine atCall 46 ?_; refine cE [] [] rfl rfl rfl rfl rfl ((Digits_ok _ (by assumption))) rfl ?_) | (refine atCall 47 ?_; refine cE [] [] rfl rfl rfl rfl rfl ((Deed_ok deed)) rfl ?_) | (refine atCall 48 ?_; refine cE [] [] rfl rfl rfl rfl rfl ((num_ok _ (by first | assumption | exact I64n_zero))) rfl ?_) | (refine atHoAdd ?_; refine Nx.hoCat rfl rfl rfl rfl ((by simp; omega)) ?_) | (refine atAdd ?_; refine Nx.cat rfl rfl rfl rfl ((by simp; omega)) ?_) | (refine atAftK ?_; refine Nx.keepN [] rfl (by repeat constructor) (by repeat constructor) rfl ?_) | (refine atRet ?_; refine Nx.ret [] Tryz.func16 rfl rfl ?_; (exact ⟨rfl, rfl⟩)) | refine Nx.late ?_)
/-- The words of a note's line. -/
def headL (n : Note) : List Str := [itoa n.who, deedW n.deed, itoa n.ring]
def noteL (n : Note) : List Str :=
  if n.deed = 1 ∨ n.deed = 3 then headL n ++ [itoa n.lo, itoa n.seq]
  else if n.deed = 2 then headL n ++ [itoa n.seq, (itoa n.key ++ [58]) ++ itoa n.val]
  else if n.deed = 4 then (if n.code = 0 then (headL n ++ [itoa n.code]) ++ [itoa n.lo, itoa n.seq] else headL n ++ [itoa n.code])
  else if n.deed = 5 ∨ n.deed = 6 ∨ n.deed = 7 then headL n ++ [itoa n.seq]
  else headL n
theorem noteL_S (n : Note) : joinC 32 (noteL n) = noteS n := by
  unfold noteL noteS
  split
  · simp [headL, baseS, joinC, numS]
  split
  · simp [headL, baseS, joinC, numS]
  split
  · split
    · rename_i hz
      simp [headL, baseS, joinC, numS, hz]
    · simp [headL, baseS, joinC, numS]
  split
  · simp [headL, baseS, joinC, numS]
  · simp [headL, baseS, joinC, numS]
end Go.Proofs.YtccmdlmlbkpjjaaGreatDoor

/- A note as a line: the program's. -/
namespace Go.Proofs.YtccmdlmlbkpjjaaGreatDoor
open Go.RowKit Go.Lib
set_option maxRecDepth 20000
set_option maxHeartbeats 4000000
attribute [local irreducible] Nx Ar BrM headC OneC HoC AftC planHead endF
theorem deed_sees {m : PH} (hG : GlN m) {d : Int} {k : Nat} (hd : d = k) (hk : k < 8) : SeesAt (roAll m) 2 k [str (deedW d)] := by
  subst hd
  have h := hG.deeds.sees (j := k) (by simpa [deedsL] using hk)
  have e : (strs deedsL)[k]'(by simpa [deedsL] using hk) = str (deedW (k : Int)) := by
    unfold deedW
    rw [if_pos ⟨by omega, by omega⟩]
    have hk' : k < deedsL.length := by simpa [deedsL] using hk
    simp only [List.getElem_map, Int.toNat_natCast]
    rw [List.getD_eq_getElem?_getD, List.getElem?_eq_getElem hk']; rfl
  rwa [e] at h
theorem own3 {b : Nat} {x y z : Value} : ∀ r h, Sat [blk b (.cells [x, y, z].toArray 9 (0, 0))] r h → Sat [ownS 9 (some ⟨b, 0, none⟩) 3 3 1 [x, y, z]] r h := by
  rintro r h ⟨r1, g1, g2, a1, a2, a3, a4, a5, a6⟩
  exact ⟨r1, g1, g2, a1, a2, a3, a4, own_blk (cells := [x, y, z]) (by show 3 ≤ maxLen; decide) _ _ a5, a6⟩
theorem Note_ok {m : PH} (hG : GlN m) (n : Note) (hw : n.wf) : FnOk Tryz.prog 23 [.agg n.enc.toArray] [roAll m] (fun v Q => v = str (noteS n) ∧ Q = [roAll m]) := by
  have l1 := itoa_len _ hw.who
  have l2 := deedW_len n.deed
  have l3 := itoa_len _ hw.ring
  have l4 := itoa_len _ hw.lo
  have l5 := itoa_len _ hw.seq
  have l6 := itoa_len _ hw.key
  have l7 := itoa_len _ hw.val
  have l8 := itoa_len _ hw.code
  rw [← noteL_S]
  obtain ⟨who, ring, deed, lo, seq, key, val, code⟩ := n
  obtain ⟨h1, h2, h3, h4, h5, h6, h7, h8⟩ := hw
  dsimp only at *
  unfold Note.enc
  dsimp only
  have hc : deed = 0 ∨ deed = 1 ∨ deed = 2 ∨ deed = 3 ∨ deed = 4 ∨ deed = 5 ∨ deed = 6 ∨ deed = 7 ∨ ¬(0 ≤ deed ∧ deed ≤ 7) := by omega
  rcases hc with rfl | rfl | rfl | rfl | rfl | rfl | rfl | rfl | hd
  · have eL : noteL ⟨who, ring, 0, lo, seq, key, val, code⟩ = [itoa who, deedW 0, itoa ring] := rfl
    rw [eL]
    refine FnOk.start Tryz.func23 rfl rfl rfl rfl fun F os tape output => ?_
    have hdw := deed_sees hG (d := 0) (k := 0) rfl (by decide)
    refine go 200 ?_
    conv => whnf
    repeat' (first | ((first | refine BrM.not (by omega) ?_ | refine BrM.t rfl ?_ | refine BrM.f rfl ?_ | refine BrM.dec (fun _ => ?_) (fun _ => ?_) | refine BrM.mk (fun _ => ?_) (fun _ => ?_) | refine Ar.i64 (by omega) (by omega) ?_ | refine gO rfl ?_ | refine gP rfl (by repeat constructor) ?_) <;> conv => whnf) | (refine atIdx ?_; refine Nx.gidx (q := 0) (sz := 1) rfl rfl rfl Tryz.underlying129 rfl rfl (by omega) (by omega) (by omega) ?_) | (refine atLoad ?_; refine Nx.load1 0 rfl rfl rfl rfl (hdw) rfl ?_) | (refine Nx.bind (l := 1) (fun _ => ?_) rfl; refine dN 4 [0] [0,5,12,16,21,10,26,30,32] rfl (by kernel_rfl) rfl (by kernel_rfl) rfl (by repeat constructor) rfl ?_) | (refine atCall 50 ?_; refine cE [0] [0] rfl rfl rfl rfl rfl ((number_ok hG _ (by first | assumption | exact I64n_zero))) rfl ?_) | (refine atAftK ?_; refine Nx.keepN [0] rfl (by repeat constructor) (by repeat constructor) rfl ?_) | (refine atHoAdd ?_; refine Nx.hoCat rfl rfl rfl rfl ((by simp; omega)) ?_) | refine Nx.late ?_)
    intro b
    refine go 200 ?_
    conv => whnf
    refine Nx.out 24 rfl rfl rfl rfl ?_
    refine Nx.turn [24] [5] [ownS 9 (some ⟨b, 0, none⟩) 3 3 1 [str (itoa who), str (deedW 0), str (itoa ring)]] rfl own3 ?_
    have hfit : (3 : Nat) ≤ 3 := Nat.le_refl _
    repeat' (first | ((first | refine BrM.t rfl ?_ | refine BrM.f rfl ?_ | refine BrM.dec (fun _ => ?_) (fun _ => ?_) | refine BrM.mk (fun _ => ?_) (fun _ => ?_) | refine Ar.i64 (by omega) (by omega) ?_ | refine gO rfl ?_ | refine gP rfl (by repeat constructor) ?_) <;> conv => whnf) | (refine atCall 58 ?_; refine cE [5] [5] rfl rfl rfl rfl rfl ((Join_ok (some ⟨b, 0, none⟩) 3 [itoa who, deedW 0, itoa ring] (by simp) (ownS_sees 9 (some ⟨b, 0, none⟩) 3 3 1 (strs [itoa who, deedW 0, itoa ring])) (by simp) hfit (by simp only [joinC, List.length_append, List.length_cons, List.length_nil]; omega))) rfl ?_) | (refine atRet ?_; refine Nx.ret [0] Tryz.func23 rfl rfl ?_; (exact ⟨rfl, rfl⟩)) | refine Nx.late ?_)
  · have eL : noteL ⟨who, ring, 1, lo, seq, key, val, code⟩ = [itoa who, deedW 1, itoa ring, itoa lo, itoa seq] := rfl
    rw [eL]
    refine FnOk.start Tryz.func23 rfl rfl rfl rfl fun F os tape output => ?_
    have hdw := deed_sees hG (d := 1) (k := 1) rfl (by decide)
    refine go 200 ?_
    conv => whnf
    repeat' (first | (refine (atReg 8) ?_; refine Nx.bind (l := 24) (fun b => ?_) rfl; refine Nx.realS 4 (l := 24) rfl rfl ?_; refine Nx.out 24 rfl rfl rfl rfl ?_; refine Nx.turn [24] [5] [ownS 9 (some ⟨b, 0, none⟩) 3 3 1 [str (itoa who), str (deedW 1), str (itoa ring)]] rfl own3 ?_) | ((first | refine BrM.not (by omega) ?_ | refine BrM.t rfl ?_ | refine BrM.f rfl ?_ | refine BrM.dec (fun _ => ?_) (fun _ => ?_) | refine BrM.mk (fun _ => ?_) (fun _ => ?_) | refine Ar.i64 (by omega) (by omega) ?_ | refine gO rfl ?_ | refine gP rfl (by repeat constructor) ?_) <;> conv => whnf) | (refine atIdx ?_; refine Nx.gidx (q := 1) (sz := 1) rfl rfl rfl Tryz.underlying129 rfl rfl (by omega) (by omega) (by omega) ?_) | (refine atLoad ?_; refine Nx.load1 0 rfl rfl rfl rfl (hdw) rfl ?_) | (refine Nx.bind (l := 1) (fun _ => ?_) rfl; refine dN 4 [0] [0,5,12,16,21,10,26,30,32] rfl (by kernel_rfl) rfl (by kernel_rfl) rfl (by repeat constructor) rfl ?_) | (refine dN 8 [0] [0,4,9,16,21,14,26,30,34,36] rfl (by kernel_rfl) rfl (by kernel_rfl) rfl (by repeat constructor) rfl ?_) | (refine atCall 50 ?_; refine cE [0] [0] rfl rfl rfl rfl rfl ((number_ok hG _ (by first | assumption | exact I64n_zero))) rfl ?_) | (refine atAftK ?_; refine Nx.keepN [0] rfl (by repeat constructor) (by repeat constructor) rfl ?_) | (refine atHoAdd ?_; refine Nx.hoCat rfl rfl rfl rfl ((by simp; omega)) ?_) | (refine atApp ?_; refine Nx.append 5 (sz := 1) (by_ := 16) (news := [str (itoa lo), str (itoa seq)]) rfl rfl rfl rfl rfl Tryz.underlying39 rfl rfl rfl rfl rfl (by unfold maxLen; omega) (by omega) fun A' c'' => ?_) | refine Nx.late ?_)
    refine Nx.fact 5 (p := 5 ≤ c'' ∧ c'' ≤ maxLen) rfl (fun r h hs => ownS_fit hs) fun ⟨hfit, _⟩ => ?_
    repeat' (first | ((first | refine BrM.t rfl ?_ | refine BrM.f rfl ?_ | refine BrM.dec (fun _ => ?_) (fun _ => ?_) | refine BrM.mk (fun _ => ?_) (fun _ => ?_) | refine Ar.i64 (by omega) (by omega) ?_ | refine gO rfl ?_ | refine gP rfl (by repeat constructor) ?_) <;> conv => whnf) | (refine atCall 58 ?_; refine cE [5] [5] rfl rfl rfl rfl rfl ((Join_ok A' c'' [itoa who, deedW 1, itoa ring, itoa lo, itoa seq] (by simp) (ownS_sees 9 A' 5 c'' 1 (strs [itoa who, deedW 1, itoa ring, itoa lo, itoa seq])) (by simp) hfit (by simp only [joinC, List.length_append, List.length_cons, List.length_nil]; omega))) rfl ?_) | (refine atRet ?_; refine Nx.ret [0] Tryz.func23 rfl rfl ?_; (exact ⟨rfl, rfl⟩)) | refine Nx.late ?_)
  · have eL : noteL ⟨who, ring, 2, lo, seq, key, val, code⟩ = [itoa who, deedW 2, itoa ring, itoa seq, (itoa key ++ [58]) ++ itoa val] := rfl
    rw [eL]
    refine FnOk.start Tryz.func23 rfl rfl rfl rfl fun F os tape output => ?_
    have hdw := deed_sees hG (d := 2) (k := 2) rfl (by decide)
    refine go 200 ?_
    conv => whnf
    repeat' (first | (refine (atReg 10) ?_; refine Nx.bind (l := 24) (fun b => ?_) rfl; refine Nx.realS 4 (l := 24) rfl rfl ?_; refine Nx.out 24 rfl rfl rfl rfl ?_; refine Nx.turn [24] [5] [ownS 9 (some ⟨b, 0, none⟩) 3 3 1 [str (itoa who), str (deedW 2), str (itoa ring)]] rfl own3 ?_) | ((first | refine BrM.not (by omega) ?_ | refine BrM.t rfl ?_ | refine BrM.f rfl ?_ | refine BrM.dec (fun _ => ?_) (fun _ => ?_) | refine BrM.mk (fun _ => ?_) (fun _ => ?_) | refine Ar.i64 (by omega) (by omega) ?_ | refine gO rfl ?_ | refine gP rfl (by repeat constructor) ?_) <;> conv => whnf) | (refine atIdx ?_; refine Nx.gidx (q := 2) (sz := 1) rfl rfl rfl Tryz.underlying129 rfl rfl (by omega) (by omega) (by omega) ?_) | (refine atLoad ?_; refine Nx.load1 0 rfl rfl rfl rfl (hdw) rfl ?_) | (refine Nx.bind (l := 1) (fun _ => ?_) rfl; refine dN 4 [0] [0,5,12,16,21,10,26,30,32] rfl (by kernel_rfl) rfl (by kernel_rfl) rfl (by repeat constructor) rfl ?_) | (refine dN 10 [0] [0,4,9,16,20,25,36,40,45,14,30,32,50,52,58,62,64] rfl (by kernel_rfl) rfl (by kernel_rfl) rfl (by repeat constructor) rfl ?_) | (refine atCall 50 ?_; refine cE [0] [0] rfl rfl rfl rfl rfl ((number_ok hG _ (by first | assumption | exact I64n_zero))) rfl ?_) | (refine atAftK ?_; refine Nx.keepN [0] rfl (by repeat constructor) (by repeat constructor) rfl ?_) | (refine atHoAdd ?_; refine Nx.hoCat rfl rfl rfl rfl ((by simp; omega)) ?_) | (refine atApp ?_; refine Nx.append 5 (sz := 1) (by_ := 16) (news := [str (itoa seq), str ((itoa key ++ [58]) ++ itoa val)]) rfl rfl rfl rfl rfl Tryz.underlying39 rfl rfl rfl rfl rfl (by unfold maxLen; omega) (by omega) fun A' c'' => ?_) | refine Nx.late ?_)
    refine Nx.fact 5 (p := 5 ≤ c'' ∧ c'' ≤ maxLen) rfl (fun r h hs => ownS_fit hs) fun ⟨hfit, _⟩ => ?_
    repeat' (first | ((first | refine BrM.t rfl ?_ | refine BrM.f rfl ?_ | refine BrM.dec (fun _ => ?_) (fun _ => ?_) | refine BrM.mk (fun _ => ?_) (fun _ => ?_) | refine Ar.i64 (by omega) (by omega) ?_ | refine gO rfl ?_ | refine gP rfl (by repeat constructor) ?_) <;> conv => whnf) | (refine atCall 58 ?_; refine cE [5] [5] rfl rfl rfl rfl rfl ((Join_ok A' c'' [itoa who, deedW 2, itoa ring, itoa seq, (itoa key ++ [58]) ++ itoa val] (by simp) (ownS_sees 9 A' 5 c'' 1 (strs [itoa who, deedW 2, itoa ring, itoa seq, (itoa key ++ [58]) ++ itoa val])) (by simp) hfit (by simp only [joinC, List.length_append, List.length_cons, List.length_nil]; omega))) rfl ?_) | (refine atRet ?_; refine Nx.ret [0] Tryz.func23 rfl rfl ?_; (exact ⟨rfl, rfl⟩)) | refine Nx.late ?_)
  · have eL : noteL ⟨who, ring, 3, lo, seq, key, val, code⟩ = [itoa who, deedW 3, itoa ring, itoa lo, itoa seq] := rfl
    rw [eL]
    refine FnOk.start Tryz.func23 rfl rfl rfl rfl fun F os tape output => ?_
    have hdw := deed_sees hG (d := 3) (k := 3) rfl (by decide)
    refine go 200 ?_
    conv => whnf
    repeat' (first | (refine (atReg 8) ?_; refine Nx.bind (l := 24) (fun b => ?_) rfl; refine Nx.realS 4 (l := 24) rfl rfl ?_; refine Nx.out 24 rfl rfl rfl rfl ?_; refine Nx.turn [24] [5] [ownS 9 (some ⟨b, 0, none⟩) 3 3 1 [str (itoa who), str (deedW 3), str (itoa ring)]] rfl own3 ?_) | ((first | refine BrM.not (by omega) ?_ | refine BrM.t rfl ?_ | refine BrM.f rfl ?_ | refine BrM.dec (fun _ => ?_) (fun _ => ?_) | refine BrM.mk (fun _ => ?_) (fun _ => ?_) | refine Ar.i64 (by omega) (by omega) ?_ | refine gO rfl ?_ | refine gP rfl (by repeat constructor) ?_) <;> conv => whnf) | (refine atIdx ?_; refine Nx.gidx (q := 3) (sz := 1) rfl rfl rfl Tryz.underlying129 rfl rfl (by omega) (by omega) (by omega) ?_) | (refine atLoad ?_; refine Nx.load1 0 rfl rfl rfl rfl (hdw) rfl ?_) | (refine Nx.bind (l := 1) (fun _ => ?_) rfl; refine dN 4 [0] [0,5,12,16,21,10,26,30,32] rfl (by kernel_rfl) rfl (by kernel_rfl) rfl (by repeat constructor) rfl ?_) | (refine dN 8 [0] [0,4,9,16,21,14,26,30,34,36] rfl (by kernel_rfl) rfl (by kernel_rfl) rfl (by repeat constructor) rfl ?_) | (refine atCall 50 ?_; refine cE [0] [0] rfl rfl rfl rfl rfl ((number_ok hG _ (by first | assumption | exact I64n_zero))) rfl ?_) | (refine atAftK ?_; refine Nx.keepN [0] rfl (by repeat constructor) (by repeat constructor) rfl ?_) | (refine atHoAdd ?_; refine Nx.hoCat rfl rfl rfl rfl ((by simp; omega)) ?_) | (refine atApp ?_; refine Nx.append 5 (sz := 1) (by_ := 16) (news := [str (itoa lo), str (itoa seq)]) rfl rfl rfl rfl rfl Tryz.underlying39 rfl rfl rfl rfl rfl (by unfold maxLen; omega) (by omega) fun A' c'' => ?_) | refine Nx.late ?_)
    refine Nx.fact 5 (p := 5 ≤ c'' ∧ c'' ≤ maxLen) rfl (fun r h hs => ownS_fit hs) fun ⟨hfit, _⟩ => ?_
    repeat' (first | ((first | refine BrM.t rfl ?_ | refine BrM.f rfl ?_ | refine BrM.dec (fun _ => ?_) (fun _ => ?_) | refine BrM.mk (fun _ => ?_) (fun _ => ?_) | refine Ar.i64 (by omega) (by omega) ?_ | refine gO rfl ?_ | refine gP rfl (by repeat constructor) ?_) <;> conv => whnf) | (refine atCall 58 ?_; refine cE [5] [5] rfl rfl rfl rfl rfl ((Join_ok A' c'' [itoa who, deedW 3, itoa ring, itoa lo, itoa seq] (by simp) (ownS_sees 9 A' 5 c'' 1 (strs [itoa who, deedW 3, itoa ring, itoa lo, itoa seq])) (by simp) hfit (by simp only [joinC, List.length_append, List.length_cons, List.length_nil]; omega))) rfl ?_) | (refine atRet ?_; refine Nx.ret [0] Tryz.func23 rfl rfl ?_; (exact ⟨rfl, rfl⟩)) | refine Nx.late ?_)
  · by_cases hz : code = 0
    · subst hz
      have eL : noteL ⟨who, ring, 4, lo, seq, key, val, 0⟩ = [itoa who, deedW 4, itoa ring, itoa 0, itoa lo, itoa seq] := rfl
      rw [eL]
      refine FnOk.start Tryz.func23 rfl rfl rfl rfl fun F os tape output => ?_
      have hdw := deed_sees hG (d := 4) (k := 4) rfl (by decide)
      refine go 200 ?_
      conv => whnf
      repeat' (first | (refine atApp ?_; refine Nx.bind (l := 24) (fun b => ?_) rfl; refine Nx.realS 59 (l := 24) rfl rfl ?_; refine Nx.out 24 rfl rfl rfl rfl ?_; refine Nx.turn [24] [5] [ownS 9 (some ⟨b, 0, none⟩) 3 3 1 [str (itoa who), str (deedW 4), str (itoa ring)]] rfl own3 ?_) | ((first | refine BrM.not (by omega) ?_ | refine BrM.t rfl ?_ | refine BrM.f rfl ?_ | refine BrM.dec (fun _ => ?_) (fun _ => ?_) | refine BrM.mk (fun _ => ?_) (fun _ => ?_) | refine Ar.i64 (by omega) (by omega) ?_ | refine gO rfl ?_ | refine gP rfl (by repeat constructor) ?_) <;> conv => whnf) | (refine atIdx ?_; refine Nx.gidx (q := 4) (sz := 1) rfl rfl rfl Tryz.underlying129 rfl rfl (by omega) (by omega) (by omega) ?_) | (refine atLoad ?_; refine Nx.load1 0 rfl rfl rfl rfl (hdw) rfl ?_) | (refine Nx.bind (l := 1) (fun _ => ?_) rfl; refine dN 4 [0] [0,5,12,16,21,10,26,30,32] rfl (by kernel_rfl) rfl (by kernel_rfl) rfl (by repeat constructor) rfl ?_) | (refine Nx.bind (l := 63) (fun _ => ?_) rfl; refine dN 14 [0] [0,4,9,16,21,14,26,30,34,36] rfl (by kernel_rfl) rfl (by kernel_rfl) rfl (by repeat constructor) rfl ?_) | (refine atCall 50 ?_; refine cE [0] [0] rfl rfl rfl rfl rfl ((number_ok hG _ (by first | assumption | exact I64n_zero))) rfl ?_) | (refine atAftK ?_; refine Nx.keepN [0] rfl (by repeat constructor) (by repeat constructor) rfl ?_) | (refine atHoAdd ?_; refine Nx.hoCat rfl rfl rfl rfl ((by simp; omega)) ?_) | (refine atApp ?_; refine Nx.append 5 (sz := 1) (by_ := 16) (news := [str (itoa 0)]) rfl rfl rfl rfl rfl Tryz.underlying39 rfl rfl rfl rfl rfl (by unfold maxLen; omega) (by omega) fun A' c'' => ?_) | (refine atApp ?_; refine Nx.append 5 (sz := 1) (by_ := 16) (news := [str (itoa lo), str (itoa seq)]) rfl rfl rfl rfl rfl Tryz.underlying39 rfl rfl rfl rfl rfl (by unfold maxLen; omega) (by omega) fun A' c'' => ?_) | refine Nx.late ?_)
      refine Nx.fact 5 (p := 6 ≤ c'' ∧ c'' ≤ maxLen) rfl (fun r h hs => ownS_fit hs) fun ⟨hfit, _⟩ => ?_
      repeat' (first | ((first | refine BrM.t rfl ?_ | refine BrM.f rfl ?_ | refine BrM.dec (fun _ => ?_) (fun _ => ?_) | refine BrM.mk (fun _ => ?_) (fun _ => ?_) | refine Ar.i64 (by omega) (by omega) ?_ | refine gO rfl ?_ | refine gP rfl (by repeat constructor) ?_) <;> conv => whnf) | (refine atCall 58 ?_; refine cE [5] [5] rfl rfl rfl rfl rfl ((Join_ok A' c'' [itoa who, deedW 4, itoa ring, itoa 0, itoa lo, itoa seq] (by simp) (ownS_sees 9 A' 6 c'' 1 (strs [itoa who, deedW 4, itoa ring, itoa 0, itoa lo, itoa seq])) (by simp) hfit (by simp only [joinC, List.length_append, List.length_cons, List.length_nil]; omega))) rfl ?_) | (refine atRet ?_; refine Nx.ret [0] Tryz.func23 rfl rfl ?_; (exact ⟨rfl, rfl⟩)) | refine Nx.late ?_)
    · have eL : noteL ⟨who, ring, 4, lo, seq, key, val, code⟩ = [itoa who, deedW 4, itoa ring, itoa code] := by unfold noteL; rw [if_neg (by dsimp only; omega), if_neg (by dsimp only; omega), if_pos rfl, if_neg hz]; rfl
      rw [eL]
      refine FnOk.start Tryz.func23 rfl rfl rfl rfl fun F os tape output => ?_
      have hdw := deed_sees hG (d := 4) (k := 4) rfl (by decide)
      refine go 200 ?_
      conv => whnf
      repeat' (first | (refine atApp ?_; refine Nx.bind (l := 24) (fun b => ?_) rfl; refine Nx.realS 59 (l := 24) rfl rfl ?_; refine Nx.out 24 rfl rfl rfl rfl ?_; refine Nx.turn [24] [5] [ownS 9 (some ⟨b, 0, none⟩) 3 3 1 [str (itoa who), str (deedW 4), str (itoa ring)]] rfl own3 ?_) | ((first | refine BrM.not (by omega) ?_ | refine BrM.t rfl ?_ | refine BrM.f rfl ?_ | refine BrM.dec (fun _ => ?_) (fun _ => ?_) | refine BrM.mk (fun _ => ?_) (fun _ => ?_) | refine Ar.i64 (by omega) (by omega) ?_ | refine gO rfl ?_ | refine gP rfl (by repeat constructor) ?_) <;> conv => whnf) | (refine atIdx ?_; refine Nx.gidx (q := 4) (sz := 1) rfl rfl rfl Tryz.underlying129 rfl rfl (by omega) (by omega) (by omega) ?_) | (refine atLoad ?_; refine Nx.load1 0 rfl rfl rfl rfl (hdw) rfl ?_) | (refine Nx.bind (l := 1) (fun _ => ?_) rfl; refine dN 4 [0] [0,5,12,16,21,10,26,30,32] rfl (by kernel_rfl) rfl (by kernel_rfl) rfl (by repeat constructor) rfl ?_) | (refine atCall 50 ?_; refine cE [0] [0] rfl rfl rfl rfl rfl ((number_ok hG _ (by first | assumption | exact I64n_zero))) rfl ?_) | (refine atAftK ?_; refine Nx.keepN [0] rfl (by repeat constructor) (by repeat constructor) rfl ?_) | (refine atHoAdd ?_; refine Nx.hoCat rfl rfl rfl rfl ((by simp; omega)) ?_) | (refine atApp ?_; refine Nx.append 5 (sz := 1) (by_ := 16) (news := [str (itoa code)]) rfl rfl rfl rfl rfl Tryz.underlying39 rfl rfl rfl rfl rfl (by unfold maxLen; omega) (by omega) fun A' c'' => ?_) | refine Nx.late ?_)
      refine Nx.fact 5 (p := 4 ≤ c'' ∧ c'' ≤ maxLen) rfl (fun r h hs => ownS_fit hs) fun ⟨hfit, _⟩ => ?_
      repeat' (first | ((first | refine BrM.t rfl ?_ | refine BrM.f rfl ?_ | refine BrM.dec (fun _ => ?_) (fun _ => ?_) | refine BrM.mk (fun _ => ?_) (fun _ => ?_) | refine Ar.i64 (by omega) (by omega) ?_ | refine gO rfl ?_ | refine gP rfl (by repeat constructor) ?_) <;> conv => whnf) | (refine atCall 58 ?_; refine cE [5] [5] rfl rfl rfl rfl rfl ((Join_ok A' c'' [itoa who, deedW 4, itoa ring, itoa code] (by simp) (ownS_sees 9 A' 4 c'' 1 (strs [itoa who, deedW 4, itoa ring, itoa code])) (by simp) hfit (by simp only [joinC, List.length_append, List.length_cons, List.length_nil]; omega))) rfl ?_) | (refine atRet ?_; refine Nx.ret [0] Tryz.func23 rfl rfl ?_; (exact ⟨rfl, rfl⟩)) | refine Nx.late ?_)
  · have eL : noteL ⟨who, ring, 5, lo, seq, key, val, code⟩ = [itoa who, deedW 5, itoa ring, itoa seq] := rfl
    rw [eL]
    refine FnOk.start Tryz.func23 rfl rfl rfl rfl fun F os tape output => ?_
    have hdw := deed_sees hG (d := 5) (k := 5) rfl (by decide)
    refine go 200 ?_
    conv => whnf
    repeat' (first | (refine atApp ?_; refine Nx.bind (l := 24) (fun b => ?_) rfl; refine Nx.realS 81 (l := 24) rfl rfl ?_; refine Nx.out 24 rfl rfl rfl rfl ?_; refine Nx.turn [24] [5] [ownS 9 (some ⟨b, 0, none⟩) 3 3 1 [str (itoa who), str (deedW 5), str (itoa ring)]] rfl own3 ?_) | ((first | refine BrM.not (by omega) ?_ | refine BrM.t rfl ?_ | refine BrM.f rfl ?_ | refine BrM.dec (fun _ => ?_) (fun _ => ?_) | refine BrM.mk (fun _ => ?_) (fun _ => ?_) | refine Ar.i64 (by omega) (by omega) ?_ | refine gO rfl ?_ | refine gP rfl (by repeat constructor) ?_) <;> conv => whnf) | (refine atIdx ?_; refine Nx.gidx (q := 5) (sz := 1) rfl rfl rfl Tryz.underlying129 rfl rfl (by omega) (by omega) (by omega) ?_) | (refine atLoad ?_; refine Nx.load1 0 rfl rfl rfl rfl (hdw) rfl ?_) | (refine Nx.bind (l := 1) (fun _ => ?_) rfl; refine dN 4 [0] [0,5,12,16,21,10,26,30,32] rfl (by kernel_rfl) rfl (by kernel_rfl) rfl (by repeat constructor) rfl ?_) | (refine atCall 50 ?_; refine cE [0] [0] rfl rfl rfl rfl rfl ((number_ok hG _ (by first | assumption | exact I64n_zero))) rfl ?_) | (refine atAftK ?_; refine Nx.keepN [0] rfl (by repeat constructor) (by repeat constructor) rfl ?_) | (refine atHoAdd ?_; refine Nx.hoCat rfl rfl rfl rfl ((by simp; omega)) ?_) | (refine atApp ?_; refine Nx.append 5 (sz := 1) (by_ := 16) (news := [str (itoa seq)]) rfl rfl rfl rfl rfl Tryz.underlying39 rfl rfl rfl rfl rfl (by unfold maxLen; omega) (by omega) fun A' c'' => ?_) | refine Nx.late ?_)
    refine Nx.fact 5 (p := 4 ≤ c'' ∧ c'' ≤ maxLen) rfl (fun r h hs => ownS_fit hs) fun ⟨hfit, _⟩ => ?_
    repeat' (first | ((first | refine BrM.t rfl ?_ | refine BrM.f rfl ?_ | refine BrM.dec (fun _ => ?_) (fun _ => ?_) | refine BrM.mk (fun _ => ?_) (fun _ => ?_) | refine Ar.i64 (by omega) (by omega) ?_ | refine gO rfl ?_ | refine gP rfl (by repeat constructor) ?_) <;> conv => whnf) | (refine atCall 58 ?_; refine cE [5] [5] rfl rfl rfl rfl rfl ((Join_ok A' c'' [itoa who, deedW 5, itoa ring, itoa seq] (by simp) (ownS_sees 9 A' 4 c'' 1 (strs [itoa who, deedW 5, itoa ring, itoa seq])) (by simp) hfit (by simp only [joinC, List.length_append, List.length_cons, List.length_nil]; omega))) rfl ?_) | (refine atRet ?_; refine Nx.ret [0] Tryz.func23 rfl rfl ?_; (exact ⟨rfl, rfl⟩)) | refine Nx.late ?_)
  · have eL : noteL ⟨who, ring, 6, lo, seq, key, val, code⟩ = [itoa who, deedW 6, itoa ring, itoa seq] := rfl
    rw [eL]
    refine FnOk.start Tryz.func23 rfl rfl rfl rfl fun F os tape output => ?_
    have hdw := deed_sees hG (d := 6) (k := 6) rfl (by decide)
    refine go 200 ?_
    conv => whnf
    repeat' (first | (refine atApp ?_; refine Nx.bind (l := 24) (fun b => ?_) rfl; refine Nx.realS 81 (l := 24) rfl rfl ?_; refine Nx.out 24 rfl rfl rfl rfl ?_; refine Nx.turn [24] [5] [ownS 9 (some ⟨b, 0, none⟩) 3 3 1 [str (itoa who), str (deedW 6), str (itoa ring)]] rfl own3 ?_) | ((first | refine BrM.not (by omega) ?_ | refine BrM.t rfl ?_ | refine BrM.f rfl ?_ | refine BrM.dec (fun _ => ?_) (fun _ => ?_) | refine BrM.mk (fun _ => ?_) (fun _ => ?_) | refine Ar.i64 (by omega) (by omega) ?_ | refine gO rfl ?_ | refine gP rfl (by repeat constructor) ?_) <;> conv => whnf) | (refine atIdx ?_; refine Nx.gidx (q := 6) (sz := 1) rfl rfl rfl Tryz.underlying129 rfl rfl (by omega) (by omega) (by omega) ?_) | (refine atLoad ?_; refine Nx.load1 0 rfl rfl rfl rfl (hdw) rfl ?_) | (refine Nx.bind (l := 1) (fun _ => ?_) rfl; refine dN 4 [0] [0,5,12,16,21,10,26,30,32] rfl (by kernel_rfl) rfl (by kernel_rfl) rfl (by repeat constructor) rfl ?_) | (refine atCall 50 ?_; refine cE [0] [0] rfl rfl rfl rfl rfl ((number_ok hG _ (by first | assumption | exact I64n_zero))) rfl ?_) | (refine atAftK ?_; refine Nx.keepN [0] rfl (by repeat constructor) (by repeat constructor) rfl ?_) | (refine atHoAdd ?_; refine Nx.hoCat rfl rfl rfl rfl ((by simp; omega)) ?_) | (refine atApp ?_; refine Nx.append 5 (sz := 1) (by_ := 16) (news := [str (itoa seq)]) rfl rfl rfl rfl rfl Tryz.underlying39 rfl rfl rfl rfl rfl (by unfold maxLen; omega) (by omega) fun A' c'' => ?_) | refine Nx.late ?_)
    refine Nx.fact 5 (p := 4 ≤ c'' ∧ c'' ≤ maxLen) rfl (fun r h hs => ownS_fit hs) fun ⟨hfit, _⟩ => ?_
    repeat' (first | ((first | refine BrM.t rfl ?_ | refine BrM.f rfl ?_ | refine BrM.dec (fun _ => ?_) (fun _ => ?_) | refine BrM.mk (fun _ => ?_) (fun _ => ?_) | refine Ar.i64 (by omega) (by omega) ?_ | refine gO rfl ?_ | refine gP rfl (by repeat constructor) ?_) <;> conv => whnf) | (refine atCall 58 ?_; refine cE [5] [5] rfl rfl rfl rfl rfl ((Join_ok A' c'' [itoa who, deedW 6, itoa ring, itoa seq] (by simp) (ownS_sees 9 A' 4 c'' 1 (strs [itoa who, deedW 6, itoa ring, itoa seq])) (by simp) hfit (by simp only [joinC, List.length_append, List.length_cons, List.length_nil]; omega))) rfl ?_) | (refine atRet ?_; refine Nx.ret [0] Tryz.func23 rfl rfl ?_; (exact ⟨rfl, rfl⟩)) | refine Nx.late ?_)
  · have eL : noteL ⟨who, ring, 7, lo, seq, key, val, code⟩ = [itoa who, deedW 7, itoa ring, itoa seq] := rfl
    rw [eL]
    refine FnOk.start Tryz.func23 rfl rfl rfl rfl fun F os tape output => ?_
    have hdw := deed_sees hG (d := 7) (k := 7) rfl (by decide)
    refine go 200 ?_
    conv => whnf
    repeat' (first | (refine atApp ?_; refine Nx.bind (l := 24) (fun b => ?_) rfl; refine Nx.realS 81 (l := 24) rfl rfl ?_; refine Nx.out 24 rfl rfl rfl rfl ?_; refine Nx.turn [24] [5] [ownS 9 (some ⟨b, 0, none⟩) 3 3 1 [str (itoa who), str (deedW 7), str (itoa ring)]] rfl own3 ?_) | ((first | refine BrM.not (by omega) ?_ | refine BrM.t rfl ?_ | refine BrM.f rfl ?_ | refine BrM.dec (fun _ => ?_) (fun _ => ?_) | refine BrM.mk (fun _ => ?_) (fun _ => ?_) | refine Ar.i64 (by omega) (by omega) ?_ | refine gO rfl ?_ | refine gP rfl (by repeat constructor) ?_) <;> conv => whnf) | (refine atIdx ?_; refine Nx.gidx (q := 7) (sz := 1) rfl rfl rfl Tryz.underlying129 rfl rfl (by omega) (by omega) (by omega) ?_) | (refine atLoad ?_; refine Nx.load1 0 rfl rfl rfl rfl (hdw) rfl ?_) | (refine Nx.bind (l := 1) (fun _ => ?_) rfl; refine dN 4 [0] [0,5,12,16,21,10,26,30,32] rfl (by kernel_rfl) rfl (by kernel_rfl) rfl (by repeat constructor) rfl ?_) | (refine atCall 50 ?_; refine cE [0] [0] rfl rfl rfl rfl rfl ((number_ok hG _ (by first | assumption | exact I64n_zero))) rfl ?_) | (refine atAftK ?_; refine Nx.keepN [0] rfl (by repeat constructor) (by repeat constructor) rfl ?_) | (refine atHoAdd ?_; refine Nx.hoCat rfl rfl rfl rfl ((by simp; omega)) ?_) | (refine atApp ?_; refine Nx.append 5 (sz := 1) (by_ := 16) (news := [str (itoa seq)]) rfl rfl rfl rfl rfl Tryz.underlying39 rfl rfl rfl rfl rfl (by unfold maxLen; omega) (by omega) fun A' c'' => ?_) | refine Nx.late ?_)
    refine Nx.fact 5 (p := 4 ≤ c'' ∧ c'' ≤ maxLen) rfl (fun r h hs => ownS_fit hs) fun ⟨hfit, _⟩ => ?_
    repeat' (first | ((first | refine BrM.t rfl ?_ | refine BrM.f rfl ?_ | refine BrM.dec (fun _ => ?_) (fun _ => ?_) | refine BrM.mk (fun _ => ?_) (fun _ => ?_) | refine Ar.i64 (by omega) (by omega) ?_ | refine gO rfl ?_ | refine gP rfl (by repeat constructor) ?_) <;> conv => whnf) | (refine atCall 58 ?_; refine cE [5] [5] rfl rfl rfl rfl rfl ((Join_ok A' c'' [itoa who, deedW 7, itoa ring, itoa seq] (by simp) (ownS_sees 9 A' 4 c'' 1 (strs [itoa who, deedW 7, itoa ring, itoa seq])) (by simp) hfit (by simp only [joinC, List.length_append, List.length_cons, List.length_nil]; omega))) rfl ?_) | (refine atRet ?_; refine Nx.ret [0] Tryz.func23 rfl rfl ?_; (exact ⟨rfl, rfl⟩)) | refine Nx.late ?_)
  · have eL : noteL ⟨who, ring, deed, lo, seq, key, val, code⟩ = [itoa who, [110, 111, 110, 101], itoa ring] := by unfold noteL; dsimp only; rw [if_neg (by omega), if_neg (by omega), if_neg (by omega), if_neg (by omega)]; unfold headL deedW; dsimp only; rw [if_neg (by omega)]
    rw [eL]
    by_cases h0 : 0 ≤ deed
    · refine FnOk.start Tryz.func23 rfl rfl rfl rfl fun F os tape output => ?_
      refine go 200 ?_
      conv => whnf
      repeat' (first | ((first | refine BrM.yes (by omega) ?_ | refine BrM.not (by omega) ?_ | refine BrM.t rfl ?_ | refine BrM.f rfl ?_ | refine BrM.dec (fun _ => ?_) (fun _ => ?_) | refine BrM.mk (fun _ => ?_) (fun _ => ?_) | refine Ar.i64 (by omega) (by omega) ?_ | refine gO rfl ?_ | refine gP rfl (by repeat constructor) ?_) <;> conv => whnf) | (refine Nx.bind (l := 1) (fun _ => ?_) rfl; refine dN 4 [0] [0,5,12,16,21,10,26,30,32] rfl (by kernel_rfl) rfl (by kernel_rfl) rfl (by repeat constructor) rfl ?_) | (refine atCall 50 ?_; refine cE [0] [0] rfl rfl rfl rfl rfl ((number_ok hG _ (by first | assumption | exact I64n_zero))) rfl ?_) | (refine atAftK ?_; refine Nx.keepN [0] rfl (by repeat constructor) (by repeat constructor) rfl ?_) | (refine atHoAdd ?_; refine Nx.hoCat rfl rfl rfl rfl ((by simp; omega)) ?_) | refine Nx.late ?_)
      intro b
      refine go 200 ?_
      conv => whnf
      refine Nx.out 24 rfl rfl rfl rfl ?_
      refine Nx.turn [24] [5] [ownS 9 (some ⟨b, 0, none⟩) 3 3 1 [str (itoa who), str [110, 111, 110, 101], str (itoa ring)]] rfl own3 ?_
      have hfit : (3 : Nat) ≤ 3 := Nat.le_refl _
      repeat' (first | ((first | refine BrM.t rfl ?_ | refine BrM.f rfl ?_ | refine BrM.dec (fun _ => ?_) (fun _ => ?_) | refine BrM.mk (fun _ => ?_) (fun _ => ?_) | refine Ar.i64 (by omega) (by omega) ?_ | refine gO rfl ?_ | refine gP rfl (by repeat constructor) ?_) <;> conv => whnf) | (refine atCall 58 ?_; refine cE [5] [5] rfl rfl rfl rfl rfl ((Join_ok (some ⟨b, 0, none⟩) 3 [itoa who, [110, 111, 110, 101], itoa ring] (by simp) (ownS_sees 9 (some ⟨b, 0, none⟩) 3 3 1 (strs [itoa who, [110, 111, 110, 101], itoa ring])) (by simp) hfit (by simp only [joinC, List.length_append, List.length_cons, List.length_nil]; omega))) rfl ?_) | (refine atRet ?_; refine Nx.ret [0] Tryz.func23 rfl rfl ?_; (exact ⟨rfl, rfl⟩)) | refine Nx.late ?_)
    · refine FnOk.start Tryz.func23 rfl rfl rfl rfl fun F os tape output => ?_
      refine go 200 ?_
      conv => whnf
      repeat' (first | ((first | refine BrM.yes (by omega) ?_ | refine BrM.not (by omega) ?_ | refine BrM.t rfl ?_ | refine BrM.f rfl ?_ | refine BrM.dec (fun _ => ?_) (fun _ => ?_) | refine BrM.mk (fun _ => ?_) (fun _ => ?_) | refine Ar.i64 (by omega) (by omega) ?_ | refine gO rfl ?_ | refine gP rfl (by repeat constructor) ?_) <;> conv => whnf) | (refine Nx.bind (l := 1) (fun _ => ?_) rfl; refine dN 4 [0] [0,5,12,16,21,10,26,30,32] rfl (by kernel_rfl) rfl (by kernel_rfl) rfl (by repeat constructor) rfl ?_) | (refine atCall 50 ?_; refine cE [0] [0] rfl rfl rfl rfl rfl ((number_ok hG _ (by first | assumption | exact I64n_zero))) rfl ?_) | (refine atAftK ?_; refine Nx.keepN [0] rfl (by repeat constructor) (by repeat constructor) rfl ?_) | (refine atHoAdd ?_; refine Nx.hoCat rfl rfl rfl rfl ((by simp; omega)) ?_) | refine Nx.late ?_)
      intro b
      refine go 200 ?_
      conv => whnf
      refine Nx.out 24 rfl rfl rfl rfl ?_
      refine Nx.turn [24] [5] [ownS 9 (some ⟨b, 0, none⟩) 3 3 1 [str (itoa who), str [110, 111, 110, 101], str (itoa ring)]] rfl own3 ?_
      have hfit : (3 : Nat) ≤ 3 := Nat.le_refl _
      repeat' (first | ((first | refine BrM.t rfl ?_ | refine BrM.f rfl ?_ | refine BrM.dec (fun _ => ?_) (fun _ => ?_) | refine BrM.mk (fun _ => ?_) (fun _ => ?_) | refine Ar.i64 (by omega) (by omega) ?_ | refine gO rfl ?_ | refine gP rfl (by repeat constructor) ?_) <;> conv => whnf) | (refine atCall 58 ?_; refine cE [5] [5] rfl rfl rfl rfl rfl ((Join_ok (some ⟨b, 0, none⟩) 3 [itoa who, [110, 111, 110, 101], itoa ring] (by simp) (ownS_sees 9 (some ⟨b, 0, none⟩) 3 3 1 (strs [itoa who, [110, 111, 110, 101], itoa ring])) (by simp) hfit (by simp only [joinC, List.length_append, List.length_cons, List.length_nil]; omega))) rfl ?_) | (refine atRet ?_; refine Nx.ret [0] Tryz.func23 rfl rfl ?_; (exact ⟨rfl, rfl⟩)) | refine Nx.late ?_)
end Go.Proofs.YtccmdlmlbkpjjaaGreatDoor

/- The awake of norialaw26, and ReportNil. -/
namespace Go.Proofs.YtccmdlmlbkpjjaaGreatDoor
open Go.RowKit Go.Lib
set_option maxRecDepth 100000
theorem awake26_gx (m : PH) : gxTrue Tryz.prog (kn m) 1000000 14 [] = true := by kernel_rfl
theorem awake26_ok {m : PH} (hG : GlN m) : FnOk Tryz.prog 14 [] [roAll m] fun v _ => v = .bool true := gxTrue_ok (exT_ok hG) jn_ok noNg0 mix0 (awake26_gx m) (by simp) [roAll m] (gl_ok hG)
/-- .. with what awake comes to. -/
def exB (f : Nat) (vs : List SV) : Option SV :=
  match f, vs with
  | 14, [] => some (.c (.v (.bool true)))
  | f, vs => exT f vs
theorem exB_ok {m : PH} (hG : GlN m) : ExOk Tryz.prog exB [roAll m] := by
  intro f vs x h
  unfold exB at h
  split at h
  · cases h
    exact ⟨fun _ => trivial, fun β => .inr (awake26_ok hG)⟩
  · exact exT_ok hG f vs x h
abbrev knB (m : PH) : Kn := ⟨exB, glT, [roAll m], 58⟩
end Go.Proofs.YtccmdlmlbkpjjaaGreatDoor

/- Notes as lines: the program's; ReportLists. -/
namespace Go.Proofs.YtccmdlmlbkpjjaaGreatDoor
open Go.RowKit Go.Lib
set_option maxRecDepth 20000
set_option maxHeartbeats 4000000
attribute [local irreducible] Nx Ar BrM headC OneC HoC AftC planHead endF
theorem Note.enc_len (n : Note) : n.enc.length = 8 := rfl
def lineC (n : Note) : List Value := [str (noteS n)]
theorem lineC_len (n : Note) : (lineC n).length = 1 := rfl
structure NsX where
  k : Nat
  A : Option Addr
  c : Nat
theorem Notes_ok {m : PH} (hG : GlN m) (A : Option Addr) (c : Nat) (l : List Note) (hs : Rd m A l.length 8 (l.flatMap Note.enc)) (hwf : ∀ n ∈ l, n.wf) (hl : l.length ≤ 200) : FnOk Tryz.prog 15 [.slice A l.length c] [roAll m]
    (fun v Q => ∃ B d, v = .slice B l.length d ∧ Q = [roAll m, ownS 9 B l.length d 1 (l.flatMap lineC)]) := by
  have hsee := roAll_sees hs
  refine FnOk.start Tryz.func15 rfl rfl rfl rfl fun F os tape output => ?_
  refine Nx.give 5 (ownS 9 none 0 0 1 []) (own_nil _ _ _ _) ?_
  refine go 200 ?_
  conv => whnf
  refine Nx.loop (X := NsX) (fun x => x.k ≤ l.length) (fun x => l.length - x.k)
    (fun x => [(0, sl A l.length c), (3, sl x.A x.k x.c), (6, sl A l.length c), (7, iv l.length), (8, iv x.k)]) (fun _ => []) [] (fun x => [(0, roAll m), (5, ownS 9 x.A x.k x.c 1 ((l.take x.k).flatMap lineC))]) ⟨0, none, 0⟩ (Nat.zero_le _) ?_ ?_ ?_ ?_ ?_
  all_goals repeat (first | exact .nil _ | refine .cons rfl ?_ | refine .cons rfl rfl ?_ | refine .cons rfl rfl rfl ?_ | refine .cons' rfl (fun _ => rfl) ?_)
  intro x hx ih
  obtain ⟨k, B, d⟩ := x
  simp only at hx ih ⊢
  by_cases hk : k < l.length
  · have hn := hwf _ (List.getElem_mem hk)
    repeat' (first | ((first | refine BrM.yes (by omega) ?_ | refine BrM.t rfl ?_ | refine BrM.f rfl ?_ | refine BrM.dec (fun _ => ?_) (fun _ => ?_) | refine BrM.mk (fun _ => ?_) (fun _ => ?_) | refine Ar.i64 (by omega) (by omega) ?_ | refine gO rfl ?_ | refine gP rfl (by repeat constructor) ?_) <;> conv => whnf) | (refine atIdx ?_; refine Nx.idx 0 (j := k) rfl rfl rfl Tryz.underlying38 rfl rfl rfl Note.enc_len hsee rfl (by omega) (by omega) fun _ _ _ => ?_) | (refine atLoad ?_; first | (refine Nx.load1 0 rfl rfl rfl rfl (SeesAt.sub (by assumption) _ rfl) rfl ?_) | (refine Nx.load1 0 rfl rfl rfl rfl (by assumption) rfl ?_) | (refine Nx.load 0 rfl rfl rfl rfl (by assumption) rfl rfl ?_)) | (refine atCall 23 ?_; refine cE [0] [0] rfl rfl rfl rfl rfl ((Note_ok hG _ hn)) rfl ?_) | (refine atApp ?_; refine Nx.append 5 (sz := 1) (by_ := 16) (news := [str (noteS l[k])]) rfl rfl rfl rfl rfl Tryz.underlying39 rfl rfl rfl rfl rfl (by unfold maxLen; omega) (by omega) fun A' c'' => ?_) | refine Nx.late ?_)
    refine (ih ⟨k + 1, A', c''⟩ (by show k + 1 ≤ _; omega) (by show _ - (k + 1) < _; omega)).weak ?_ ?_ ?_ ?_
    · exact .cons rfl rfl (.cons rfl rfl (.cons rfl rfl (.cons rfl rfl (.cons rfl (by simp) (.nil _)))))
    · repeat (first | exact subM.nil _ | refine subM.cons rfl rfl rfl ?_)
    · repeat (first | exact subB.nil _ | refine subB.cons rfl ?_)
    · exact .cons rfl rfl (.cons rfl (by rw [List.take_succ_eq_append_getElem hk, List.flatMap_append]; rfl) (.nil _))
  · have e : k = l.length := by omega
    subst e
    repeat' (first | ((first | refine BrM.not (by omega) ?_ | refine BrM.t rfl ?_ | refine BrM.f rfl ?_ | refine BrM.dec (fun _ => ?_) (fun _ => ?_) | refine BrM.mk (fun _ => ?_) (fun _ => ?_) | refine Ar.i64 (by omega) (by omega) ?_ | refine gO rfl ?_ | refine gP rfl (by repeat constructor) ?_) <;> conv => whnf) | (refine atRet ?_; refine Nx.ret [0,5] Tryz.func15 rfl rfl ?_; (exact ⟨B, d, rfl, by rw [List.take_length]⟩)) | refine Nx.late ?_)
/-- What stays is had behind the call, too. -/
theorem FnOk.keepP {P : Program} {f : FuncId} {args : List Value} {S : SP} {p : Value → Prop} (hS : Pers S) (h : FnOk P f args [S] (fun v _ => p v)) : FnOk P f args [S] (fun v Q => p v ∧ Q = [S]) := by
  refine ⟨h.1, fun F w hs => ?_⟩
  have h2 : SatW ([S] ++ (S :: F)) w := SatW.dup hs hS
  refine (h.2 _ w h2).mono ?_
  rintro e w' ⟨v, Q, e1, e2, e3, e4, e5, e6⟩
  exact ⟨v, [S], e1, ⟨e2, rfl⟩, e3, e4, e5, e6.app_right⟩
theorem reportLists_ok {m : PH} (hG : GlN m) (A : Option Addr) (c : Nat) (l : List Note) (hs : Rd m A l.length 8 (l.flatMap Note.enc)) (hwf : ∀ n ∈ l, n.wf) : FnOk Tryz.prog 4 [.slice A l.length c] [roAll m] (fun v Q => v = .bool true ∧ Q = [roAll m]) := by
  have hsee := roAll_sees hs
  have haw : FnOk Tryz.prog 14 [] [roAll m] (fun v _ => v = .bool true) := awake26_ok hG
  have haw2 : FnOk Tryz.prog 14 [] [roAll m] (fun v Q => v = .bool true ∧ Q = [roAll m]) := haw.keepP (pers_roAll m)
  by_cases hl : 200 < l.length
  · refine FnOk.start Tryz.func4 rfl rfl rfl rfl fun F os tape output => ?_
    refine go 200 ?_
    conv => whnf
    repeat' (first | ((first | refine BrM.yes (by omega) ?_ | refine BrM.t rfl ?_ | refine BrM.f rfl ?_ | refine BrM.dec (fun _ => ?_) (fun _ => ?_) | refine BrM.mk (fun _ => ?_) (fun _ => ?_) | refine Ar.i64 (by omega) (by omega) ?_ | refine gO rfl ?_ | refine gP rfl (by repeat constructor) ?_) <;> conv => whnf) | (refine atCall 14 ?_; refine cE [0] [0] rfl rfl rfl rfl rfl (haw2) rfl ?_) | (refine atRet ?_; refine Nx.ret [0] Tryz.func4 rfl rfl ?_; (exact ⟨rfl, rfl⟩)) | refine Nx.late ?_)
  · refine FnOk.start Tryz.func4 rfl rfl rfl rfl fun F os tape output => ?_
    refine go 200 ?_
    conv => whnf
    repeat' (first | ((first | refine BrM.not (by omega) ?_ | refine BrM.t rfl ?_ | refine BrM.f rfl ?_ | refine BrM.dec (fun _ => ?_) (fun _ => ?_) | refine BrM.mk (fun _ => ?_) (fun _ => ?_) | refine Ar.i64 (by omega) (by omega) ?_ | refine gO rfl ?_ | refine gP rfl (by repeat constructor) ?_) <;> conv => whnf) | refine Nx.late ?_)
    refine Nx.call [0] [0,5] rfl rfl rfl rfl rfl ((Notes_ok hG A c l hs hwf (by omega))) rfl fun v Q hQ => ?_
    obtain ⟨B, d, rfl, rfl⟩ := hQ
    have h5 : Sees (ownS 9 B l.length d 1 (l.flatMap lineC)) B l.length 1 (l.flatMap lineC) := ownS_sees _ _ _ _ _ _
    repeat' (first | ((first | refine BrM.not (by omega) ?_ | refine BrM.t rfl ?_ | refine BrM.f rfl ?_ | refine BrM.dec (fun _ => ?_) (fun _ => ?_) | refine BrM.mk (fun _ => ?_) (fun _ => ?_) | refine Ar.i64 (by omega) (by omega) ?_ | refine gO rfl ?_ | refine gP rfl (by repeat constructor) ?_) <;> conv => whnf) | refine Nx.late ?_)
    refine Nx.loop (X := Nat) (fun k => k ≤ l.length) (fun k => l.length - k)
      (fun k => [(0, sl A l.length c), (3, sl B l.length d), (17, iv l.length), (18, iv k)]) (fun _ => []) [] (fun _ => [(0, roAll m), (5, ownS 9 B l.length d 1 (l.flatMap lineC))]) 0 (Nat.zero_le _) ?_ ?_ ?_ ?_ ?_
    all_goals repeat (first | exact .nil _ | refine .cons rfl ?_ | refine .cons rfl rfl ?_ | refine .cons rfl rfl rfl ?_ | refine .cons' rfl (fun _ => rfl) ?_)
    intro k hx ih
    by_cases hk : k < l.length
    · have hn := hwf _ (List.getElem_mem hk)
      repeat' (first | (refine atBr ?_; refine BrM.not (fun h => h rfl) ?_; conv => whnf) | ((first | refine BrM.yes (by omega) ?_ | refine BrM.t rfl ?_ | refine BrM.f rfl ?_ | refine BrM.dec (fun _ => ?_) (fun _ => ?_) | refine BrM.mk (fun _ => ?_) (fun _ => ?_) | refine Ar.i64 (by omega) (by omega) ?_ | refine gO rfl ?_ | refine gP rfl (by repeat constructor) ?_) <;> conv => whnf) | (refine dN 9 [0,5] [0,4,8,13,16,20,24,29,34,36] rfl (by kernel_rfl) rfl (by kernel_rfl) rfl (by repeat constructor) rfl ?_) | (refine atHoIdx ?_; refine Nx.hoIdx 5 (j := k) rfl rfl rfl Tryz.underlying39 rfl rfl rfl lineC_len h5 rfl (by omega) (by omega) fun _ _ _ => ?_) | (refine atHoIdx ?_; refine Nx.hoIdx 0 (j := k) rfl rfl rfl Tryz.underlying38 rfl rfl rfl Note.enc_len hsee rfl (by omega) (by omega) fun _ _ _ => ?_) | (refine atHoLoad ?_; first | refine hL1 rfl rfl rfl rfl (SeesAt.sub (by assumption) _ rfl) (by repeat constructor) rfl ?_ | refine hL1 rfl rfl rfl rfl (by assumption) (by repeat constructor) rfl ?_ | refine hLm rfl rfl rfl rfl (by assumption) (by repeat constructor) rfl rfl ?_) | (refine atCall 16 ?_; refine cE [] [] rfl rfl rfl rfl rfl ((refNote_ok _ hn)) rfl ?_) | (refine atAftK ?_; refine Nx.keepN [0,5] rfl (by repeat constructor) (by repeat constructor) rfl ?_) | refine Nx.late ?_)
      refine (ih (k + 1) (by omega) (by omega)).weak ?_ ?_ ?_ ?_
      · exact .cons rfl rfl (.cons rfl rfl (.cons rfl rfl (.cons rfl (by simp) (.nil _))))
      all_goals repeat (first | exact .nil _ | refine .cons rfl ?_ | refine .cons rfl rfl ?_ | refine .cons rfl rfl rfl ?_ | refine .cons' rfl (fun _ => rfl) ?_)
    · repeat' (first | ((first | refine BrM.not (by omega) ?_ | refine BrM.t rfl ?_ | refine BrM.f rfl ?_ | refine BrM.dec (fun _ => ?_) (fun _ => ?_) | refine BrM.mk (fun _ => ?_) (fun _ => ?_) | refine Ar.i64 (by omega) (by omega) ?_ | refine gO rfl ?_ | refine gP rfl (by repeat constructor) ?_) <;> conv => whnf) | (refine atCall 14 ?_; refine cE [0] [0] rfl rfl rfl rfl rfl (haw2) rfl ?_) | (refine atRet ?_; refine Nx.ret [0] Tryz.func4 rfl rfl ?_; (exact ⟨rfl, rfl⟩)) | refine Nx.late ?_)
end Go.Proofs.YtccmdlmlbkpjjaaGreatDoor

/- ReportLists: the statement's tied card holds: for all notes the law returns true, and they read as they did, where the listed package-level variables hold what the program's text lays. -/
namespace Go.Proofs.YtccmdlmlbkpjjaaGreatDoor
open Go.ChangeShapes Go.WideShapes Go.ChangeAt Go.RowKit

set_option maxRecDepth 100000 in
theorem open_notes {H : Type} {enc : TypeId × Value → H} {W : World} {base : Nat} {sp : Nat → Bool} {held : Bool} {r : Reach} {b0 : Nat} {v : Value} {d : DataW H} {p : List MemPlace} (hval : Value.okWide Tryz.prog W r b0 38 v) (h : DataW.Trod enc Tryz.prog W base sp held 38 v d p) :
    ∃ (A : Option Addr) (l : List Note) (c : Nat), v = .slice A l.length c ∧ Rd (hw W) A l.length 8 (l.flatMap Note.enc) ∧ ∀ n ∈ l, n.wf := by
  obtain ⟨A, l, c, h1, h2, h3, h4, _⟩ := open_flat (encA := Note.enc) (Q := Note.wf) Tryz.underlying38 (show Tryz.prog.cellsOf 47 = 8 by kernel_rfl) (by omega) (fun n cs y hy => by
    obtain ⟨l, hl, hw⟩ := trod_ints 4 (t := 47) (by kernel_rfl) hy
    have hl2 : cs.length = 8 := by
      obtain ⟨_, _, _, _, hlen, _⟩ := DataW.trod_struct Tryz.underlying47 hy
      exact hlen.trans (by kernel_rfl)
    rw [hl] at hl2
    match l, hl2, hl, hw with
    | [a, b, c, d, e, f, g, k], _, hl, hw =>
      have hI := fun n (h : n ∈ [a, b, c, d, e, f, g, k]) => (show I64n n from hw n h)
      exact ⟨⟨a, b, c, d, e, f, g, k⟩, hl, ⟨hI a (by simp), hI b (by simp), hI c (by simp), hI d (by simp), hI e (by simp), hI f (by simp), hI g (by simp), hI k (by simp)⟩⟩) (fun _ => rfl) hval h
  exact ⟨A, l, c, h1, h2, h3⟩
set_option maxRecDepth 100000 in
theorem reportLists_lifted (os : Os) (started : os.Started) (H : Type) (enc : TypeId × Value → H) :
    ReturnsInHanded {} Tryz.checked os 4 .any (fun w args => (Rows.reportListsSpec.pre enc Tryz.prog Tryz.f4 [] false w args ∧ laidMetH Tryz.prog Rows.reportListsRow.laid w) ∧ sizedMet enc Tryz.prog Tryz.f4 (OpenSpec.ofChange Rows.reportListsSpec) false w args)
      (Rows.reportListsSpec.post enc Tryz.prog Tryz.f4 false true false false) := by
  refine law_laid (C := Tryz.checked) (tb := 4) laid0 rfl rfl Tryz.underlying4 ?_ (by kernel_rfl) own0 started (by kernel_rfl) Tryz.func4
    (ChangeSpec.witness_shaped (enc := enc) (C := Tryz.checked) (os := os) (X := fun w _ => laidMetH Tryz.prog Rows.reportListsRow.laid w) false (World.laidAll Tryz.prog os Rows.reportListsRow.laid) #[.slice none 0 0] 8 (World.laidAll_os _ _ _)
      (World.shaped_of_ZipB (by kernel_rfl) (by kernel_rfl)) (by kernel_rfl) (by kernel_rfl) (by kernel_rfl)
      (by rw [MakeChecks.laidMetH_plain _ _ _ (by kernel_rfl)]; exact laidMet_laidAll _ (by kernel_rfl) (by kernel_rfl))) ?_
  · intro ds hl
    match ds, hl with
    | [d1], _ => exact ⟨rfl, rfl, rfl⟩
  intro W base args ds ps hval hA _ hsh hL
  rw [MakeChecks.laidMetH_plain _ _ _ (by kernel_rfl)] at hL
  rw [Tryz.params4] at hval hA
  rw [chk0] at hval hA hsh hL
  have hG : GlN (hw W) := gln_of fun x hx => Lib.laidMet.reads hL (by
    simp only [laidN, laidT, List.mem_cons, List.cons_append, List.nil_append, List.not_mem_nil, or_false] at hx
    rcases hx with rfl | rfl | rfl | rfl | rfl | rfl <;> simp [Rows.reportListsRow])
  obtain ⟨v0, r0, d0, e_0, p0, q0, rfl, rfl, rfl, h0, hA⟩ := trodAll_cons hA
  obtain ⟨rfl, rfl, rfl⟩ := trodAll_nil hA
  obtain ⟨A0, l0, c0, rfl, hr0, hw0⟩ := open_notes (hval 0 38 v0 rfl rfl) h0
  exact (reportLists_ok hG A0 c0 l0 hr0 hw0).law fun v Q h => h.1

theorem reportLists_holds : Rows.ReportListsSaid :=
  OpenClaim.holds_of_wide 4 Tryz.f4 rfl rfl rfl rfl rfl rfl rfl ⟨rfl, rfl, rfl, rfl, rfl⟩ rfl rfl rfl rfl rfl (by kernel_rfl) Tryz.func4 (by kernel_rfl)
    (of_decide_eq_true (by kernel_rfl)) (by unfold Func.isWrapper; first | (rw [if_pos (by decide +kernel)]; kernel_rfl) | (rw [if_neg (by decide +kernel)]; exact ⟨rfl, rfl⟩))
    (fun os started H enc _ => reportLists_lifted os started H enc)

theorem reportLists_card : Rows.ReportListsCardSaid :=
  Claim7.holds_tied_plain_at .later [] [.data, .data, .data, .data, .data, .data, .data] true Rows.reportListsCard.stood.harness true
    reportLists_holds (fun _ h => by cases h) (by kernel_rfl) (fun _ h => by cases h) reportLists_row_tie rfl ⟨rfl, rfl⟩ (by kernel_rfl) rfl
    (fun f fn hf hfn => by
      obtain rfl : f = 4 := Option.some.inj ((show Tryz.prog.funcNamed "noria/norialaw26.ReportLists" = some 4 by kernel_rfl).symm.trans hf) |>.symm
      obtain rfl : fn = Tryz.f4 := (Option.some.inj (Tryz.func4.symm.trans hfn)).symm
      exact ⟨by kernel_rfl, fun j t ht => by
        rw [Tryz.params4] at ht
        have hm : t ∈ [38] := by simpa using Array.mem_of_getElem? ht
        have hall : ([38].all fun u => !Tryz.prog.wantsStandIn u) = true := by kernel_rfl
        exact (show Tryz.prog.wantsStandIn t = false by simpa using List.all_eq_true.1 hall t hm)⟩)
    (by kernel_rfl)
end Go.Proofs.YtccmdlmlbkpjjaaGreatDoor
