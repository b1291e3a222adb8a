/- A note's line read by the program. -/
import Derived.Test.YtccmdlmlbkpjjaaGreatDoorMc
import Derived.Test.YtccmdlmlbkpjjaaGreatDoorChecked
import Derived.OpenShut
import Derived.SizedLaws
import Derived.Laws.Externs
import Derived.KernelRfl
set_option linter.unusedSimpArgs false
set_option linter.unusedVariables false
/- Rules: whatever the evaluator knows to reckon; calls through interfaces; functions without a body. -/
namespace Go.Proofs.YtccmdlmlbkpjjaaGreatDoor
open Go.RowKit
section
variable {g : Cx} {β : Nat → Nat} {env : Env} {mem : Mem} {bnd : Bnd} {L : Res} {a : Act} {w : World} {N : Act → World → Prop} {Q : Exit → Act → World → Prop}
theorem Rel.toG (hr : Rel g β env mem bnd L a w) (w' : World) : RelG { g with F := [], os := w'.os, tape := w'.tape, output := w'.output } β ⟨env, [], [], 0, 0⟩ [] a w' :=
  RelG.mk' hr.defers hr.size hr.env rfl rfl rfl (by simpa [memSP, gmSP] using SatW.nil w')
theorem Nx.px {o : Oper} {x : SV} (hd : dstOk g.n o.dst = true) (hx : outV (pureX g.P env [] [] o.op) = some x) (hk : Nx g (putE o.dst x env) mem bnd L N) : Nx g env mem bnd L (OneC g o N Q) :=
  Nx.val hd (fun _ _ _ hr w' => outV_ok (pureX_ok (hr.toG w') o) hx) hk
theorem Nx.inv (ns ns' : List Nat) {o : Oper} {f : Nat} {us : List SV} {args : List Value} {Pre : List SP} {Post : Value → List SP → Prop} {L' : Res}
    (hc : calleeG g.P env o = some (f, us)) (ha : ∀ β, us.map (SV.den β) = args) (hd : dstOk g.n o.dst = true)
    (h : FnOk g.P f args Pre Post) (hp : pick ns L = some (Pre, L'))
    (hk : ∀ v Qs, Post v Qs → Nx g (putE o.dst (ofV v) env) mem bnd (ns'.zip Qs ++ L') N) : Nx g env mem bnd L (OneC g o N Q) := by
  intro β a w hr
  have hrun : (execOp a.eval o).run g.P w = .ok (.enter f args.toArray) w := by
    rw [calleeG_ok (hr.toG w) hc, ha, h.1]
  have hc := h.2 _ w (hr.picked hp)
  show o.wp g.P a w N Q
  unfold Oper.wp
  rw [hrun]
  refine hc.mono ?_
  rintro e w' ⟨v, Qs, rfl, h1, h2, h3, h4, h5⟩
  have hR := (hr.unpicked (ns := ns') h5 h2 h3 h4).put o.dst (ofV v) hd
  rw [ofV_den] at hR
  exact hk v Qs h1 β _ _ hR
theorem Nx.ext {o : Oper} {f : Nat} {us : List SV} {v : Value} (hc : calleeG g.P env o = some (f, us)) (hd : dstOk g.n o.dst = true) (hrun : ∀ β w, (callFunc f (us.map (SV.den β)).toArray).run g.P w = .ok (.value v) w)
    (hk : Nx g (putE o.dst (ofV v) env) mem bnd L N) : Nx g env mem bnd L (OneC g o N Q) := by
  intro β a w hr
  have h : (execOp a.eval o).run g.P w = .ok (.value v) w := by rw [calleeG_ok (hr.toG w) hc, hrun]
  refine wp_value h (hk β _ _ ?_)
  have := hr.put o.dst (ofV v) hd
  rwa [ofV_den] at this
end
section
variable {g : Cx} {env : Env} {mem : Mem} {bnd : Bnd} {L : Res} {N : Act → World → Prop} {Q : Exit → Act → World → Prop} {dst : Option Tmp} {ty : TypeId} {pos : String} {af : Array Edge} {gd : Option (Nat × Bool)}
theorem atTA {x : Operand} {s t : TypeId} {ok : Bool} (h : Nx g env mem bnd L (OneC g ⟨dst, .typeAssert x s t ok, ty, pos, af, gd⟩ N Q)) : Nx g env mem bnd L (OneC g ⟨dst, .typeAssert x s t ok, ty, pos, af, gd⟩ N Q) := h
theorem atInv {r : Operand} {n : String} {ars : Array Operand} {ts : Array TypeId} (h : Nx g env mem bnd L (OneC g ⟨dst, .call ⟨.invoke r n, ars, ts⟩, ty, pos, af, gd⟩ N Q)) : Nx g env mem bnd L (OneC g ⟨dst, .call ⟨.invoke r n, ars, ts⟩, ty, pos, af, gd⟩ N Q) := h
theorem atBin {op : BinOp} {t tt : TypeId} {x y : Operand} (h : Nx g env mem bnd L (OneC g ⟨dst, .binOp op t x y tt, ty, pos, af, gd⟩ N Q)) : Nx g env mem bnd L (OneC g ⟨dst, .binOp op t x y tt, ty, pos, af, gd⟩ N Q) := h
theorem atExt {x : Operand} {i : Nat} (h : Nx g env mem bnd L (OneC g ⟨dst, .extract x i, ty, pos, af, gd⟩ N Q)) : Nx g env mem bnd L (OneC g ⟨dst, .extract x i, ty, pos, af, gd⟩ N Q) := h
end
end Go.Proofs.YtccmdlmlbkpjjaaGreatDoor

/- What body-less functions give, package-level variables, the awakes of norialaw24 and norialaw26 by the evaluator. -/
namespace Go.Proofs.YtccmdlmlbkpjjaaGreatDoor
open Go.RowKit Go.Lib

noncomputable def cmpE : Array Value → Sem Value := Extern.ReflectliteType.method fun t => do Extern.Rtype.noPackHeld "Comparable" t; pure (.bool (← typeInfo t).comparable)
def inI64 : Int → Bool
  | .ofNat n => Nat.ble n 9223372036854775807
  | .negSucc n => Nat.ble n 9223372036854775807
theorem inI64_ok {n : Int} (h : inI64 n = true) : I64n n := by
  unfold inI64 at h
  unfold I64n
  split at h
  · rename_i k
    have hk : k ≤ 9223372036854775807 := by simpa using h
    have : (Int.ofNat k : Int) = (k : Int) := rfl
    omega
  · rename_i k
    have hk : k ≤ 9223372036854775807 := by simpa using h
    have : Int.negSucc k = -(k : Int) - 1 := by omega
    omega
def exE : Nat → List SV → Option SV
  | 91, [.c (.v (.iface 45 _))] => some (.c (.v (.iface 242 (.agg #[.pointer (some ⟨12, 45, none⟩)]))))
  | 257, [.agg [.v (.pointer (some ⟨12, 45, none⟩))]] => some (.c (.v (.bool true)))
  | _, _ => none
def exT : Nat → List SV → Option SV
  | 106, [.c (.v (.int .i64 n)), .c (.v (.int .i64 10))] => match inI64 n with
    | true => some (.c (.v (str (itoa n))))
    | false => none
  | f, vs => exE f vs
def glE : Gl := [(7, bruijn.map fun n => .int .u8 n)]
def glT : Gl := [(0, strs kindsL), (1, strs statesL), (2, strs deedsL), (3, strs signsL), (7, bruijn.map fun n => .int .u8 n)]
theorem ext91 : ∃ fn, Tryz.prog.funcs[91]? = some fn ∧ (fn.name == "runtime.NumGoroutine") = false ∧ fn.body.isNone = true ∧ Extern.findNext fn = none ∧ Extern.find fn = some Extern.ReflectliteType.typeOf :=
  ⟨_, Tryz.func91, by kernel_rfl, by kernel_rfl, by kernel_rfl, by kernel_rfl⟩
theorem ext257 : ∃ fn, Tryz.prog.funcs[257]? = some fn ∧ (fn.name == "runtime.NumGoroutine") = false ∧ fn.body.isNone = true ∧ Extern.findNext fn = none ∧ Extern.find fn = some cmpE :=
  ⟨_, Tryz.func257, by kernel_rfl, by kernel_rfl, by kernel_rfl, by kernel_rfl⟩
theorem typeOf45 (v : Value) (w : World) : (Extern.ReflectliteType.typeOf #[.iface 45 v]).run Tryz.prog w = .ok (.iface 242 (.agg #[.pointer (some ⟨12, 45, none⟩)])) w := by kernel_rfl
theorem comparable45 (w : World) : (cmpE #[.agg #[.pointer (some ⟨12, 45, none⟩)]]).run Tryz.prog w = .ok (.bool true) w := by kernel_rfl
theorem exE_ok {m : PH} : ExOk Tryz.prog exE [roAll m] := by
  intro f vs x h
  unfold exE at h
  split at h
  · cases h
    refine ⟨fun _ => trivial, fun β => .inl fun w => ?_⟩
    obtain ⟨fn, h1, h2, h3, h4, h5⟩ := ext91
    rw [run_callFunc_extern h1 h2 h3 h4 h5]
    have := typeOf45
    simp only [List.map_cons, List.map_nil, SV.den, Ce.den]
    rw [this]
    rfl
  · cases h
    refine ⟨fun _ => trivial, fun β => .inl fun w => ?_⟩
    obtain ⟨fn, h1, h2, h3, h4, h5⟩ := ext257
    rw [run_callFunc_extern h1 h2 h3 h4 h5]
    have := comparable45
    simp only [List.map_cons, List.map_nil, SV.den, Ce.den]
    rw [this]
    rfl
  · cases h
theorem exT_ok {m : PH} (hG : GlN m) : ExOk Tryz.prog exT [roAll m] := by
  intro f vs x h
  unfold exT at h
  split at h
  · rename_i n
    split at h <;> cases h
    rename_i hn
    refine ⟨fun _ => trivial, fun β => .inr ?_⟩
    exact (FormatInt_ok hG n (inI64_ok hn)).mono fun v Q hq => hq.1
  · exact exE_ok f vs x h
theorem mix0 : Tryz.prog.follows .mixedOrders = true := by kernel_rfl
theorem noNg0 : noNg Tryz.prog = true := by kernel_rfl
abbrev kn (m : PH) : Kn := ⟨exT, glT, [roAll m], 58⟩
theorem jn_ok : JnOk Tryz.prog 58 := fun _ => ⟨enters_of Tryz.func58 (by kernel_rfl) rfl, fun bk o c xs sep w h1 h2 h3 h4 h5 => Tryz.strings_Join bk o c xs sep w h1 h2 h3 h4 h5⟩
abbrev knE (m : PH) : Kn := ⟨exE, glE, [roAll m], 58⟩
theorem glE_ok {m : PH} (hG : GlT m) : GlobP glE [roAll m] [roAll m] := GlobP.ro fun e he => by
  simp only [glE, List.mem_cons, List.not_mem_nil, or_false] at he
  rcases he with rfl
  exact hG.tz
theorem gl_ok {m : PH} (hG : GlN m) : GlobP glT [roAll m] [roAll m] := GlobP.ro fun e he => by
  simp only [glT, List.mem_cons, List.not_mem_nil, or_false] at he
  rcases he with rfl | rfl | rfl | rfl | rfl
  · exact hG.kinds
  · exact hG.states
  · exact hG.deeds
  · exact hG.signs
  · exact hG.tz
end Go.Proofs.YtccmdlmlbkpjjaaGreatDoor

/- The document's Digits, num and Deed; the program's number. -/
namespace Go.Proofs.YtccmdlmlbkpjjaaGreatDoor
open Go.RowKit Go.Lib
attribute [local irreducible] Nx Ar BrM headC OneC HoC AftC planHead endF
set_option maxRecDepth 20000

structure DgX where
  m : Int
  d : Str
  A : Option Addr
  c : Nat
structure DgI (n : Int) (x : DgX) : Prop where
  e : decDigits n.natAbs = decDigits x.m.natAbs ++ x.d.reverse
  b : I64n x.m
  len : x.d.length ≤ 20
theorem dg_step {n m : Int} {d : Str} (h : decDigits n.natAbs = decDigits m.natAbs ++ d.reverse) (h0 : ¬ m.natAbs < 10) :
    decDigits n.natAbs = decDigits (m.tdiv 10).natAbs ++ (d ++ [UInt8.ofNat (48 + m.natAbs % 10)]).reverse := by
  have e : (m.tdiv 10).natAbs = m.natAbs / 10 := by rw [Int.natAbs_tdiv]; rfl
  rw [e, h, decDigits_big h0]
  simp
theorem dg_last {n m : Int} {d : Str} (h : decDigits n.natAbs = decDigits m.natAbs ++ d.reverse) (h0 : m.natAbs < 10) :
    decDigits n.natAbs = (d ++ [UInt8.ofNat (48 + m.natAbs % 10)]).reverse := by
  rw [h, decDigits_small h0, Nat.mod_eq_of_lt h0]
  simp

theorem u8s_snoc (l : Str) (c : UInt8) {v : Int} (h : (c.toNat : Int) = v) : u8s (l ++ [c]) = u8s l ++ [.int .u8 v] := by subst h; simp [u8s]
theorem drop_rev {d : Str} {j : Nat} (h : j < d.length) : (d.drop j).reverse = (d.drop (j + 1)).reverse ++ [d[j]] := by
  rw [List.drop_eq_getElem_cons h]; simp
theorem one_of_drop {d : Str} {j : Nat} (h : j < d.length) : ((u8s d).drop (j * 1)).take ((j + 1 - j) * 1) = u8s [d[j]] := by
  have h2 : j + 1 - j = 1 := by omega
  rw [h2, Nat.mul_one, Nat.mul_one]
  have : j < (u8s d).length := by simpa using h
  rw [List.drop_eq_getElem_cons this]
  simp [u8s]

set_option maxHeartbeats 4000000 in
theorem Digits_ok (n : Int) (hn : I64n n) : FnOk Tryz.prog 46 [.int .i64 n] [] (fun v Q => v = str (itoa n) ∧ Q = []) := by
  have hn' := hn
  unfold I64n at hn'
  have hlen := decDigits_len 20 n.natAbs (by omega) (by omega)
  refine FnOk.start Tryz.func46 rfl rfl rfl rfl fun F os tape output => ?_
  refine go 200 ?_
  conv => whnf
  repeat' (first | ((first | refine BrM.t rfl ?_ | refine BrM.f rfl ?_ | refine BrM.dec (fun _ => ?_) (fun _ => ?_) | refine BrM.mk (fun _ => ?_) (fun _ => ?_) | refine Ar.i64 (by omega) (by omega) ?_ | refine gO rfl ?_ | refine gP rfl (by repeat constructor) ?_) <;> conv => whnf) | (fail) | refine Nx.late ?_)
  refine Nx.give 1 (ownS 5 none 0 0 1 []) (own_nil _ _ _ _) ?_
  repeat' (first | ((first | refine BrM.t rfl ?_ | refine BrM.f rfl ?_ | refine BrM.dec (fun _ => ?_) (fun _ => ?_) | refine BrM.mk (fun _ => ?_) (fun _ => ?_) | refine Ar.i64 (by omega) (by omega) ?_ | refine gO rfl ?_ | refine gP rfl (by repeat constructor) ?_) <;> conv => whnf) | (fail) | refine Nx.late ?_)
  refine Nx.loop (X := DgX) (DgI n) (fun x => x.m.natAbs)
    (fun x => [(0, iv x.m), (3, bv (decide (n < 0))), (4, sl x.A x.d.length x.c)]) (fun _ => []) [] (fun x => [(1, ownS 5 x.A x.d.length x.c 1 (u8s x.d))])
    ⟨n, [], none, 0⟩ ⟨by simp, hn, by simp⟩ ?_ ?_ ?_ ?_ ?_
  all_goals repeat (first | exact .nil _ | refine .cons rfl ?_ | refine .cons rfl rfl ?_ | refine .cons rfl rfl rfl ?_ | refine .cons' rfl (fun _ => rfl) ?_)
  intro x hx ih
  have hb := hx.b
  unfold I64n at hb
  have hxl := hx.len
  obtain ⟨r, hr⟩ : ∃ r : Nat, r = x.m.natAbs % 10 := ⟨_, rfl⟩
  obtain ⟨q, hq⟩ : ∃ q : Int, q = x.m.tdiv 10 := ⟨_, rfl⟩
  have hm : x.m.tmod 10 = (if x.m < 0 then -(r : Int) else (r : Int)) := by
    subst hr
    split
    · obtain ⟨k, hk⟩ : ∃ k : Nat, x.m = -(k : Int) := ⟨x.m.natAbs, by omega⟩
      rw [hk, Int.neg_tmod]; simp; rfl
    · obtain ⟨k, hk⟩ : ∃ k : Nat, x.m = (k : Int) := ⟨x.m.natAbs, by omega⟩
      rw [hk]; simp; rfl
  have hd : q.natAbs = x.m.natAbs / 10 := by rw [hq, Int.natAbs_tdiv]; rfl
  have hqr : inR .i64 q := ⟨by omega, by omega⟩
  have hq2 : IntKind.i64.wrap (x.m.tdiv 10) = q := by rw [← hq]; exact inR_wrap hqr
  have hdig : ((UInt8.ofNat (48 + x.m.natAbs % 10)).toNat : Int) = 48 + (r : Int) := by rw [dig_ofNat (by omega)]; omega
  have hstep := fun h0 => dg_step hx.e (h0 : ¬ x.m.natAbs < 10)
  have hlast := fun h0 => dg_last hx.e (h0 : x.m.natAbs < 10)
  rw [← hq] at hstep
  obtain ⟨d', hd'⟩ : ∃ d' : Str, d' = x.d ++ [UInt8.ofNat (48 + x.m.natAbs % 10)] := ⟨_, rfl⟩
  rw [← hd'] at hstep hlast
  have hdl : d'.length = x.d.length + 1 := by rw [hd', List.length_append]; rfl
  have hdu : u8s d' = u8s x.d ++ [.int .u8 (48 + (r : Int))] := by rw [hd', u8s_snoc _ _ hdig]
  have hr10 : r < 10 := by omega
  clear hr hq hd'
  refine go 200 ?_
  conv => whnf
  refine Nx.divI rfl (.inl ⟨rfl, hm⟩) rfl rfl (by decide) rfl ?_
  refine go 3 ?_
  conv => whnf
  refine Nx.joinR (E := [(0, iv x.m), (3, bv (decide (n < 0))), (4, sl x.A x.d.length x.c), (5, iv r)]) (M := []) (B := []) (R := [(1, ownS 5 x.A x.d.length x.c 1 (u8s x.d))]) (fun K => ?_) ?_
  · by_cases h0 : x.m < 0
    · rw [if_pos h0]
      by_cases hr0 : r = 0
      · subst hr0
        repeat' (first | (with_reducible refine Nx.weak K ?_ ?_ ?_ ?_) <;> (first | ((repeat (first | exact .nil _ | refine .cons rfl ?_ | refine .cons rfl rfl ?_ | refine .cons rfl rfl rfl ?_ | refine .cons' rfl (fun _ => rfl) ?_)); done) | omega | (dsimp only; omega) | (repeat (first | exact subE.nil _ | refine subE.cons rfl rfl ?_ | refine subE.cons' rfl (fun _ => rfl) ?_ | (refine subE.cons rfl ?_ ?_; · (simp; done))); done) | skip) | ((first | refine BrM.not (by omega) ?_ | refine BrM.t rfl ?_ | refine BrM.f rfl ?_ | refine BrM.dec (fun _ => ?_) (fun _ => ?_) | refine BrM.mk (fun _ => ?_) (fun _ => ?_) | refine Ar.i64 (by omega) (by omega) ?_ | refine gR rfl ?_ | refine gP rfl (by repeat constructor) ?_) <;> conv => whnf) | refine Nx.late ?_)
      · repeat' (first | (with_reducible refine Nx.weak K ?_ ?_ ?_ ?_) <;> (first | ((repeat (first | exact .nil _ | refine .cons rfl ?_ | refine .cons rfl rfl ?_ | refine .cons rfl rfl rfl ?_ | refine .cons' rfl (fun _ => rfl) ?_)); done) | omega | (dsimp only; omega) | (repeat (first | exact subE.nil _ | refine subE.cons rfl rfl ?_ | refine subE.cons' rfl (fun _ => rfl) ?_ | (refine subE.cons rfl ?_ ?_; · (simp; done))); done) | skip) | (refine atAr ?_; refine Ar.to (k := .i64) ((r : Int)) (by omega) ⟨by omega, by omega⟩ ?_; conv => whnf) | ((first | refine BrM.yes (by omega) ?_ | refine BrM.t rfl ?_ | refine BrM.f rfl ?_ | refine BrM.dec (fun _ => ?_) (fun _ => ?_) | refine BrM.mk (fun _ => ?_) (fun _ => ?_) | refine Ar.i64 (by omega) (by omega) ?_ | refine gR rfl ?_ | refine gP rfl (by repeat constructor) ?_) <;> conv => whnf) | refine Nx.late ?_)
    · rw [if_neg h0]
      repeat' (first | (with_reducible refine Nx.weak K ?_ ?_ ?_ ?_) <;> (first | ((repeat (first | exact .nil _ | refine .cons rfl ?_ | refine .cons rfl rfl ?_ | refine .cons rfl rfl rfl ?_ | refine .cons' rfl (fun _ => rfl) ?_)); done) | omega | (dsimp only; omega) | (repeat (first | exact subE.nil _ | refine subE.cons rfl rfl ?_ | refine subE.cons' rfl (fun _ => rfl) ?_ | (refine subE.cons rfl ?_ ?_; · (simp; done))); done) | skip) | ((first | refine BrM.not (by omega) ?_ | refine BrM.t rfl ?_ | refine BrM.f rfl ?_ | refine BrM.dec (fun _ => ?_) (fun _ => ?_) | refine BrM.mk (fun _ => ?_) (fun _ => ?_) | refine Ar.i64 (by omega) (by omega) ?_ | refine gR rfl ?_ | refine gP rfl (by repeat constructor) ?_) <;> conv => whnf) | refine Nx.late ?_)
  by_cases hq0 : q = 0
  · repeat' (first | ((first | refine BrM.yes (by omega) ?_ | refine BrM.t rfl ?_ | refine BrM.f rfl ?_ | refine BrM.dec (fun _ => ?_) (fun _ => ?_) | refine BrM.mk (fun _ => ?_) (fun _ => ?_) | refine Ar.i64 (by omega) (by omega) ?_ | refine gO rfl ?_ | refine gP rfl (by repeat constructor) ?_) <;> conv => whnf) | (refine atQuo ?_; refine Nx.divI rfl (.inr ⟨rfl, hq2⟩) rfl rfl (by decide) rfl ?_) | (refine atAr ?_; refine Ar.ok (k := .u8) ⟨by omega, by omega⟩ ?_; conv => whnf) | (refine atApp ?_; refine Nx.append 1 (sz := 1) (by_ := 1) (news := [.int .u8 (48+(r:Int))]) rfl rfl rfl rfl rfl Tryz.underlying180 rfl rfl rfl rfl rfl (by unfold maxLen; omega) (by omega) fun A' c'' => ?_) | refine Nx.late ?_)
    rw [← hdu, ← hdl]
    have hdl2 : d'.length ≤ 21 := by omega
    have hd2 := hlast (by omega)
    refine Nx.loop (X := Nat) (fun j => j ≤ d'.length) (fun j => j)
      (fun j => [(3, bv (decide (n < 0))), (4, sl A' d'.length c''), (6, sv (d'.drop j).reverse), (7, iv ((j : Int) - 1))]) (fun _ => []) [] (fun _ => [(1, ownS 5 A' d'.length c'' 1 (u8s d'))])
      d'.length (Nat.le_refl _) ?_ ?_ ?_ ?_ ?_
    · refine .cons rfl rfl (.cons rfl rfl (.cons rfl (by simp) (.cons rfl rfl (.nil _))))
    all_goals repeat (first | exact .nil _ | refine .cons rfl ?_ | refine .cons rfl rfl ?_ | refine .cons rfl rfl rfl ?_ | refine .cons' rfl (fun _ => rfl) ?_)
    intro j hj ih2
    refine Nx.fact 1 (p := d'.length ≤ c'') rfl (fun r h hs => (ownS_fit hs).1) fun hfit => ?_
    rcases j with _ | j
    · have hlr : (List.drop 0 d').reverse = decDigits n.natAbs := by rw [List.drop_zero, hd2]
      rw [hlr]
      by_cases hneg : n < 0
      · repeat' (first | ((first | refine BrM.yes (by omega) ?_ | refine BrM.not (by omega) ?_ | refine BrM.t rfl ?_ | refine BrM.f rfl ?_ | refine BrM.dec (fun _ => ?_) (fun _ => ?_) | refine BrM.mk (fun _ => ?_) (fun _ => ?_) | refine Ar.i64 (by omega) (by omega) ?_ | refine gO rfl ?_ | refine gP rfl (by repeat constructor) ?_) <;> conv => whnf) | (refine atAdd ?_; refine Nx.cat rfl rfl rfl rfl ((by simp; omega)) ?_) | (refine atRet ?_; refine Nx.ret [] Tryz.func46 rfl rfl ?_; (exact ⟨by rw [itoa_neg hneg]; rfl, rfl⟩)) | refine Nx.late ?_)
      · repeat' (first | ((first | refine BrM.yes (by omega) ?_ | refine BrM.not (by omega) ?_ | refine BrM.t rfl ?_ | refine BrM.f rfl ?_ | refine BrM.dec (fun _ => ?_) (fun _ => ?_) | refine BrM.mk (fun _ => ?_) (fun _ => ?_) | refine Ar.i64 (by omega) (by omega) ?_ | refine gO rfl ?_ | refine gP rfl (by repeat constructor) ?_) <;> conv => whnf) | (refine atRet ?_; refine Nx.ret [] Tryz.func46 rfl rfl ?_; (exact ⟨by rw [itoa_pos (by omega), show n.toNat = n.natAbs by omega]; rfl, rfl⟩)) | refine Nx.late ?_)
    · have e1 : ((j + 1 : Nat) : Int) - 1 = (j : Int) := by omega
      rw [e1]
      repeat' (first | ((first | refine BrM.yes (by omega) ?_ | refine BrM.t rfl ?_ | refine BrM.f rfl ?_ | refine BrM.dec (fun _ => ?_) (fun _ => ?_) | refine BrM.mk (fun _ => ?_) (fun _ => ?_) | refine Ar.i64 (by omega) (by omega) ?_ | refine gO rfl ?_ | refine gP rfl (by repeat constructor) ?_) <;> conv => whnf) | (refine atSlice ?_; refine Nx.reslice (l := j) (h := (j+1)) (m := c'') rfl rfl Tryz.underlying180 rfl rfl (rfl) (rfl) (rfl) (by simp) (by omega) (by omega) (by omega) ?_) | (refine atConv ?_; refine Nx.bstr 1 rfl rfl Tryz.underlying180 Tryz.underlying5 Tryz.underlying9 rfl rfl ((one_of_drop hj ▸ Sees.part (ownS_sees _ _ _ _ _ _) (by omega) (by omega) (by omega))) (by omega) ?_) | (refine atAdd ?_; refine Nx.cat rfl rfl rfl rfl ((by simp; omega)) ?_) | refine Nx.late ?_)
      refine (ih2 j (by omega) (by omega)).weak ?_ ?_ ?_ ?_
      · refine .cons rfl rfl (.cons rfl rfl (.cons rfl (by rw [drop_rev hj]) (.cons rfl rfl (.nil _))))
      all_goals repeat (first | exact .nil _ | refine .cons rfl ?_ | refine .cons rfl rfl ?_ | refine .cons rfl rfl rfl ?_ | refine .cons' rfl (fun _ => rfl) ?_)
  · repeat' (first | ((first | refine BrM.not (by omega) ?_ | refine BrM.t rfl ?_ | refine BrM.f rfl ?_ | refine BrM.dec (fun _ => ?_) (fun _ => ?_) | refine BrM.mk (fun _ => ?_) (fun _ => ?_) | refine Ar.i64 (by omega) (by omega) ?_ | refine gO rfl ?_ | refine gP rfl (by repeat constructor) ?_) <;> conv => whnf) | (refine atQuo ?_; refine Nx.divI rfl (.inr ⟨rfl, hq2⟩) rfl rfl (by decide) rfl ?_) | (refine atAr ?_; refine Ar.ok (k := .u8) ⟨by omega, by omega⟩ ?_; conv => whnf) | (refine atApp ?_; refine Nx.append 1 (sz := 1) (by_ := 1) (news := [.int .u8 (48+(r:Int))]) rfl rfl rfl rfl rfl Tryz.underlying180 rfl rfl rfl rfl rfl (by unfold maxLen; omega) (by omega) fun A' c'' => ?_) | refine Nx.late ?_)
    rw [← hdu, ← hdl]
    have hl2 := congrArg List.length (hstep (by omega))
    rw [List.length_append, List.length_reverse] at hl2
    refine (ih ⟨q, d', A', c''⟩ ⟨hstep (by omega), hqr, by show d'.length ≤ 20; omega⟩ (by show q.natAbs < _; omega)).weak ?_ ?_ ?_ ?_
    all_goals repeat (first | exact .nil _ | refine .cons rfl ?_ | refine .cons rfl rfl ?_ | refine .cons rfl rfl rfl ?_ | refine .cons' rfl (fun _ => rfl) ?_)
theorem itoa_len (n : Int) (hn : I64n n) : (itoa n).length ≤ 21 := by
  unfold I64n at hn
  have := decDigits_len 20 n.natAbs (by omega) (by omega)
  by_cases h : n < 0
  · rw [itoa_neg h]; simp; omega
  · rw [itoa_pos (by omega), show n.toNat = n.natAbs by omega]; omega
def numS (n : Int) : Str := 32 :: itoa n
theorem num_ok (n : Int) (hn : I64n n) : FnOk Tryz.prog 48 [.int .i64 n] [] (fun v Q => v = str (numS n) ∧ Q = []) := by
  have hl := itoa_len n hn
  refine FnOk.start Tryz.func48 rfl rfl rfl rfl fun F os tape output => ?_
  refine go 200 ?_
  conv => whnf
  repeat' (first | ((first | refine BrM.t rfl ?_ | refine BrM.f rfl ?_ | refine BrM.dec (fun _ => ?_) (fun _ => ?_) | refine BrM.mk (fun _ => ?_) (fun _ => ?_) | refine Ar.i64 (by omega) (by omega) ?_ | refine gO rfl ?_ | refine gP rfl (by repeat constructor) ?_) <;> conv => whnf) | (refine atCall 46 ?_; refine cE [] [] rfl rfl rfl rfl rfl ((Digits_ok n hn)) rfl ?_) | (refine atAdd ?_; refine Nx.cat rfl rfl rfl rfl ((by simp; omega)) ?_) | (refine atRet ?_; refine Nx.ret [] Tryz.func48 rfl rfl ?_; (exact ⟨rfl, rfl⟩)) | refine Nx.late ?_)
/-- A deed's name. -/
def deedW (d : Int) : Str := if 0 ≤ d ∧ d < 8 then deedsL.getD d.toNat [] else [110, 111, 110, 101]
theorem Deed_ok (d : Int) : FnOk Tryz.prog 47 [.int .i64 d] [] (fun v Q => v = str (deedW d) ∧ Q = []) := by
  by_cases h : 0 ≤ d ∧ d < 8
  · have e : deedW d = deedsL.getD d.toNat [] := by unfold deedW; rw [if_pos h]
    rw [e]
    have hc : d = 0 ∨ d = 1 ∨ d = 2 ∨ d = 3 ∨ d = 4 ∨ d = 5 ∨ d = 6 ∨ d = 7 := by omega
    rcases hc with rfl | rfl | rfl | rfl | rfl | rfl | rfl | rfl
    · refine FnOk.start Tryz.func47 rfl rfl rfl rfl fun F os tape output => ?_
      refine go 200 ?_
      conv => whnf
      repeat' (first | ((first | refine BrM.t rfl ?_ | refine BrM.f rfl ?_ | refine BrM.dec (fun _ => ?_) (fun _ => ?_) | refine BrM.mk (fun _ => ?_) (fun _ => ?_) | refine Ar.i64 (by omega) (by omega) ?_ | refine gO rfl ?_ | refine gP rfl (by repeat constructor) ?_) <;> conv => whnf) | (refine atIdx ?_; refine Nx.bind (l := 4) (fun _ => ?_) rfl; refine Nx.lidx (q := 0) (sz := 1) rfl rfl rfl rfl Tryz.underlying39 rfl rfl (by omega) (by omega) (by omega) ?_) | (refine atLoad ?_; refine Nx.loadAt 4 rfl rfl rfl rfl rfl rfl (rfl) ?_) | (refine atRet ?_; refine Nx.ret [] Tryz.func47 rfl rfl ?_; (exact ⟨rfl, rfl⟩)) | refine Nx.late ?_)
    · refine FnOk.start Tryz.func47 rfl rfl rfl rfl fun F os tape output => ?_
      refine go 200 ?_
      conv => whnf
      repeat' (first | ((first | refine BrM.t rfl ?_ | refine BrM.f rfl ?_ | refine BrM.dec (fun _ => ?_) (fun _ => ?_) | refine BrM.mk (fun _ => ?_) (fun _ => ?_) | refine Ar.i64 (by omega) (by omega) ?_ | refine gO rfl ?_ | refine gP rfl (by repeat constructor) ?_) <;> conv => whnf) | (refine atIdx ?_; refine Nx.bind (l := 4) (fun _ => ?_) rfl; refine Nx.lidx (q := 1) (sz := 1) rfl rfl rfl rfl Tryz.underlying39 rfl rfl (by omega) (by omega) (by omega) ?_) | (refine atLoad ?_; refine Nx.loadAt 4 rfl rfl rfl rfl rfl rfl (rfl) ?_) | (refine atRet ?_; refine Nx.ret [] Tryz.func47 rfl rfl ?_; (exact ⟨rfl, rfl⟩)) | refine Nx.late ?_)
    · refine FnOk.start Tryz.func47 rfl rfl rfl rfl fun F os tape output => ?_
      refine go 200 ?_
      conv => whnf
      repeat' (first | ((first | refine BrM.t rfl ?_ | refine BrM.f rfl ?_ | refine BrM.dec (fun _ => ?_) (fun _ => ?_) | refine BrM.mk (fun _ => ?_) (fun _ => ?_) | refine Ar.i64 (by omega) (by omega) ?_ | refine gO rfl ?_ | refine gP rfl (by repeat constructor) ?_) <;> conv => whnf) | (refine atIdx ?_; refine Nx.bind (l := 4) (fun _ => ?_) rfl; refine Nx.lidx (q := 2) (sz := 1) rfl rfl rfl rfl Tryz.underlying39 rfl rfl (by omega) (by omega) (by omega) ?_) | (refine atLoad ?_; refine Nx.loadAt 4 rfl rfl rfl rfl rfl rfl (rfl) ?_) | (refine atRet ?_; refine Nx.ret [] Tryz.func47 rfl rfl ?_; (exact ⟨rfl, rfl⟩)) | refine Nx.late ?_)
    · refine FnOk.start Tryz.func47 rfl rfl rfl rfl fun F os tape output => ?_
      refine go 200 ?_
      conv => whnf
      repeat' (first | ((first | refine BrM.t rfl ?_ | refine BrM.f rfl ?_ | refine BrM.dec (fun _ => ?_) (fun _ => ?_) | refine BrM.mk (fun _ => ?_) (fun _ => ?_) | refine Ar.i64 (by omega) (by omega) ?_ | refine gO rfl ?_ | refine gP rfl (by repeat constructor) ?_) <;> conv => whnf) | (refine atIdx ?_; refine Nx.bind (l := 4) (fun _ => ?_) rfl; refine Nx.lidx (q := 3) (sz := 1) rfl rfl rfl rfl Tryz.underlying39 rfl rfl (by omega) (by omega) (by omega) ?_) | (refine atLoad ?_; refine Nx.loadAt 4 rfl rfl rfl rfl rfl rfl (rfl) ?_) | (refine atRet ?_; refine Nx.ret [] Tryz.func47 rfl rfl ?_; (exact ⟨rfl, rfl⟩)) | refine Nx.late ?_)
    · refine FnOk.start Tryz.func47 rfl rfl rfl rfl fun F os tape output => ?_
      refine go 200 ?_
      conv => whnf
      repeat' (first | ((first | refine BrM.t rfl ?_ | refine BrM.f rfl ?_ | refine BrM.dec (fun _ => ?_) (fun _ => ?_) | refine BrM.mk (fun _ => ?_) (fun _ => ?_) | refine Ar.i64 (by omega) (by omega) ?_ | refine gO rfl ?_ | refine gP rfl (by repeat constructor) ?_) <;> conv => whnf) | (refine atIdx ?_; refine Nx.bind (l := 4) (fun _ => ?_) rfl; refine Nx.lidx (q := 4) (sz := 1) rfl rfl rfl rfl Tryz.underlying39 rfl rfl (by omega) (by omega) (by omega) ?_) | (refine atLoad ?_; refine Nx.loadAt 4 rfl rfl rfl rfl rfl rfl (rfl) ?_) | (refine atRet ?_; refine Nx.ret [] Tryz.func47 rfl rfl ?_; (exact ⟨rfl, rfl⟩)) | refine Nx.late ?_)
    · refine FnOk.start Tryz.func47 rfl rfl rfl rfl fun F os tape output => ?_
      refine go 200 ?_
      conv => whnf
      repeat' (first | ((first | refine BrM.t rfl ?_ | refine BrM.f rfl ?_ | refine BrM.dec (fun _ => ?_) (fun _ => ?_) | refine BrM.mk (fun _ => ?_) (fun _ => ?_) | refine Ar.i64 (by omega) (by omega) ?_ | refine gO rfl ?_ | refine gP rfl (by repeat constructor) ?_) <;> conv => whnf) | (refine atIdx ?_; refine Nx.bind (l := 4) (fun _ => ?_) rfl; refine Nx.lidx (q := 5) (sz := 1) rfl rfl rfl rfl Tryz.underlying39 rfl rfl (by omega) (by omega) (by omega) ?_) | (refine atLoad ?_; refine Nx.loadAt 4 rfl rfl rfl rfl rfl rfl (rfl) ?_) | (refine atRet ?_; refine Nx.ret [] Tryz.func47 rfl rfl ?_; (exact ⟨rfl, rfl⟩)) | refine Nx.late ?_)
    · refine FnOk.start Tryz.func47 rfl rfl rfl rfl fun F os tape output => ?_
      refine go 200 ?_
      conv => whnf
      repeat' (first | ((first | refine BrM.t rfl ?_ | refine BrM.f rfl ?_ | refine BrM.dec (fun _ => ?_) (fun _ => ?_) | refine BrM.mk (fun _ => ?_) (fun _ => ?_) | refine Ar.i64 (by omega) (by omega) ?_ | refine gO rfl ?_ | refine gP rfl (by repeat constructor) ?_) <;> conv => whnf) | (refine atIdx ?_; refine Nx.bind (l := 4) (fun _ => ?_) rfl; refine Nx.lidx (q := 6) (sz := 1) rfl rfl rfl rfl Tryz.underlying39 rfl rfl (by omega) (by omega) (by omega) ?_) | (refine atLoad ?_; refine Nx.loadAt 4 rfl rfl rfl rfl rfl rfl (rfl) ?_) | (refine atRet ?_; refine Nx.ret [] Tryz.func47 rfl rfl ?_; (exact ⟨rfl, rfl⟩)) | refine Nx.late ?_)
    · refine FnOk.start Tryz.func47 rfl rfl rfl rfl fun F os tape output => ?_
      refine go 200 ?_
      conv => whnf
      repeat' (first | ((first | refine BrM.t rfl ?_ | refine BrM.f rfl ?_ | refine BrM.dec (fun _ => ?_) (fun _ => ?_) | refine BrM.mk (fun _ => ?_) (fun _ => ?_) | refine Ar.i64 (by omega) (by omega) ?_ | refine gO rfl ?_ | refine gP rfl (by repeat constructor) ?_) <;> conv => whnf) | (refine atIdx ?_; refine Nx.bind (l := 4) (fun _ => ?_) rfl; refine Nx.lidx (q := 7) (sz := 1) rfl rfl rfl rfl Tryz.underlying39 rfl rfl (by omega) (by omega) (by omega) ?_) | (refine atLoad ?_; refine Nx.loadAt 4 rfl rfl rfl rfl rfl rfl (rfl) ?_) | (refine atRet ?_; refine Nx.ret [] Tryz.func47 rfl rfl ?_; (exact ⟨rfl, rfl⟩)) | refine Nx.late ?_)
  · have e : deedW d = [110, 111, 110, 101] := by unfold deedW; rw [if_neg h]
    rw [e]
    by_cases h0 : d < 0
    · refine FnOk.start Tryz.func47 rfl rfl rfl rfl fun F os tape output => ?_
      refine go 200 ?_
      conv => whnf
      repeat' (first | ((first | refine BrM.yes (by omega) ?_ | refine BrM.t rfl ?_ | refine BrM.f rfl ?_ | refine BrM.dec (fun _ => ?_) (fun _ => ?_) | refine BrM.mk (fun _ => ?_) (fun _ => ?_) | refine Ar.i64 (by omega) (by omega) ?_ | refine gO rfl ?_ | refine gP rfl (by repeat constructor) ?_) <;> conv => whnf) | (refine atRet ?_; refine Nx.ret [] Tryz.func47 rfl rfl ?_; (exact ⟨rfl, rfl⟩)) | refine Nx.late ?_)
    · refine FnOk.start Tryz.func47 rfl rfl rfl rfl fun F os tape output => ?_
      refine go 200 ?_
      conv => whnf
      repeat' (first | ((first | refine BrM.yes (by omega) ?_ | refine BrM.not (by omega) ?_ | refine BrM.t rfl ?_ | refine BrM.f rfl ?_ | refine BrM.dec (fun _ => ?_) (fun _ => ?_) | refine BrM.mk (fun _ => ?_) (fun _ => ?_) | refine Ar.i64 (by omega) (by omega) ?_ | refine gO rfl ?_ | refine gP rfl (by repeat constructor) ?_) <;> conv => whnf) | (refine atRet ?_; refine Nx.ret [] Tryz.func47 rfl rfl ?_; (exact ⟨rfl, rfl⟩)) | refine Nx.late ?_)
theorem number_ok {m : PH} (hG : GlN m) (n : Int) (hn : I64n n) : FnOk Tryz.prog 50 [.int .i64 n] [roAll m] (fun v Q => v = str (itoa n) ∧ Q = [roAll m]) := by
  refine FnOk.start Tryz.func50 rfl rfl rfl rfl fun F os tape output => ?_
  refine go 200 ?_
  conv => whnf
  repeat' (first | ((first | refine BrM.t rfl ?_ | refine BrM.f rfl ?_ | refine BrM.dec (fun _ => ?_) (fun _ => ?_) | refine BrM.mk (fun _ => ?_) (fun _ => ?_) | refine Ar.i64 (by omega) (by omega) ?_ | refine gO rfl ?_ | refine gP rfl (by repeat constructor) ?_) <;> conv => whnf) | (refine atCall 106 ?_; refine cE [0] [0] rfl rfl rfl rfl rfl ((FormatInt_ok hG n hn)) rfl ?_) | (refine atRet ?_; refine Nx.ret [0] Tryz.func50 rfl rfl ?_; (exact ⟨rfl, rfl⟩)) | refine Nx.late ?_)
end Go.Proofs.YtccmdlmlbkpjjaaGreatDoor

/- A note as a line: the document's, and the program's. -/
namespace Go.Proofs.YtccmdlmlbkpjjaaGreatDoor
open Go.RowKit Go.Lib
set_option maxRecDepth 20000
set_option maxHeartbeats 4000000
section
variable {g : Cx} {env : Env} {mem : Mem} {bnd : Bnd} {L : Res} {N : Act → World → Prop}
theorem Nx.realS (s : Nat) {l o n c b : Nat} (hl : look env s = some (.c (.locs l o n c))) (hb : lookB bnd l = some b) (h : Nx g ((s, .c (.v (.slice (some ⟨b, o, none⟩) n c))) :: env) mem bnd L N) : Nx g env mem bnd L N := by
  intro β a w hr
  refine h β a w ⟨hr.defers, hr.size, fun k x hx => ?_, hr.bnd, hr.os, hr.tape, hr.output, hr.sat⟩
  rw [look_cons] at hx
  split at hx
  · rename_i e
    subst e
    cases hx
    rw [hr.env s _ hl]
    simp [SV.den, Ce.den, hr.bnd l b hb]
  · exact hr.env k x hx
end
theorem own_blk {e : TypeId} {b : Nat} {cells : List Value} (h : cells.length ≤ maxLen) : ∀ r m, blk b (.cells cells.toArray e (0, 0)) r m → ownS e (some ⟨b, 0, none⟩) cells.length cells.length 1 cells r m := by
  intro r m hb
  refine ⟨by simp, .inr ⟨_, _, rfl, hb, Nat.le_refl _, h, by simp, by rw [Nat.mul_one]; exact List.take_of_length_le (by simp)⟩⟩
theorem atReg (i : Nat) {g : Cx} {env : Env} {mem : Mem} {bnd : Bnd} {L : Res} {ops : Array Oper} {b : Bool} {k : List Item} (h : Nx g env mem bnd L (RunC g (.code (.region i ops b) :: k))) : Nx g env mem bnd L (RunC g (.code (.region i ops b) :: k)) := h
attribute [local irreducible] Nx Ar BrM headC OneC HoC AftC planHead endF
structure Note where
  who : Int
  ring : Int
  deed : Int
  lo : Int
  seq : Int
  key : Int
  val : Int
  code : Int
  deriving DecidableEq
def Note.enc (n : Note) : List Value := [.int .i64 n.who, .int .i64 n.ring, .int .i64 n.deed, .int .i64 n.lo, .int .i64 n.seq, .int .i64 n.key, .int .i64 n.val, .int .i64 n.code]
structure Note.wf (n : Note) : Prop where
  who : I64n n.who
  ring : I64n n.ring
  deed : I64n n.deed
  lo : I64n n.lo
  seq : I64n n.seq
  key : I64n n.key
  val : I64n n.val
  code : I64n n.code
def baseS (n : Note) : Str := ((itoa n.who ++ [32]) ++ deedW n.deed) ++ numS n.ring
/-- A note's line. -/
def noteS (n : Note) : Str :=
  if n.deed = 1 ∨ n.deed = 3 then (baseS n ++ numS n.lo) ++ numS n.seq
  else if n.deed = 2 then (((baseS n ++ numS n.seq) ++ numS n.key) ++ [58]) ++ itoa n.val
  else if n.deed = 4 then (if n.code = 0 then ((baseS n ++ numS 0) ++ numS n.lo) ++ numS n.seq else baseS n ++ numS n.code)
  else if n.deed = 5 ∨ n.deed = 6 ∨ n.deed = 7 then baseS n ++ numS n.seq
  else baseS n
theorem deedW_len (d : Int) : (deedW d).length ≤ 8 := by
  unfold deedW
  split
  · rename_i h
    have hc : d = 0 ∨ d = 1 ∨ d = 2 ∨ d = 3 ∨ d = 4 ∨ d = 5 ∨ d = 6 ∨ d = 7 := by omega
    rcases hc with rfl | rfl | rfl | rfl | rfl | rfl | rfl | rfl <;> decide
  · decide
theorem numS_len (n : Int) (hn : I64n n) : (numS n).length ≤ 22 := by have := itoa_len n hn; unfold numS; simp; omega
theorem I64n_zero : I64n 0 := by unfold I64n; omega
theorem refNote_ok (n : Note) (hw : n.wf) : FnOk Tryz.prog 16 [.agg n.enc.toArray] [] (fun v Q => v = str (noteS n) ∧ Q = []) := by
  have l1 := itoa_len _ hw.who
  have l2 := deedW_len n.deed
  have l3 := numS_len _ hw.ring
  have l4 := numS_len _ hw.lo
  have l5 := numS_len _ hw.seq
  have l6 := numS_len _ hw.key
  have l7 := itoa_len _ hw.val
  have l8 := numS_len _ hw.code
  have l9 := numS_len _ I64n_zero
  obtain ⟨who, ring, deed, lo, seq, key, val, code⟩ := n
  obtain ⟨h1, h2, h3, h4, h5, h6, h7, h8⟩ := hw
  dsimp only at *
  have hc : deed = 1 ∨ deed = 2 ∨ deed = 3 ∨ deed = 4 ∨ deed = 5 ∨ deed = 6 ∨ deed = 7 ∨ ¬(1 ≤ deed ∧ deed ≤ 7) := by omega
  rcases hc with rfl | rfl | rfl | rfl | rfl | rfl | rfl | hd
  · rw [show noteS ⟨who, ring, 1, lo, seq, key, val, code⟩ = (baseS ⟨who, ring, 1, lo, seq, key, val, code⟩ ++ numS lo) ++ numS seq from rfl]
    refine FnOk.start Tryz.func16 rfl rfl rfl rfl fun F os tape output => ?_
    refine go 200 ?_
    conv => whnf
    repeat' (first | ((first | refine BrM.t rfl ?_ | refine BrM.f rfl ?_ | refine BrM.dec (fun _ => ?_) (fun _ => ?_) | refine BrM.mk (fun _ => ?_) (fun _ => ?_) | refine Ar.i64 (by omega) (by omega) ?_ | refine gO rfl ?_ | refine gP rfl (by repeat constructor) ?_) <;> conv => whnf) | (refine Nx.bind (l := 1) (fun _ => ?_) rfl; refine dN 1 [] [0,5,16,21,32,37,10,12,26,28,42,44,48] rfl (by kernel_rfl) rfl (by kernel_rfl) rfl (by repeat constructor) rfl ?_) | (refine dN 5 [] [0,4,9,20,25,14,16,30,32,36] rfl (by kernel_rfl) rfl (by kernel_rfl) rfl (by repeat constructor) rfl ?_) | (refine dN 7 [] [0,4,9,20,24,29,44,48,53,14,16,34,36,40,58,60,64] rfl (by kernel_rfl) rfl (by kernel_rfl) rfl (by repeat constructor) rfl ?_) | (refine dN 10 [] [0,12,17,28,33,6,8,22,24,38,40,44] rfl (by kernel_rfl) rfl (by kernel_rfl) rfl (by repeat constructor) rfl ?_) | (refine atCall 46 ?_; refine cE [] [] rfl rfl rfl rfl rfl ((Digits_ok _ (by assumption))) rfl ?_) | (refine atCall 47 ?_; refine cE [] [] rfl rfl rfl rfl rfl ((Deed_ok 1)) rfl ?_) | (refine atCall 48 ?_; refine cE [] [] rfl rfl rfl rfl rfl ((num_ok _ (by first | assumption | exact I64n_zero))) rfl ?_) | (refine atHoAdd ?_; refine Nx.hoCat rfl rfl rfl rfl ((by simp; omega)) ?_) | (refine atAdd ?_; refine Nx.cat rfl rfl rfl rfl ((by simp; omega)) ?_) | (refine atAftK ?_; refine Nx.keepN [] rfl (by repeat constructor) (by repeat constructor) rfl ?_) | (refine atRet ?_; refine Nx.ret [] Tryz.func16 rfl rfl ?_; (exact ⟨rfl, rfl⟩)) | refine Nx.late ?_)
  · rw [show noteS ⟨who, ring, 2, lo, seq, key, val, code⟩ = (((baseS ⟨who, ring, 2, lo, seq, key, val, code⟩ ++ numS seq) ++ numS key) ++ [58]) ++ itoa val from rfl]
    refine FnOk.start Tryz.func16 rfl rfl rfl rfl fun F os tape output => ?_
    refine go 200 ?_
    conv => whnf
    repeat' (first | ((first | refine BrM.t rfl ?_ | refine BrM.f rfl ?_ | refine BrM.dec (fun _ => ?_) (fun _ => ?_) | refine BrM.mk (fun _ => ?_) (fun _ => ?_) | refine Ar.i64 (by omega) (by omega) ?_ | refine gO rfl ?_ | refine gP rfl (by repeat constructor) ?_) <;> conv => whnf) | (refine Nx.bind (l := 1) (fun _ => ?_) rfl; refine dN 1 [] [0,5,16,21,32,37,10,12,26,28,42,44,48] rfl (by kernel_rfl) rfl (by kernel_rfl) rfl (by repeat constructor) rfl ?_) | (refine dN 5 [] [0,4,9,20,25,14,16,30,32,36] rfl (by kernel_rfl) rfl (by kernel_rfl) rfl (by repeat constructor) rfl ?_) | (refine dN 7 [] [0,4,9,20,24,29,44,48,53,14,16,34,36,40,58,60,64] rfl (by kernel_rfl) rfl (by kernel_rfl) rfl (by repeat constructor) rfl ?_) | (refine dN 10 [] [0,12,17,28,33,6,8,22,24,38,40,44] rfl (by kernel_rfl) rfl (by kernel_rfl) rfl (by repeat constructor) rfl ?_) | (refine atCall 46 ?_; refine cE [] [] rfl rfl rfl rfl rfl ((Digits_ok _ (by assumption))) rfl ?_) | (refine atCall 47 ?_; refine cE [] [] rfl rfl rfl rfl rfl ((Deed_ok 2)) rfl ?_) | (refine atCall 48 ?_; refine cE [] [] rfl rfl rfl rfl rfl ((num_ok _ (by first | assumption | exact I64n_zero))) rfl ?_) | (refine atHoAdd ?_; refine Nx.hoCat rfl rfl rfl rfl ((by simp; omega)) ?_) | (refine atAdd ?_; refine Nx.cat rfl rfl rfl rfl ((by simp; omega)) ?_) | (refine atAftK ?_; refine Nx.keepN [] rfl (by repeat constructor) (by repeat constructor) rfl ?_) | (refine atRet ?_; refine Nx.ret [] Tryz.func16 rfl rfl ?_; (exact ⟨rfl, rfl⟩)) | refine Nx.late ?_)
  · rw [show noteS ⟨who, ring, 3, lo, seq, key, val, code⟩ = (baseS ⟨who, ring, 3, lo, seq, key, val, code⟩ ++ numS lo) ++ numS seq from rfl]
    refine FnOk.start Tryz.func16 rfl rfl rfl rfl fun F os tape output => ?_
    refine go 200 ?_
    conv => whnf
    repeat' (first | ((first | refine BrM.t rfl ?_ | refine BrM.f rfl ?_ | refine BrM.dec (fun _ => ?_) (fun _ => ?_) | refine BrM.mk (fun _ => ?_) (fun _ => ?_) | refine Ar.i64 (by omega) (by omega) ?_ | refine gO rfl ?_ | refine gP rfl (by repeat constructor) ?_) <;> conv => whnf) | (refine Nx.bind (l := 1) (fun _ => ?_) rfl; refine dN 1 [] [0,5,16,21,32,37,10,12,26,28,42,44,48] rfl (by kernel_rfl) rfl (by kernel_rfl) rfl (by repeat constructor) rfl ?_) | (refine dN 5 [] [0,4,9,20,25,14,16,30,32,36] rfl (by kernel_rfl) rfl (by kernel_rfl) rfl (by repeat constructor) rfl ?_) | (refine dN 7 [] [0,4,9,20,24,29,44,48,53,14,16,34,36,40,58,60,64] rfl (by kernel_rfl) rfl (by kernel_rfl) rfl (by repeat constructor) rfl ?_) | (refine dN 10 [] [0,12,17,28,33,6,8,22,24,38,40,44] rfl (by kernel_rfl) rfl (by kernel_rfl) rfl (by repeat constructor) rfl ?_) | (refine atCall 46 ?_; refine cE [] [] rfl rfl rfl rfl rfl ((Digits_ok _ (by assumption))) rfl ?_) | (refine atCall 47 ?_; refine cE [] [] rfl rfl rfl rfl rfl ((Deed_ok 3)) rfl ?_) | (refine atCall 48 ?_; refine cE [] [] rfl rfl rfl rfl rfl ((num_ok _ (by first | assumption | exact I64n_zero))) rfl ?_) | (refine atHoAdd ?_; refine Nx.hoCat rfl rfl rfl rfl ((by simp; omega)) ?_) | (refine atAdd ?_; refine Nx.cat rfl rfl rfl rfl ((by simp; omega)) ?_) | (refine atAftK ?_; refine Nx.keepN [] rfl (by repeat constructor) (by repeat constructor) rfl ?_) | (refine atRet ?_; refine Nx.ret [] Tryz.func16 rfl rfl ?_; (exact ⟨rfl, rfl⟩)) | refine Nx.late ?_)
  · by_cases hz : code = 0
    · subst hz
      rw [show noteS ⟨who, ring, 4, lo, seq, key, val, 0⟩ = ((baseS ⟨who, ring, 4, lo, seq, key, val, 0⟩ ++ numS 0) ++ numS lo) ++ numS seq from rfl]
      refine FnOk.start Tryz.func16 rfl rfl rfl rfl fun F os tape output => ?_
      refine go 200 ?_
      conv => whnf
      repeat' (first | ((first | refine BrM.t rfl ?_ | refine BrM.f rfl ?_ | refine BrM.dec (fun _ => ?_) (fun _ => ?_) | refine BrM.mk (fun _ => ?_) (fun _ => ?_) | refine Ar.i64 (by omega) (by omega) ?_ | refine gO rfl ?_ | refine gP rfl (by repeat constructor) ?_) <;> conv => whnf) | (refine Nx.bind (l := 1) (fun _ => ?_) rfl; refine dN 1 [] [0,5,16,21,32,37,10,12,26,28,42,44,48] rfl (by kernel_rfl) rfl (by kernel_rfl) rfl (by repeat constructor) rfl ?_) | (refine dN 5 [] [0,4,9,20,25,14,16,30,32,36] rfl (by kernel_rfl) rfl (by kernel_rfl) rfl (by repeat constructor) rfl ?_) | (refine dN 7 [] [0,4,9,20,24,29,44,48,53,14,16,34,36,40,58,60,64] rfl (by kernel_rfl) rfl (by kernel_rfl) rfl (by repeat constructor) rfl ?_) | (refine dN 10 [] [0,12,17,28,33,6,8,22,24,38,40,44] rfl (by kernel_rfl) rfl (by kernel_rfl) rfl (by repeat constructor) rfl ?_) | (refine atCall 46 ?_; refine cE [] [] rfl rfl rfl rfl rfl ((Digits_ok _ (by assumption))) rfl ?_) | (refine atCall 47 ?_; refine cE [] [] rfl rfl rfl rfl rfl ((Deed_ok 4)) rfl ?_) | (refine atCall 48 ?_; refine cE [] [] rfl rfl rfl rfl rfl ((num_ok _ (by first | assumption | exact I64n_zero))) rfl ?_) | (refine atHoAdd ?_; refine Nx.hoCat rfl rfl rfl rfl ((by simp; omega)) ?_) | (refine atAdd ?_; refine Nx.cat rfl rfl rfl rfl ((by simp; omega)) ?_) | (refine atAftK ?_; refine Nx.keepN [] rfl (by repeat constructor) (by repeat constructor) rfl ?_) | (refine atRet ?_; refine Nx.ret [] Tryz.func16 rfl rfl ?_; (exact ⟨rfl, rfl⟩)) | refine Nx.late ?_)
    · rw [show noteS ⟨who, ring, 4, lo, seq, key, val, code⟩ = baseS ⟨who, ring, 4, lo, seq, key, val, code⟩ ++ numS code from if_neg hz]
      refine FnOk.start Tryz.func16 rfl rfl rfl rfl fun F os tape output => ?_
      refine go 200 ?_
      conv => whnf
      repeat' (first | ((first | refine BrM.not (by omega) ?_ | refine BrM.t rfl ?_ | refine BrM.f rfl ?_ | refine BrM.dec (fun _ => ?_) (fun _ => ?_) | refine BrM.mk (fun _ => ?_) (fun _ => ?_) | refine Ar.i64 (by omega) (by omega) ?_ | refine gO rfl ?_ | refine gP rfl (by repeat constructor) ?_) <;> conv => whnf) | (refine Nx.bind (l := 1) (fun _ => ?_) rfl; refine dN 1 [] [0,5,16,21,32,37,10,12,26,28,42,44,48] rfl (by kernel_rfl) rfl (by kernel_rfl) rfl (by repeat constructor) rfl ?_) | (refine atCall 46 ?_; refine cE [] [] rfl rfl rfl rfl rfl ((Digits_ok _ (by assumption))) rfl ?_) | (refine atCall 47 ?_; refine cE [] [] rfl rfl rfl rfl rfl ((Deed_ok 4)) rfl ?_) | (refine atCall 48 ?_; refine cE [] [] rfl rfl rfl rfl rfl ((num_ok _ (by first | assumption | exact I64n_zero))) rfl ?_) | (refine atHoAdd ?_; refine Nx.hoCat rfl rfl rfl rfl ((by simp; omega)) ?_) | (refine atAdd ?_; refine Nx.cat rfl rfl rfl rfl ((by simp; omega)) ?_) | (refine atAftK ?_; refine Nx.keepN [] rfl (by repeat constructor) (by repeat constructor) rfl ?_) | (refine atRet ?_; refine Nx.ret [] Tryz.func16 rfl rfl ?_; (exact ⟨rfl, rfl⟩)) | refine Nx.late ?_)
  · rw [show noteS ⟨who, ring, 5, lo, seq, key, val, code⟩ = baseS ⟨who, ring, 5, lo, seq, key, val, code⟩ ++ numS seq from rfl]
    refine FnOk.start Tryz.func16 rfl rfl rfl rfl fun F os tape output => ?_
    refine go 200 ?_
    conv => whnf
    repeat' (first | ((first | refine BrM.t rfl ?_ | refine BrM.f rfl ?_ | refine BrM.dec (fun _ => ?_) (fun _ => ?_) | refine BrM.mk (fun _ => ?_) (fun _ => ?_) | refine Ar.i64 (by omega) (by omega) ?_ | refine gO rfl ?_ | refine gP rfl (by repeat constructor) ?_) <;> conv => whnf) | (refine Nx.bind (l := 1) (fun _ => ?_) rfl; refine dN 1 [] [0,5,16,21,32,37,10,12,26,28,42,44,48] rfl (by kernel_rfl) rfl (by kernel_rfl) rfl (by repeat constructor) rfl ?_) | (refine dN 5 [] [0,4,9,20,25,14,16,30,32,36] rfl (by kernel_rfl) rfl (by kernel_rfl) rfl (by repeat constructor) rfl ?_) | (refine dN 7 [] [0,4,9,20,24,29,44,48,53,14,16,34,36,40,58,60,64] rfl (by kernel_rfl) rfl (by kernel_rfl) rfl (by repeat constructor) rfl ?_) | (refine dN 10 [] [0,12,17,28,33,6,8,22,24,38,40,44] rfl (by kernel_rfl) rfl (by kernel_rfl) rfl (by repeat constructor) rfl ?_) | (refine atCall 46 ?_; refine cE [] [] rfl rfl rfl rfl rfl ((Digits_ok _ (by assumption))) rfl ?_) | (refine atCall 47 ?_; refine cE [] [] rfl rfl rfl rfl rfl ((Deed_ok 5)) rfl ?_) | (refine atCall 48 ?_; refine cE [] [] rfl rfl rfl rfl rfl ((num_ok _ (by first | assumption | exact I64n_zero))) rfl ?_) | (refine atHoAdd ?_; refine Nx.hoCat rfl rfl rfl rfl ((by simp; omega)) ?_) | (refine atAdd ?_; refine Nx.cat rfl rfl rfl rfl ((by simp; omega)) ?_) | (refine atAftK ?_; refine Nx.keepN [] rfl (by repeat constructor) (by repeat constructor) rfl ?_) | (refine atRet ?_; refine Nx.ret [] Tryz.func16 rfl rfl ?_; (exact ⟨rfl, rfl⟩)) | refine Nx.late ?_)
  · rw [show noteS ⟨who, ring, 6, lo, seq, key, val, code⟩ = baseS ⟨who, ring, 6, lo, seq, key, val, code⟩ ++ numS seq from rfl]
    refine FnOk.start Tryz.func16 rfl rfl rfl rfl fun F os tape output => ?_
    refine go 200 ?_
    conv => whnf
    repeat' (first | ((first | refine BrM.t rfl ?_ | refine BrM.f rfl ?_ | refine BrM.dec (fun _ => ?_) (fun _ => ?_) | refine BrM.mk (fun _ => ?_) (fun _ => ?_) | refine Ar.i64 (by omega) (by omega) ?_ | refine gO rfl ?_ | refine gP rfl (by repeat constructor) ?_) <;> conv => whnf) | (refine Nx.bind (l := 1) (fun _ => ?_) rfl; refine dN 1 [] [0,5,16,21,32,37,10,12,26,28,42,44,48] rfl (by kernel_rfl) rfl (by kernel_rfl) rfl (by repeat constructor) rfl ?_) | (refine dN 5 [] [0,4,9,20,25,14,16,30,32,36] rfl (by kernel_rfl) rfl (by kernel_rfl) rfl (by repeat constructor) rfl ?_) | (refine dN 7 [] [0,4,9,20,24,29,44,48,53,14,16,34,36,40,58,60,64] rfl (by kernel_rfl) rfl (by kernel_rfl) rfl (by repeat constructor) rfl ?_) | (refine dN 10 [] [0,12,17,28,33,6,8,22,24,38,40,44] rfl (by kernel_rfl) rfl (by kernel_rfl) rfl (by repeat constructor) rfl ?_) | (refine atCall 46 ?_; refine cE [] [] rfl rfl rfl rfl rfl ((Digits_ok _ (by assumption))) rfl ?_) | (refine atCall 47 ?_; refine cE [] [] rfl rfl rfl rfl rfl ((Deed_ok 6)) rfl ?_) | (refine atCall 48 ?_; refine cE [] [] rfl rfl rfl rfl rfl ((num_ok _ (by first | assumption | exact I64n_zero))) rfl ?_) | (refine atHoAdd ?_; refine Nx.hoCat rfl rfl rfl rfl ((by simp; omega)) ?_) | (refine atAdd ?_; refine Nx.cat rfl rfl rfl rfl ((by simp; omega)) ?_) | (refine atAftK ?_; refine Nx.keepN [] rfl (by repeat constructor) (by repeat constructor) rfl ?_) | (refine atRet ?_; refine Nx.ret [] Tryz.func16 rfl rfl ?_; (exact ⟨rfl, rfl⟩)) | refine Nx.late ?_)
  · rw [show noteS ⟨who, ring, 7, lo, seq, key, val, code⟩ = baseS ⟨who, ring, 7, lo, seq, key, val, code⟩ ++ numS seq from rfl]
    refine FnOk.start Tryz.func16 rfl rfl rfl rfl fun F os tape output => ?_
    refine go 200 ?_
    conv => whnf
    repeat' (first | ((first | refine BrM.t rfl ?_ | refine BrM.f rfl ?_ | refine BrM.dec (fun _ => ?_) (fun _ => ?_) | refine BrM.mk (fun _ => ?_) (fun _ => ?_) | refine Ar.i64 (by omega) (by omega) ?_ | refine gO rfl ?_ | refine gP rfl (by repeat constructor) ?_) <;> conv => whnf) | (refine Nx.bind (l := 1) (fun _ => ?_) rfl; refine dN 1 [] [0,5,16,21,32,37,10,12,26,28,42,44,48] rfl (by kernel_rfl) rfl (by kernel_rfl) rfl (by repeat constructor) rfl ?_) | (refine dN 5 [] [0,4,9,20,25,14,16,30,32,36] rfl (by kernel_rfl) rfl (by kernel_rfl) rfl (by repeat constructor) rfl ?_) | (refine dN 7 [] [0,4,9,20,24,29,44,48,53,14,16,34,36,40,58,60,64] rfl (by kernel_rfl) rfl (by kernel_rfl) rfl (by repeat constructor) rfl ?_) | (refine dN 10 [] [0,12,17,28,33,6,8,22,24,38,40,44] rfl (by kernel_rfl) rfl (by kernel_rfl) rfl (by repeat constructor) rfl ?_) | (refine atCall 46 ?_; refine cE [] [] rfl rfl rfl rfl rfl ((Digits_ok _ (by assumption))) rfl ?_) | (refine atCall 47 ?_; refine cE [] [] rfl rfl rfl rfl rfl ((Deed_ok 7)) rfl ?_) | (refine atCall 48 ?_; refine cE [] [] rfl rfl rfl rfl rfl ((num_ok _ (by first | assumption | exact I64n_zero))) rfl ?_) | (refine atHoAdd ?_; refine Nx.hoCat rfl rfl rfl rfl ((by simp; omega)) ?_) | (refine atAdd ?_; refine Nx.cat rfl rfl rfl rfl ((by simp; omega)) ?_) | (refine atAftK ?_; refine Nx.keepN [] rfl (by repeat constructor) (by repeat constructor) rfl ?_) | (refine atRet ?_; refine Nx.ret [] Tryz.func16 rfl rfl ?_; (exact ⟨rfl, rfl⟩)) | refine Nx.late ?_)
  · have e : noteS ⟨who, ring, deed, lo, seq, key, val, code⟩ = baseS ⟨who, ring, deed, lo, seq, key, val, code⟩ := by
      unfold noteS
      dsimp only
      rw [if_neg (by omega), if_neg (by omega), if_neg (by omega), if_neg (by omega)]
    rw [e]
    unfold baseS Note.enc
    dsimp only
    refine FnOk.start Tryz.func16 rfl rfl rfl rfl fun F os tape output => ?_
    refine go 200 ?_
    conv => whnf
    repeat' (first | ((first | refine BrM.not (by omega) ?_ | refine BrM.t rfl ?_ | refine BrM.f rfl ?_ | refine BrM.dec (fun _ => ?_) (fun _ => ?_) | refine BrM.mk (fun _ => ?_) (fun _ => ?_) | refine Ar.i64 (by omega) (by omega) ?_ | refine gO rfl ?_ | refine gP rfl (by repeat constructor) ?_) <;> conv => whnf) | (refine Nx.bind (l := 1) (fun _ => ?_) rfl; refine dN 1 [] [0,5,16,21,32,37,10,12,26,28,42,44,48] rfl (by kernel_rfl) rfl (by kernel_rfl) rfl (by repeat constructor) rfl ?_) | (refine atCall 46 ?_; refine cE [] [] rfl rfl rfl rfl rfl ((Digits_ok _ (by assumption))) rfl ?_) | (refine atCall 47 ?_; refine cE [] [] rfl rfl rfl rfl rfl ((Deed_ok deed)) rfl ?_) | (refine atCall 48 ?_; refine cE [] [] rfl rfl rfl rfl rfl ((num_ok _ (by first | assumption | exact I64n_zero))) rfl ?_) | (refine atHoAdd ?_; refine Nx.hoCat rfl rfl rfl rfl ((by simp; omega)) ?_) | (refine atAdd ?_; refine Nx.cat rfl rfl rfl rfl ((by simp; omega)) ?_) | (refine atAftK ?_; refine Nx.keepN [] rfl (by repeat constructor) (by repeat constructor) rfl ?_) | (refine atRet ?_; refine Nx.ret [] Tryz.func16 rfl rfl ?_; (exact ⟨rfl, rfl⟩)) | refine Nx.late ?_)
/-- The words of a note's line. -/
def headL (n : Note) : List Str := [itoa n.who, deedW n.deed, itoa n.ring]
def noteL (n : Note) : List Str :=
  if n.deed = 1 ∨ n.deed = 3 then headL n ++ [itoa n.lo, itoa n.seq]
  else if n.deed = 2 then headL n ++ [itoa n.seq, (itoa n.key ++ [58]) ++ itoa n.val]
  else if n.deed = 4 then (if n.code = 0 then (headL n ++ [itoa n.code]) ++ [itoa n.lo, itoa n.seq] else headL n ++ [itoa n.code])
  else if n.deed = 5 ∨ n.deed = 6 ∨ n.deed = 7 then headL n ++ [itoa n.seq]
  else headL n
theorem noteL_S (n : Note) : joinC 32 (noteL n) = noteS n := by
  unfold noteL noteS
  split
  · simp [headL, baseS, joinC, numS]
  split
  · simp [headL, baseS, joinC, numS]
  split
  · split
    · rename_i hz
      simp [headL, baseS, joinC, numS, hz]
    · simp [headL, baseS, joinC, numS]
  split
  · simp [headL, baseS, joinC, numS]
  · simp [headL, baseS, joinC, numS]
end Go.Proofs.YtccmdlmlbkpjjaaGreatDoor

/- A note's line read: the program's way and the document's, in plain terms; they agree. -/
namespace Go.Proofs.YtccmdlmlbkpjjaaGreatDoor
open Go.Lib
set_option maxRecDepth 20000
theorem itoaR_mem {v : Int} {c : UInt8} (h : c ∈ itoa v) : c = 45 ∨ isDig c := by
  by_cases hn : v < 0
  · rw [itoa_neg hn] at h
    rcases List.mem_cons.1 h with h | h
    · exact .inl h
    · exact .inr (decDigits_dig _ _ h)
  · rw [itoa_pos (by omega)] at h
    exact .inr (decDigits_dig _ _ h)
theorem itoaR_no {v : Int} {c : UInt8} (h1 : c ≠ 45) (h2 : ¬ isDig c) : c ∉ itoa v := fun h => (itoaR_mem h).elim h1 h2
theorem noR32 (v : Int) : (32 : UInt8) ∉ itoa v := itoaR_no (by decide) (by unfold isDig; decide)
theorem noR58 (v : Int) : (58 : UInt8) ∉ itoa v := itoaR_no (by decide) (by unfold isDig; decide)
theorem pairR_of (a b : Str) (h : (58 : UInt8) ∉ a) : pairC 58 (a ++ [58] ++ b) = some (a, b) := pairC_some.2 ⟨by simp, h⟩
theorem pairR_no (v : Int) : pairC 58 (itoa v) = none := pairC_none.2 (noR58 v)
/-- The numbers of some words. -/
def numsO : List Str → Option (List Int)
  | [] => some []
  | a :: r => match numOf a, numsO r with
    | some n, some l => some (n :: l)
    | _, _ => none
def valuesO (l : List Str) (many : Nat) : Option (List Int) := if l.length = many then numsO l else none
theorem numsO_some : ∀ {l : List Str} {xs : List Int}, numsO l = some xs → l = xs.map itoa ∧ ∀ x ∈ xs, I64n x
  | [], xs, h => by cases h; exact ⟨rfl, fun _ h => by cases h⟩
  | a :: r, xs, h => by
    unfold numsO at h
    split at h
    · rename_i n l h1 h2
      cases h
      obtain ⟨e1, e2⟩ := numOf_some h1
      obtain ⟨e3, e4⟩ := numsO_some h2
      exact ⟨by rw [List.map_cons, e1, ← e3], fun x hx => (List.mem_cons.1 hx).elim (fun h => h ▸ e2) (e4 x)⟩
    · cases h
theorem numsO_itoa : ∀ {xs : List Int}, (∀ x ∈ xs, I64n x) → numsO (xs.map itoa) = some xs
  | [], _ => rfl
  | x :: r, h => by
    rw [List.map_cons]
    unfold numsO
    rw [numOf_itoa (h x List.mem_cons_self), numsO_itoa fun y hy => h y (List.mem_cons_of_mem _ hy)]
theorem valuesO_some {l : List Str} {k : Nat} {xs : List Int} (h : valuesO l k = some xs) : l = xs.map itoa ∧ (∀ x ∈ xs, I64n x) ∧ xs.length = k := by
  unfold valuesO at h
  split at h
  · rename_i hl
    obtain ⟨h1, h2⟩ := numsO_some h
    exact ⟨h1, h2, by rw [h1, List.length_map] at hl; exact hl⟩
  · cases h
theorem valuesO_itoa {xs : List Int} (h : ∀ x ∈ xs, I64n x) : valuesO (xs.map itoa) xs.length = some xs := by
  unfold valuesO
  rw [if_pos (List.length_map _), numsO_itoa h]
theorem values1 {x : Int} (h : I64n x) : valuesO [itoa x] 1 = some [x] := valuesO_itoa (xs := [x]) (by intro y hy; simp at hy; subst hy; exact h)
theorem values2 {x y : Int} (h : I64n x) (h2 : I64n y) : valuesO [itoa x, itoa y] 2 = some [x, y] := valuesO_itoa (xs := [x, y]) (by intro z hz; simp at hz; rcases hz with rfl | rfl <;> assumption)
theorem values3 {x y z : Int} (h : I64n x) (h2 : I64n y) (h3 : I64n z) : valuesO [itoa x, itoa y, itoa z] 3 = some [x, y, z] := valuesO_itoa (xs := [x, y, z]) (by intro u hu; simp at hu; rcases hu with rfl | rfl | rfl <;> assumption)
theorem nums3 {x y z : Int} (h : I64n x) (h2 : I64n y) (h3 : I64n z) : numsO [itoa x, itoa y, itoa z] = some [x, y, z] := numsO_itoa (xs := [x, y, z]) (by intro u hu; simp at hu; rcases hu with rfl | rfl | rfl <;> assumption)
def deedO (s : Str) : Option Nat := deedsL.findIdx? (fun x => decide (x = s))
/-- What stands behind a note's ring. -/
def fillP (d : Nat) (w g : Int) (l : List Str) : Option Note :=
  if d = 0 then (if l.length = 0 then some ⟨w, g, 0, 0, 0, 0, 0, 0⟩ else none)
  else if d = 1 ∨ d = 3 then (match valuesO l 2 with | some [x, y] => some ⟨w, g, d, x, y, 0, 0, 0⟩ | _ => none)
  else if d = 2 then (match l with
    | [a, b] => (match pairC 58 b with
      | some (p, q) => (match numsO [a, p, q] with | some [x, y, z] => some ⟨w, g, 2, x, x, y, z, 0⟩ | _ => none)
      | none => none)
    | _ => none)
  else if d = 4 then (if 0 < l.length ∧ l.getD 0 [] ≠ [48] then (match valuesO l 1 with | some [x] => some ⟨w, g, 4, 0, 0, 0, 0, x⟩ | _ => none)
    else (match valuesO l 3 with | some [_, y, z] => some ⟨w, g, 4, y, z, 0, 0, 0⟩ | _ => none))
  else (match valuesO l 1 with | some [x] => some ⟨w, g, d, 0, x, 0, 0, 0⟩ | _ => none)
/-- The note of a text, as the program reads it. -/
def readP (s : Str) : Option Note := match splitC 32 s with
  | a :: dn :: r :: l => (match deedO dn, valuesO [a, r] 2 with
    | some d, some [w, g] => fillP d w g l
    | _, _ => none)
  | _ => none
def scan1 (t : Str) (y : Int) : Option (Int × Int) := match pairC 58 t with
  | some (p, q) => (match numOf q with
    | some n => (match numOf p with | some m => some (m, n) | none => none)
    | none => none)
  | none => (match numOf t with | some m => some (m, y) | none => none)
def scanL : Nat → List Str → List Int → Int → Option (List Int × Int)
  | _, [], v, y => some (v, y)
  | i, t :: r, v, y => if i = 1 then scanL (i + 1) r v y else match scan1 t y with
    | none => none
    | some (n, y') => scanL (i + 1) r (v.set i n) y'
/-- A deed's note out of the numbers. -/
def xOf (d : Nat) (v : List Int) (y : Int) : Note :=
  if d = 1 ∨ d = 3 then ⟨v.getD 0 0, v.getD 2 0, d, v.getD 3 0, v.getD 4 0, 0, 0, 0⟩
  else if d = 2 then ⟨v.getD 0 0, v.getD 2 0, d, v.getD 3 0, v.getD 3 0, v.getD 4 0, y, 0⟩
  else if d = 4 then (if v.getD 3 0 = 0 then ⟨v.getD 0 0, v.getD 2 0, d, v.getD 4 0, v.getD 5 0, 0, 0, v.getD 3 0⟩ else ⟨v.getD 0 0, v.getD 2 0, d, 0, 0, 0, 0, v.getD 3 0⟩)
  else if d = 0 then ⟨v.getD 0 0, v.getD 2 0, d, 0, 0, 0, 0, 0⟩
  else ⟨v.getD 0 0, v.getD 2 0, d, 0, v.getD 3 0, 0, 0, 0⟩
def fromD (s nm : Str) (v : List Int) (y : Int) : Nat → Nat → Option Note
  | 0, _ => none
  | k + 1, d => if deedW d = nm then (if noteS (xOf d v y) = s then some (xOf d v y) else fromD s nm v y k (d + 1)) else fromD s nm v y k (d + 1)
/-- The note of a text, as the document reads it. -/
def readR (s : Str) : Option Note :=
  if (splitC 32 s).length < 3 ∨ 6 < (splitC 32 s).length then none else match scanL 0 (splitC 32 s) [0, 0, 0, 0, 0, 0] 0 with
  | none => none
  | some (v, y) => fromD s ((splitC 32 s).getD 1 []) v y 8 0
/-- A note with just what its line names. -/
inductive Pl : Note → Prop
  | p0 (w g : Int) : Pl ⟨w, g, 0, 0, 0, 0, 0, 0⟩
  | p1 (w g x y : Int) : Pl ⟨w, g, 1, x, y, 0, 0, 0⟩
  | p2 (w g x y z : Int) : Pl ⟨w, g, 2, x, x, y, z, 0⟩
  | p3 (w g x y : Int) : Pl ⟨w, g, 3, x, y, 0, 0, 0⟩
  | p4 (w g x y : Int) : Pl ⟨w, g, 4, x, y, 0, 0, 0⟩
  | p4c (w g c : Int) (h : c ≠ 0) : Pl ⟨w, g, 4, 0, 0, 0, 0, c⟩
  | p5 (w g x : Int) : Pl ⟨w, g, 5, 0, x, 0, 0, 0⟩
  | p6 (w g x : Int) : Pl ⟨w, g, 6, 0, x, 0, 0, 0⟩
  | p7 (w g x : Int) : Pl ⟨w, g, 7, 0, x, 0, 0, 0⟩
theorem deedO_some {s : Str} {d : Nat} (h : deedO s = some d) : d < 8 ∧ deedW d = s := by
  unfold deedO at h
  obtain ⟨h1, h2, _⟩ := List.findIdx?_eq_some_iff_getElem.1 h
  have h8 : d < 8 := h1
  refine ⟨h8, ?_⟩
  unfold deedW
  rw [if_pos ⟨by omega, by omega⟩, Int.toNat_natCast, List.getD_eq_getElem?_getD, List.getElem?_eq_getElem h1]
  exact of_decide_eq_true h2
theorem deedO_word : ∀ d < 8, deedO (deedW (d : Nat)) = some d := by decide
theorem deedW_no32 : ∀ d < 8, (32 : UInt8) ∉ deedW (d : Nat) := by decide
theorem deedW_inj : ∀ d < 8, ∀ e < 8, deedW (d : Nat) = deedW (e : Nat) → d = e := by decide
theorem itoa0 : itoa 0 = [48] := by
  rw [itoa_pos (by omega)]
  show decDigits 0 = [48]
  rw [decDigits_small (by decide)]; rfl
theorem itoa_inj {x y : Int} (h1 : I64n x) (h2 : I64n y) (h : itoa x = itoa y) : x = y := by
  have := numOf_itoa h1
  rw [h, numOf_itoa h2] at this
  exact (Option.some.inj this).symm
theorem noteL_ne (n : Note) : noteL n ≠ [] := by
  unfold noteL headL
  repeat' split
  all_goals simp
theorem noteL_no {n : Note} (h : Pl n) : ∀ w ∈ noteL n, (32 : UInt8) ∉ w := by
  have hp : ∀ k v : Int, (32 : UInt8) ∉ (itoa k ++ [58]) ++ itoa v := fun k v hm => by
    rcases List.mem_append.1 hm with hm | hm
    · rcases List.mem_append.1 hm with hm | hm
      · exact noR32 _ hm
      · revert hm; decide
    · exact noR32 _ hm
  have hd := deedW_no32
  have c : ∀ {a : Str} {l : List Str}, (32 : UInt8) ∉ a → (∀ w ∈ l, (32 : UInt8) ∉ w) → ∀ w ∈ a :: l, (32 : UInt8) ∉ w := fun h1 h2 w hw => by
    rcases List.mem_cons.1 hw with rfl | hw
    · exact h1
    · exact h2 w hw
  have z : ∀ w ∈ ([] : List Str), (32 : UInt8) ∉ w := fun w hw => by cases hw
  cases h with
  | p0 w g => exact c (noR32 _) (c (hd 0 (by decide)) (c (noR32 _) z))
  | p1 w g x y => exact c (noR32 _) (c (hd 1 (by decide)) (c (noR32 _) (c (noR32 _) (c (noR32 _) z))))
  | p2 w g x y z' => exact c (noR32 _) (c (hd 2 (by decide)) (c (noR32 _) (c (noR32 _) (c (hp _ _) z))))
  | p3 w g x y => exact c (noR32 _) (c (hd 3 (by decide)) (c (noR32 _) (c (noR32 _) (c (noR32 _) z))))
  | p4 w g x y => exact c (noR32 _) (c (hd 4 (by decide)) (c (noR32 _) (c (noR32 _) (c (noR32 _) (c (noR32 _) z)))))
  | p4c w g e h =>
    have e' : noteL ⟨w, g, 4, 0, 0, 0, 0, e⟩ = [itoa w, deedW 4, itoa g, itoa e] := by unfold noteL; simp [headL, h]
    rw [e']
    exact c (noR32 _) (c (hd 4 (by decide)) (c (noR32 _) (c (noR32 _) z)))
  | p5 w g x => exact c (noR32 _) (c (hd 5 (by decide)) (c (noR32 _) (c (noR32 _) z)))
  | p6 w g x => exact c (noR32 _) (c (hd 6 (by decide)) (c (noR32 _) (c (noR32 _) z)))
  | p7 w g x => exact c (noR32 _) (c (hd 7 (by decide)) (c (noR32 _) (c (noR32 _) z)))
theorem split_note {n : Note} (h : Pl n) : splitC 32 (noteS n) = noteL n := by
  rw [← noteL_S, split_joinC (noteL_ne n) (noteL_no h)]
theorem noteL4c (w g e : Int) (h : e ≠ 0) : noteL ⟨w, g, 4, 0, 0, 0, 0, e⟩ = [itoa w, deedW 4, itoa g, itoa e] := by unfold noteL; simp [headL, h]
theorem noteS_split {s : Str} {n : Note} (h : splitC 32 s = noteL n) : noteS n = s := by
  rw [← noteL_S, ← h, joinC_split]
theorem readP_note {n : Note} (h : Pl n) (hw : n.wf) : readP (noteS n) = some n := by
  obtain ⟨h1, h2, h3, h4, h5, h6, h7, h8⟩ := hw
  unfold readP
  rw [split_note h]
  cases h with
  | p0 w g =>
    show (match deedO (deedW (0 : Nat)), valuesO [itoa w, itoa g] 2 with | some d, some [w, g] => fillP d w g [] | _, _ => none) = _
    rw [deedO_word 0 (by decide), values2 h1 h2]; rfl
  | p1 w g x y =>
    show (match deedO (deedW (1 : Nat)), valuesO [itoa w, itoa g] 2 with | some d, some [w, g] => fillP d w g [itoa x, itoa y] | _, _ => none) = _
    rw [deedO_word 1 (by decide), values2 h1 h2]
    simp [fillP, values2 h4 h5]
  | p2 w g x y z =>
    show (match deedO (deedW (2 : Nat)), valuesO [itoa w, itoa g] 2 with | some d, some [w, g] => fillP d w g [itoa x, itoa y ++ [58] ++ itoa z] | _, _ => none) = _
    rw [deedO_word 2 (by decide), values2 h1 h2]
    have hp := pairR_of (itoa y) (itoa z) (noR58 y)
    simp only [fillP, hp, nums3 h4 h6 h7]
    simp
  | p3 w g x y =>
    show (match deedO (deedW (3 : Nat)), valuesO [itoa w, itoa g] 2 with | some d, some [w, g] => fillP d w g [itoa x, itoa y] | _, _ => none) = _
    rw [deedO_word 3 (by decide), values2 h1 h2]
    simp [fillP, values2 h4 h5]
  | p4 w g x y =>
    show (match deedO (deedW (4 : Nat)), valuesO [itoa w, itoa g] 2 with | some d, some [w, g] => fillP d w g [itoa 0, itoa x, itoa y] | _, _ => none) = _
    rw [deedO_word 4 (by decide), values2 h1 h2]
    have := values3 I64n_zero h4 h5
    simp only [fillP, this]
    simp [itoa0]
  | p4c w g e h =>
    rw [noteL4c w g e h]
    show (match deedO (deedW (4 : Nat)), valuesO [itoa w, itoa g] 2 with | some d, some [w, g] => fillP d w g [itoa e] | _, _ => none) = _
    rw [deedO_word 4 (by decide), values2 h1 h2]
    have hne : itoa e ≠ [48] := fun he => h (itoa_inj h8 I64n_zero (by rw [he, itoa0]))
    simp only [fillP, values1 h8]
    simp [hne]
  | p5 w g x =>
    show (match deedO (deedW (5 : Nat)), valuesO [itoa w, itoa g] 2 with | some d, some [w, g] => fillP d w g [itoa x] | _, _ => none) = _
    rw [deedO_word 5 (by decide), values2 h1 h2]
    simp [fillP, values1 h5]
  | p6 w g x =>
    show (match deedO (deedW (6 : Nat)), valuesO [itoa w, itoa g] 2 with | some d, some [w, g] => fillP d w g [itoa x] | _, _ => none) = _
    rw [deedO_word 6 (by decide), values2 h1 h2]
    simp [fillP, values1 h5]
  | p7 w g x =>
    show (match deedO (deedW (7 : Nat)), valuesO [itoa w, itoa g] 2 with | some d, some [w, g] => fillP d w g [itoa x] | _, _ => none) = _
    rw [deedO_word 7 (by decide), values2 h1 h2]
    simp [fillP, values1 h5]
theorem fillP_some {d : Nat} {w g : Int} {l : List Str} {n : Note} (hd : d < 8) (hw : I64n w) (hg : I64n g) (h : fillP d w g l = some n) : Pl n ∧ n.wf ∧ noteL n = itoa w :: deedW d :: itoa g :: l := by
  have z := I64n_zero
  have hs : ∀ {k : Nat} {xs : List Int}, valuesO l k = some xs → _ := fun h => valuesO_some h
  have hc : d = 0 ∨ d = 1 ∨ d = 2 ∨ d = 3 ∨ d = 4 ∨ d = 5 ∨ d = 6 ∨ d = 7 := by omega
  have c8 : ∀ k : Nat, k < 8 → I64n k := fun k hk => by unfold I64n; omega
  rcases hc with rfl | rfl | rfl | rfl | rfl | rfl | rfl | rfl
  · simp only [fillP, if_true] at h
    split at h
    · rename_i h0
      cases h
      have : l = [] := List.eq_nil_of_length_eq_zero h0
      subst this
      exact ⟨.p0 _ _, ⟨hw, hg, z, z, z, z, z, z⟩, rfl⟩
    · cases h
  · simp only [fillP] at h
    simp only [show ¬ (1 : Nat) = 0 by decide, if_false, true_or, if_true] at h
    split at h
    · rename_i x y hv
      cases h
      obtain ⟨rfl, e2, _⟩ := hs hv
      exact ⟨.p1 _ _ _ _, ⟨hw, hg, c8 1 (by decide), e2 x (by simp), e2 y (by simp), z, z, z⟩, rfl⟩
    · cases h
  · simp only [fillP] at h
    simp only [show ¬ (2 : Nat) = 0 by decide, show ¬ ((2 : Nat) = 1 ∨ (2 : Nat) = 3) by decide, if_false, if_true] at h
    split at h
    · rename_i a b
      split at h
      · rename_i p q hp
        split at h
        · rename_i x y u hv
          cases h
          obtain ⟨e1, e2⟩ := numsO_some hv
          simp only [List.map_cons, List.map_nil, List.cons.injEq, and_true] at e1
          obtain ⟨rfl, rfl, rfl⟩ := e1
          obtain ⟨e3, _⟩ := pairC_some.1 hp
          refine ⟨.p2 _ _ _ _ _, ⟨hw, hg, c8 2 (by decide), e2 x (by simp), e2 x (by simp), e2 y (by simp), e2 u (by simp), z⟩, ?_⟩
          rw [e3]
          show [itoa w, deedW 2, itoa g, itoa x, (itoa y ++ [58]) ++ itoa u] = _
          simp
        · cases h
      · cases h
    · cases h
  · simp only [fillP] at h
    simp only [show ¬ (3 : Nat) = 0 by decide, if_false, or_true, if_true] at h
    split at h
    · rename_i x y hv
      cases h
      obtain ⟨rfl, e2, _⟩ := hs hv
      exact ⟨.p3 _ _ _ _, ⟨hw, hg, c8 3 (by decide), e2 x (by simp), e2 y (by simp), z, z, z⟩, rfl⟩
    · cases h
  · simp only [fillP] at h
    simp only [show ¬ (4 : Nat) = 0 by decide, show ¬ ((4 : Nat) = 1 ∨ (4 : Nat) = 3) by decide, show ¬ (4 : Nat) = 2 by decide, if_false, if_true] at h
    split at h
    · rename_i hne
      split at h
      · rename_i x hv
        cases h
        obtain ⟨rfl, e2, _⟩ := hs hv
        have hx : x ≠ 0 := fun e => by subst e; exact hne.2 itoa0
        exact ⟨.p4c _ _ _ hx, ⟨hw, hg, c8 4 (by decide), z, z, z, z, e2 x (by simp)⟩, noteL4c _ _ _ hx⟩
      · cases h
    · rename_i hne
      split at h
      · rename_i x y u hv
        cases h
        obtain ⟨rfl, e2, _⟩ := hs hv
        have hx : itoa x = [48] := Decidable.byContradiction fun e => hne ⟨by simp, e⟩
        refine ⟨.p4 _ _ _ _, ⟨hw, hg, c8 4 (by decide), e2 y (by simp), e2 u (by simp), z, z, z⟩, ?_⟩
        show [itoa w, deedW 4, itoa g, itoa 0, itoa y, itoa u] = _
        rw [itoa0, ← hx]; rfl
      · cases h
  · simp only [fillP] at h
    simp only [show ¬ (5 : Nat) = 0 by decide, show ¬ ((5 : Nat) = 1 ∨ (5 : Nat) = 3) by decide, show ¬ (5 : Nat) = 2 by decide, show ¬ (5 : Nat) = 4 by decide, if_false] at h
    split at h
    · rename_i x hv
      cases h
      obtain ⟨rfl, e2, _⟩ := hs hv
      exact ⟨.p5 _ _ _, ⟨hw, hg, c8 5 (by decide), z, e2 x (by simp), z, z, z⟩, rfl⟩
    · cases h
  · simp only [fillP] at h
    simp only [show ¬ (6 : Nat) = 0 by decide, show ¬ ((6 : Nat) = 1 ∨ (6 : Nat) = 3) by decide, show ¬ (6 : Nat) = 2 by decide, show ¬ (6 : Nat) = 4 by decide, if_false] at h
    split at h
    · rename_i x hv
      cases h
      obtain ⟨rfl, e2, _⟩ := hs hv
      exact ⟨.p6 _ _ _, ⟨hw, hg, c8 6 (by decide), z, e2 x (by simp), z, z, z⟩, rfl⟩
    · cases h
  · simp only [fillP] at h
    simp only [show ¬ (7 : Nat) = 0 by decide, show ¬ ((7 : Nat) = 1 ∨ (7 : Nat) = 3) by decide, show ¬ (7 : Nat) = 2 by decide, show ¬ (7 : Nat) = 4 by decide, if_false] at h
    split at h
    · rename_i x hv
      cases h
      obtain ⟨rfl, e2, _⟩ := hs hv
      exact ⟨.p7 _ _ _, ⟨hw, hg, c8 7 (by decide), z, e2 x (by simp), z, z, z⟩, rfl⟩
    · cases h
theorem readP_some {s : Str} {n : Note} (h : readP s = some n) : Pl n ∧ n.wf ∧ noteS n = s := by
  unfold readP at h
  split at h
  · rename_i a dn r l hs
    split at h
    · rename_i d w g hd hv
      obtain ⟨h8, rfl⟩ := deedO_some hd
      obtain ⟨e1, e2, _⟩ := valuesO_some hv
      simp only [List.map_cons, List.map_nil, List.cons.injEq, and_true] at e1
      obtain ⟨rfl, rfl⟩ := e1
      obtain ⟨h1, h2, h3⟩ := fillP_some h8 (e2 w (by simp)) (e2 g (by simp)) h
      exact ⟨h1, h2, noteS_split (by rw [hs, h3])⟩
    · cases h
  · cases h
theorem scan1_some {t : Str} {y m n : Int} (hy : I64n y) (h : scan1 t y = some (m, n)) : I64n m ∧ I64n n := by
  unfold scan1 at h
  split at h
  · split at h
    · rename_i h1
      split at h
      · rename_i h2
        cases h
        exact ⟨(numOf_some h2).2, (numOf_some h1).2⟩
      · cases h
    · cases h
  · split at h
    · rename_i h2
      cases h
      exact ⟨(numOf_some h2).2, hy⟩
    · cases h
theorem scanL_some : ∀ {l : List Str} {i : Nat} {v v' : List Int} {y y' : Int}, (∀ x ∈ v, I64n x) → I64n y → scanL i l v y = some (v', y') → (∀ x ∈ v', I64n x) ∧ I64n y'
  | [], i, v, v', y, y', hv, hy, h => by cases h; exact ⟨hv, hy⟩
  | t :: r, i, v, v', y, y', hv, hy, h => by
    unfold scanL at h
    split at h
    · exact scanL_some hv hy h
    · split at h
      · cases h
      · rename_i n y2 h1
        obtain ⟨e1, e2⟩ := scan1_some hy h1
        refine scanL_some (fun x hx => ?_) e2 h
        rcases List.mem_or_eq_of_mem_set hx with hx | rfl
        · exact hv x hx
        · exact e1
theorem getD_I {v : List Int} (hv : ∀ x ∈ v, I64n x) (k : Nat) : I64n (v.getD k 0) := by
  rw [List.getD_eq_getElem?_getD]
  cases h : v[k]? with
  | none => exact I64n_zero
  | some x => exact hv x (List.mem_of_getElem? h)
theorem xOf_pl {d : Nat} {v : List Int} {y : Int} (hd : d < 8) (hv : ∀ x ∈ v, I64n x) (hy : I64n y) : Pl (xOf d v y) ∧ (xOf d v y).wf := by
  have z := I64n_zero
  have c8 : ∀ k : Nat, k < 8 → I64n k := fun k hk => by unfold I64n; omega
  have g := getD_I hv
  have hc : d = 0 ∨ d = 1 ∨ d = 2 ∨ d = 3 ∨ d = 4 ∨ d = 5 ∨ d = 6 ∨ d = 7 := by omega
  rcases hc with rfl | rfl | rfl | rfl | rfl | rfl | rfl | rfl
  · exact ⟨.p0 _ _, ⟨g _, g _, c8 0 (by decide), z, z, z, z, z⟩⟩
  · exact ⟨.p1 _ _ _ _, ⟨g _, g _, c8 1 (by decide), g _, g _, z, z, z⟩⟩
  · exact ⟨.p2 _ _ _ _ _, ⟨g _, g _, c8 2 (by decide), g _, g _, g _, hy, z⟩⟩
  · exact ⟨.p3 _ _ _ _, ⟨g _, g _, c8 3 (by decide), g _, g _, z, z, z⟩⟩
  · unfold xOf
    simp only [show ¬ ((4 : Nat) = 1 ∨ (4 : Nat) = 3) by decide, show ¬ (4 : Nat) = 2 by decide, if_false, if_true]
    split
    · rename_i h0
      rw [h0]
      exact ⟨.p4 _ _ _ _, ⟨g _, g _, c8 4 (by decide), g _, g _, z, z, z⟩⟩
    · rename_i h0
      exact ⟨.p4c _ _ _ h0, ⟨g _, g _, c8 4 (by decide), z, z, z, z, g _⟩⟩
  · exact ⟨.p5 _ _ _, ⟨g _, g _, c8 5 (by decide), z, g _, z, z, z⟩⟩
  · exact ⟨.p6 _ _ _, ⟨g _, g _, c8 6 (by decide), z, g _, z, z, z⟩⟩
  · exact ⟨.p7 _ _ _, ⟨g _, g _, c8 7 (by decide), z, g _, z, z, z⟩⟩
theorem fromD_some {s nm : Str} {v : List Int} {y : Int} {n : Note} : ∀ {k d : Nat}, fromD s nm v y k d = some n → ∃ e, e < d + k ∧ n = xOf e v y ∧ noteS n = s
  | 0, d, h => by cases h
  | k + 1, d, h => by
    unfold fromD at h
    split at h
    · split at h
      · rename_i h1
        cases h
        exact ⟨d, by omega, rfl, h1⟩
      · obtain ⟨e, h1, h2⟩ := fromD_some h
        exact ⟨e, by omega, h2⟩
    · obtain ⟨e, h1, h2⟩ := fromD_some h
      exact ⟨e, by omega, h2⟩
theorem readR_some {s : Str} {n : Note} (h : readR s = some n) : Pl n ∧ n.wf ∧ noteS n = s := by
  unfold readR at h
  split at h
  · cases h
  · split at h
    · cases h
    · rename_i v y hv
      obtain ⟨h1, h2⟩ := scanL_some (by intro x hx; simp at hx; subst hx; exact I64n_zero) I64n_zero hv
      obtain ⟨e, he, rfl, h3⟩ := fromD_some h
      obtain ⟨h4, h5⟩ := xOf_pl (by omega) h1 h2
      exact ⟨h4, h5, h3⟩
theorem fromD_at {s : Str} {v : List Int} {y : Int} {e : Nat} (he : e < 8) (hs : noteS (xOf e v y) = s) : ∀ {k d : Nat}, d ≤ e → d + k = 8 → fromD s (deedW e) v y k d = some (xOf e v y)
  | 0, d, h1, h2 => by omega
  | k + 1, d, h1, h2 => by
    unfold fromD
    by_cases hde : d = e
    · subst hde
      rw [if_pos rfl, if_pos hs]
    · rw [if_neg fun h => hde (deedW_inj d (by omega) e he h)]
      exact fromD_at he hs (by omega) (by omega)
theorem scan1_itoa {x y : Int} (h : I64n x) : scan1 (itoa x) y = some (x, y) := by
  unfold scan1
  rw [pairR_no, numOf_itoa h]
theorem scan1_pair {x z y : Int} (h : I64n x) (hz : I64n z) : scan1 (itoa x ++ [58] ++ itoa z) y = some (x, z) := by
  unfold scan1
  rw [pairR_of _ _ (noR58 x)]
  simp only [numOf_itoa h, numOf_itoa hz]
theorem readR_of {s : Str} {n : Note} {d : Nat} {v : List Int} {y : Int} (hd : d < 8) (hl : 3 ≤ (splitC 32 s).length ∧ (splitC 32 s).length ≤ 6) (hn : (splitC 32 s).getD 1 [] = deedW d) (hv : scanL 0 (splitC 32 s) [0, 0, 0, 0, 0, 0] 0 = some (v, y)) (hx : xOf d v y = n) (hs : noteS n = s) : readR s = some n := by
  unfold readR
  rw [if_neg (by omega), hv, hn]
  show fromD s (deedW d) v y 8 0 = some n
  rw [fromD_at hd (by rw [hx]; exact hs) (Nat.zero_le _) rfl, hx]
theorem readR_note {n : Note} (h : Pl n) (hw : n.wf) : readR (noteS n) = some n := by
  obtain ⟨h1, h2, h3, h4, h5, h6, h7, h8⟩ := hw
  have hsp := split_note h
  cases h with
  | p0 w g =>
    refine readR_of (d := 0) (v := [w, 0, g, 0, 0, 0]) (y := 0) (by decide) (by rw [hsp]; simp [noteL, headL]) (by rw [hsp]; rfl) ?_ rfl rfl
    rw [hsp]
    simp [noteL, headL, scanL, scan1_itoa, h1, h2]
  | p1 w g x y =>
    refine readR_of (d := 1) (v := [w, 0, g, x, y, 0]) (y := 0) (by decide) (by rw [hsp]; simp [noteL, headL]) (by rw [hsp]; rfl) ?_ rfl rfl
    rw [hsp]
    simp [noteL, headL, scanL, scan1_itoa, h1, h2, h4, h5]
  | p2 w g x y z =>
    refine readR_of (d := 2) (v := [w, 0, g, x, y, 0]) (y := z) (by decide) (by rw [hsp]; simp [noteL, headL]) (by rw [hsp]; rfl) ?_ rfl rfl
    rw [hsp]
    have : scan1 (itoa y ++ 58 :: itoa z) 0 = some (y, z) := by
      have := scan1_pair (x := y) (z := z) (y := 0) h6 h7
      rwa [List.append_assoc] at this
    simp [noteL, headL, scanL, scan1_itoa, h1, h2, h4, this]
  | p3 w g x y =>
    refine readR_of (d := 3) (v := [w, 0, g, x, y, 0]) (y := 0) (by decide) (by rw [hsp]; simp [noteL, headL]) (by rw [hsp]; rfl) ?_ rfl rfl
    rw [hsp]
    simp [noteL, headL, scanL, scan1_itoa, h1, h2, h4, h5]
  | p4 w g x y =>
    refine readR_of (d := 4) (v := [w, 0, g, 0, x, y]) (y := 0) (by decide) (by rw [hsp]; simp [noteL, headL]) (by rw [hsp]; rfl) ?_ rfl rfl
    rw [hsp]
    simp [noteL, headL, scanL, scan1_itoa, h1, h2, h4, h5, I64n_zero]
  | p4c w g e h =>
    rw [noteL4c w g e h] at hsp
    refine readR_of (d := 4) (v := [w, 0, g, e, 0, 0]) (y := 0) (by decide) (by rw [hsp]; exact ⟨by simp, by simp⟩) (by rw [hsp]; rfl) ?_ (by unfold xOf; simp [h]) rfl
    rw [hsp]
    simp [scanL, scan1_itoa, h1, h2, h8]
  | p5 w g x =>
    refine readR_of (d := 5) (v := [w, 0, g, x, 0, 0]) (y := 0) (by decide) (by rw [hsp]; simp [noteL, headL]) (by rw [hsp]; rfl) ?_ rfl rfl
    rw [hsp]
    simp [noteL, headL, scanL, scan1_itoa, h1, h2, h5]
  | p6 w g x =>
    refine readR_of (d := 6) (v := [w, 0, g, x, 0, 0]) (y := 0) (by decide) (by rw [hsp]; simp [noteL, headL]) (by rw [hsp]; rfl) ?_ rfl rfl
    rw [hsp]
    simp [noteL, headL, scanL, scan1_itoa, h1, h2, h5]
  | p7 w g x =>
    refine readR_of (d := 7) (v := [w, 0, g, x, 0, 0]) (y := 0) (by decide) (by rw [hsp]; simp [noteL, headL]) (by rw [hsp]; rfl) ?_ rfl rfl
    rw [hsp]
    simp [noteL, headL, scanL, scan1_itoa, h1, h2, h5]
/-- Both read alike. -/
theorem read_same (s : Str) : readP s = readR s := by
  apply Option.ext
  intro n
  constructor
  · intro h
    obtain ⟨h1, h2, rfl⟩ := readP_some h
    exact readR_note h1 h2
  · intro h
    obtain ⟨h1, h2, rfl⟩ := readR_some h
    exact readP_note h1 h2
end Go.Proofs.YtccmdlmlbkpjjaaGreatDoor

/- The document's Number and Split. -/
namespace Go.Proofs.YtccmdlmlbkpjjaaGreatDoor
open Go.RowKit Go.Lib
attribute [local irreducible] Nx Ar BrM headC OneC HoC AftC planHead endF
set_option maxRecDepth 20000

def numV (s : Str) : Value := match numOf s with | some v => .tuple #[.int .i64 v, .bool true] | none => .tuple #[.int .i64 0, .bool false]
theorem byteAt_nat {l : Str} {k : Nat} (h : k < l.length) : byteAt l k = (l[k]).toNat := by
  unfold byteAt
  rw [Int.toNat_natCast, List.getD_eq_getElem?_getD, List.getElem?_eq_getElem h]; rfl
theorem byteAt_zero {l : Str} (h : 0 < l.length) : byteAt l 0 = (l[0]).toNat := byteAt_nat (k := 0) h
theorem byte_eq {c : UInt8} {n : Nat} (hn : n < 256) : (c.toNat : Int) = n ↔ c = UInt8.ofNat n := by
  constructor
  · intro h
    have : c.toNat = n := by omega
    rw [← this, UInt8.ofNat_toNat]
  · intro h; subst h
    rw [UInt8.toNat_ofNat']; omega
theorem byteAt_range (l : Str) (i : Int) : 0 ≤ byteAt l i ∧ byteAt l i ≤ 255 := by
  unfold byteAt
  have := (l.getD i.toNat 0).toNat_lt
  omega
theorem take_dig {d : Str} {k : Nat} (hk : k < d.length) (h : ∀ c ∈ d.take k, isDig c) (hd : isDig d[k]) : ∀ c ∈ d.take (k + 1), isDig c := by
  intro c hc
  rw [List.take_succ_eq_append_getElem hk] at hc
  rcases List.mem_append.1 hc with hc | hc
  · exact h c hc
  · rw [List.mem_singleton] at hc; subst hc; exact hd
theorem val_take {d : Str} {k : Nat} (hk : k < d.length) : val (d.take (k + 1)) = val (d.take k) * 10 + (d[k].toNat - 48) := by
  rw [List.take_succ_eq_append_getElem hk, val_snoc]
theorem toList_eq {a b : Str} (h : ByteArray.toList ⟨a.toArray⟩ = ByteArray.toList ⟨b.toArray⟩) : a = b := by rwa [toList_str, toList_str] at h

structure NbI (d : Str) (x : Nat × Nat) : Prop where
  k : x.1 ≤ d.length
  dig : ∀ c ∈ d.take x.1, isDig c
  v : x.2 = val (d.take x.1)
  b : x.2 ≤ 9223372036854775808

set_option maxHeartbeats 8000000 in
theorem Number_ok (s : Str) (hs : s.length ≤ 9223372036854775807) : FnOk Tryz.prog 75 [str s] [] (fun v Q => v = numV s ∧ Q = []) := by
  have hsz : (⟨s.toArray⟩ : ByteArray).size = s.length := by simp [ByteArray.size]
  refine FnOk.start Tryz.func75 rfl rfl rfl rfl fun F os tape output => ?_
  refine go 15 ?_
  conv => whnf
  obtain ⟨d, hd⟩ : ∃ d, d = magn s := ⟨_, rfl⟩
  obtain ⟨mb, hmb⟩ : ∃ mb, mb = minusB s := ⟨_, rfl⟩
  have hdl : d.length ≤ s.length := by rw [hd]; unfold magn; split <;> simp
  refine Nx.joinR (E := [(2, iv 0), (3, bv false), (4, bv mb), (5, sv d)]) (M := []) (B := []) (R := []) (fun K => ?_) ?_
  · by_cases h0 : 0 < s.length
    · by_cases h1 : byteAt s 0 = 45
      · have hm : minusB s = true := by
          have := (byte_eq (n := 45) (by omega)).1 (by rw [← byteAt_zero h0]; exact h1)
          unfold minusB
          rw [List.getElem?_eq_getElem h0, this]
          rfl
        have hdd : d = (s.take ((⟨s.toArray⟩ : ByteArray).size : Int).toNat).drop (1 : Int).toNat := by
          rw [hd, hsz, Int.toNat_natCast, List.take_length]; unfold magn; rw [hm]; rfl
        rw [hmb, hm, hdd] at K
        repeat' (first | (with_reducible refine Nx.weak K ?_ ?_ ?_ ?_) <;> (first | ((repeat (first | exact .nil _ | refine .cons rfl ?_ | refine .cons rfl rfl ?_ | refine .cons rfl rfl rfl ?_ | refine .cons' rfl (fun _ => rfl) ?_)); done) | omega | (dsimp only; omega) | (repeat (first | exact subE.nil _ | refine subE.cons rfl rfl ?_ | refine subE.cons' rfl (fun _ => rfl) ?_ | (refine subE.cons rfl ?_ ?_; · (simp; done))); done) | skip) | ((first | refine BrM.yes (by omega) ?_ | refine BrM.t rfl ?_ | refine BrM.f rfl ?_ | refine BrM.dec (fun _ => ?_) (fun _ => ?_) | refine BrM.mk (fun _ => ?_) (fun _ => ?_) | refine Ar.i64 (by omega) (by omega) ?_ | refine gR rfl ?_ | refine gP rfl (by repeat constructor) ?_) <;> conv => whnf) | (refine atIndex ?_; refine Nx.sidx rfl rfl rfl Tryz.underlying9 rfl (by omega) (by omega) ?_) | (refine atSlice ?_; refine Nx.ssl rfl rfl Tryz.underlying9 rfl rfl rfl (by omega) (by omega) (by omega) ?_) | refine Nx.late ?_)
      · have hm : minusB s = false := by
          unfold minusB
          rw [List.getElem?_eq_getElem h0]
          simp only [Option.some.injEq, decide_eq_false_iff_not]
          intro e
          exact h1 (by rw [byteAt_zero h0, e]; rfl)
        have hdd : d = s := by rw [hd]; exact magn_plain hm
        rw [hmb, hm, hdd] at K
        repeat' (first | (with_reducible refine Nx.weak K ?_ ?_ ?_ ?_) <;> (first | ((repeat (first | exact .nil _ | refine .cons rfl ?_ | refine .cons rfl rfl ?_ | refine .cons rfl rfl rfl ?_ | refine .cons' rfl (fun _ => rfl) ?_)); done) | omega | (dsimp only; omega) | (repeat (first | exact subE.nil _ | refine subE.cons rfl rfl ?_ | refine subE.cons' rfl (fun _ => rfl) ?_ | (refine subE.cons rfl ?_ ?_; · (simp; done))); done) | skip) | ((first | refine BrM.yes (by omega) ?_ | refine BrM.not (by omega) ?_ | refine BrM.t rfl ?_ | refine BrM.f rfl ?_ | refine BrM.dec (fun _ => ?_) (fun _ => ?_) | refine BrM.mk (fun _ => ?_) (fun _ => ?_) | refine Ar.i64 (by omega) (by omega) ?_ | refine gR rfl ?_ | refine gP rfl (by repeat constructor) ?_) <;> conv => whnf) | (refine atIndex ?_; refine Nx.sidx rfl rfl rfl Tryz.underlying9 rfl (by omega) (by omega) ?_) | refine Nx.late ?_)
    · have hs0 : s = [] := List.eq_nil_of_length_eq_zero (by omega)
      have hm : minusB s = false := by rw [hs0]; rfl
      have hdd : d = s := by rw [hd]; exact magn_plain hm
      rw [hmb, hm, hdd] at K
      repeat' (first | (with_reducible refine Nx.weak K ?_ ?_ ?_ ?_) <;> (first | ((repeat (first | exact .nil _ | refine .cons rfl ?_ | refine .cons rfl rfl ?_ | refine .cons rfl rfl rfl ?_ | refine .cons' rfl (fun _ => rfl) ?_)); done) | omega | (dsimp only; omega) | (repeat (first | exact subE.nil _ | refine subE.cons rfl rfl ?_ | refine subE.cons' rfl (fun _ => rfl) ?_ | (refine subE.cons rfl ?_ ?_; · (simp; done))); done) | skip) | ((first | refine BrM.not (by omega) ?_ | refine BrM.t rfl ?_ | refine BrM.f rfl ?_ | refine BrM.dec (fun _ => ?_) (fun _ => ?_) | refine BrM.mk (fun _ => ?_) (fun _ => ?_) | refine Ar.i64 (by omega) (by omega) ?_ | refine gR rfl ?_ | refine gP rfl (by repeat constructor) ?_) <;> conv => whnf) | refine Nx.late ?_)
  have hdz : (⟨d.toArray⟩ : ByteArray).size = d.length := by simp [ByteArray.size]
  have bad1 : d.length = 0 ∨ 19 < d.length → numOf s = none := fun h => num_bad1 (hd ▸ h)
  have bad2 : 1 < d.length → byteAt d 0 = 48 → numOf s = none := fun h1 h2 => num_bad2 (hd ▸ h1) (by
    rw [← hd, List.getElem?_eq_getElem (by omega : 0 < d.length)]
    congr 1
    exact (byte_eq (n := 48) (by omega)).1 (by rw [← byteAt_zero (by omega)]; exact h2))
  have bad3 : mb = true → d = [48] → numOf s = none := fun h1 h2 => num_bad3 (hmb ▸ h1) (hd ▸ h2)
  have bad4 : ∀ k, k < d.length → (byteAt d k < 48 ∨ 57 < byteAt d k) → numOf s = none := fun k hk h => by
    subst hd
    refine num_bad4 (List.getElem_mem hk) ?_
    rw [byteAt_nat hk] at h
    unfold isDig
    omega
  have bad5 : ∀ k, 9223372036854775808 < val (d.take k) → numOf s = none := fun k h => num_bad5 (k := k) (hd ▸ h)
  have bad6 : mb = false → 9223372036854775808 ≤ val d → numOf s = none := fun h1 h2 => num_bad6 (hmb ▸ h1) (hd ▸ h2)
  have neg : mb = true → (∀ c ∈ d, isDig c) → d ≠ [] → lead d → d ≠ [48] → val d ≤ 9223372036854775808 → numOf s = some (-(val d : Int)) := fun h1 h2 h3 h4 h5 h6 => hd ▸ num_neg (hmb ▸ h1) (hd ▸ h2) (hd ▸ h3) (hd ▸ h4) (hd ▸ h5) (hd ▸ h6)
  have pos : mb = false → (∀ c ∈ d, isDig c) → d ≠ [] → lead d → val d < 9223372036854775808 → numOf s = some (val d : Int) := fun h1 h2 h3 h4 h6 => hd ▸ num_pos (hmb ▸ h1) (hd ▸ h2) (hd ▸ h3) (hd ▸ h4) (hd ▸ h6)
  have fail : numOf s = none → numV s = .tuple #[.int .i64 0, .bool false] := fun h => by unfold numV; rw [h]
  have good : ∀ v, numOf s = some v → numV s = .tuple #[.int .i64 v, .bool true] := fun v h => by unfold numV; rw [h]
  clear hd hmb
  have lead_of : ¬ (1 < d.length ∧ byteAt d 0 = 48) → lead d := fun h hl he => by
    rw [List.getElem?_eq_getElem (by omega : 0 < d.length)] at he
    injection he with he
    exact h ⟨hl, by rw [byteAt_zero (by omega), he]; rfl⟩
  have not3 : ¬ (ByteArray.toList ⟨d.toArray⟩ = ByteArray.toList ⟨#[48]⟩) → d ≠ [48] := fun h e => h (by rw [e])
  refine go 1 ?_
  conv => whnf
  refine Nx.joinX (X := (PLift (d ≠ [] ∧ d.length ≤ 19 ∧ lead d ∧ (mb = true → d ≠ [48])))) (E := fun x => [(2, iv 0), (3, bv false), (4, bv mb), (5, sv d)]) (M := fun x => []) (B := []) (R := fun x => []) (fun K => ?_) ?_
  · have ne0 : ¬ d.length = 0 → d ≠ [] := fun h e => h (by rw [e]; rfl)
    repeat' (first | (with_reducible refine Nx.weak K ?_ ?_ ?_ ?_) <;> (first | ((repeat (first | exact .nil _ | refine .cons rfl ?_ | refine .cons rfl rfl ?_ | refine .cons rfl rfl rfl ?_ | refine .cons' rfl (fun _ => rfl) ?_)); done) | omega | (dsimp only; omega) | (repeat (first | exact subE.nil _ | refine subE.cons rfl rfl ?_ | refine subE.cons' rfl (fun _ => rfl) ?_ | (refine subE.cons rfl ?_ ?_; · (simp; done))); done) | skip) | ((with_reducible refine Nx.weak (K ?_) ?_ ?_ ?_ ?_) <;> (first | exact ⟨⟨ne0 (by omega), by omega, lead_of (by first | (rintro ⟨h1, h2⟩; omega) | (rintro ⟨h1, h2⟩; contradiction)), by first | (intro h; exact absurd (h.symm.trans (show mb = false by assumption)) (by decide)) | (intro _; exact not3 (by assumption))⟩⟩ | (first | ((repeat (first | exact .nil _ | refine .cons rfl ?_ | refine .cons rfl rfl ?_ | refine .cons rfl rfl rfl ?_ | refine .cons' rfl (fun _ => rfl) ?_)); done) | omega | (dsimp only; omega) | (repeat (first | exact subE.nil _ | refine subE.cons rfl rfl ?_ | refine subE.cons' rfl (fun _ => rfl) ?_ | (refine subE.cons rfl ?_ ?_; · (simp; done))); done)) | skip)) | ((first | refine BrM.t rfl ?_ | refine BrM.f rfl ?_ | refine BrM.dec (fun _ => ?_) (fun _ => ?_) | refine BrM.mk (fun _ => ?_) (fun _ => ?_) | refine Ar.i64 (by omega) (by omega) ?_ | refine gR rfl ?_ | refine gP rfl (by repeat constructor) ?_) <;> conv => whnf) | (refine atIndex ?_; refine Nx.sidx rfl rfl rfl Tryz.underlying9 rfl (by omega) (by omega) ?_) | (refine atRet ?_; refine Nx.ret [] Tryz.func75 rfl rfl ?_; (refine ⟨?_, rfl⟩; rw [fail (by first | exact bad1 (by omega) | exact bad2 (by omega) (by assumption) | exact bad3 (by assumption) (toList_eq (by assumption)))]; rfl)) | refine Nx.late ?_)
  rintro ⟨hd0, hd19, hlead, h48⟩
  repeat' (first | ((first | refine BrM.t rfl ?_ | refine BrM.f rfl ?_ | refine BrM.dec (fun _ => ?_) (fun _ => ?_) | refine BrM.mk (fun _ => ?_) (fun _ => ?_) | refine Ar.i64 (by omega) (by omega) ?_ | refine gO rfl ?_ | refine gP rfl (by repeat constructor) ?_) <;> conv => whnf) | (fail) | refine Nx.late ?_)
  refine Nx.loop (X := Nat × Nat) (NbI d) (fun x => d.length - x.1)
    (fun x => [(2, iv 0), (3, bv false), (4, bv mb), (5, sv d), (6, iv (-(x.2 : Int))), (7, iv x.1)]) (fun _ => []) [] (fun x => [])
    (0, 0) ⟨Nat.zero_le _, by simp, rfl, by omega⟩ ?_ ?_ ?_ ?_ ?_
  all_goals repeat (first | exact .nil _ | refine .cons rfl ?_ | refine .cons rfl rfl ?_ | refine .cons rfl rfl rfl ?_ | refine .cons' rfl (fun _ => rfl) ?_)
  intro x hx ih
  obtain ⟨k, u⟩ := x
  have hk := hx.k
  have hdg := hx.dig
  have hv := hx.v
  have hb := hx.b
  simp only at hk hdg hv hb
  by_cases hlt : k < d.length
  · have hr := byteAt_range d k
    have hbad := bad4 k hlt
    have hval := val_take hlt
    rw [← hv] at hval
    have hbb := byteAt_nat hlt
    have h5 := bad5 (k + 1)
    rw [hval] at h5
    have hdgs := take_dig hlt hdg
    have hig : isDig d[k] ↔ 48 ≤ byteAt d k ∧ byteAt d k ≤ 57 := by rw [hbb]; unfold isDig; omega
    obtain ⟨b, hbe⟩ : ∃ b, b = byteAt d k := ⟨_, rfl⟩
    rw [← hbe] at hr hbad hbb hig
    obtain ⟨c, hc⟩ : ∃ c, c = d[k].toNat - 48 := ⟨_, rfl⟩
    rw [← hc] at hval h5
    have hbc : 48 ≤ b → b = c + 48 := fun h => by omega
    have nx : 48 ≤ b → b ≤ 57 → ¬ 9223372036854775808 < u * 10 + c → NbI d (k + 1, u * 10 + c) := fun h1 h2 h3 => ⟨hlt, hdgs (hig.2 ⟨h1, h2⟩), hval.symm, by show u * 10 + c ≤ _; omega⟩
    clear hx
    repeat' (first | (rw [← hbe]) | (refine atAr ?_; refine Ar.to (k := .i64) ((-((u*10+c:Nat):Int))) (by omega) ⟨by omega, by omega⟩ ?_; conv => whnf) | (refine atAr ?_; refine Ar.to (k := .i64) (((k+1:Nat):Int)) (by omega) ⟨by omega, by omega⟩ ?_; conv => whnf) | ((first | refine BrM.yes (by omega) ?_ | refine BrM.not (by omega) ?_ | refine BrM.t rfl ?_ | refine BrM.f rfl ?_ | refine BrM.dec (fun _ => ?_) (fun _ => ?_) | refine BrM.mk (fun _ => ?_) (fun _ => ?_) | refine Ar.i64 (by omega) (by omega) ?_ | refine gO rfl ?_ | refine gP rfl (by repeat constructor) ?_) <;> conv => whnf) | (refine atIndex ?_; refine Nx.sidx rfl rfl rfl Tryz.underlying9 rfl (by omega) (by omega) ?_) | (refine atAr ?_; refine Ar.ok (k := .u8) ⟨by omega, by omega⟩ ?_; conv => whnf) | (refine atRet ?_; refine Nx.ret [] Tryz.func75 rfl rfl ?_; (refine ⟨?_, rfl⟩; rw [fail (by first | exact hbad (by omega) | exact h5 (by omega))]; rfl)) | ((with_reducible refine atIn ?_); refine Nx.weak ((ih (k + 1, u * 10 + c) (nx (by omega) (by omega) (by omega)) (by show d.length - (k + 1) < d.length - k; omega))) ?_ ?_ ?_ ?_ <;> (first | ((repeat (first | exact .nil _ | refine .cons rfl ?_ | refine .cons rfl rfl ?_ | refine .cons rfl rfl rfl ?_ | refine .cons' rfl (fun _ => rfl) ?_)); done) | omega | (dsimp only; omega) | (repeat (first | exact subE.nil _ | refine subE.cons rfl rfl ?_ | refine subE.cons' rfl (fun _ => rfl) ?_ | (refine subE.cons rfl ?_ ?_; · (simp; done))); done) | (skip) | skip)) | refine Nx.late ?_)
    all_goals trace_state
  · have hkl : k = d.length := by omega
    subst hkl
    rw [List.take_length] at hdg hv
    have key : (mb = true → numOf s = some (-(u : Int))) ∧ (mb = false → (9223372036854775808 ≤ u → numOf s = none) ∧ (u < 9223372036854775808 → numOf s = some (u : Int))) := by
      refine ⟨fun h => ?_, fun h => ⟨fun h2 => bad6 h (by omega), fun h2 => ?_⟩⟩
      · rw [hv]; exact neg h hdg hd0 hlead (h48 h) (by omega)
      · rw [hv]; exact pos h hdg hd0 hlead (by omega)
    clear hx ih
    repeat' (first | (refine atAr ?_; refine Ar.to (k := .i64) ((u:Int)) (by omega) ⟨by omega, by omega⟩ ?_; conv => whnf) | ((first | refine BrM.yes (by omega) ?_ | refine BrM.not (by omega) ?_ | refine BrM.t rfl ?_ | refine BrM.f rfl ?_ | refine BrM.dec (fun _ => ?_) (fun _ => ?_) | refine BrM.mk (fun _ => ?_) (fun _ => ?_) | refine Ar.i64 (by omega) (by omega) ?_ | refine gO rfl ?_ | refine gP rfl (by repeat constructor) ?_) <;> conv => whnf) | (refine atRet ?_; refine Nx.ret [] Tryz.func75 rfl rfl ?_; (refine ⟨?_, rfl⟩; first | (rw [fail ((key.2 (by assumption)).1 (by omega))]; rfl) | (rw [good _ (key.1 (by assumption))]; rfl) | (rw [good _ ((key.2 (by assumption)).2 (by omega))]; rfl))) | refine Nx.late ?_)

theorem take_at {s : Str} {c : UInt8} {k : Nat} (hk : k < s.length) (hno : c ∉ s.take k) (he : s[k] ≠ c) : c ∉ s.take (k + 1) := by
  rw [List.take_succ_eq_append_getElem hk]
  intro hm
  rcases List.mem_append.1 hm with hm | hm
  · exact hno hm
  · rw [List.mem_singleton] at hm; exact he hm.symm
structure SpX where
  i : Nat
  p : Nat
  l : List Str
  A : Option Addr
  c : Nat
structure SpI (s : Str) (c : UInt8) (x : SpX) : Prop where
  i : x.i ≤ s.length + 1
  len : x.l.length ≤ x.i
  go : x.i ≤ s.length → x.p ≤ x.i ∧ c ∉ (s.take x.i).drop x.p ∧ x.l ++ splitC c (s.drop x.p) = splitC c s
  fin : x.i = s.length + 1 → x.l = splitC c s
theorem drop_cut {s : Str} {p i : Nat} (hp : p ≤ i) (hi : i < s.length) : s.drop p = (s.take i).drop p ++ s[i] :: s.drop (i + 1) := by
  have h1 : s = s.take i ++ s[i] :: s.drop (i + 1) := by
    conv => lhs; rw [← List.take_append_drop i s]
    rw [List.drop_eq_getElem_cons hi]
  conv => lhs; rw [h1]
  rw [List.drop_append_of_le_length (by simp; omega)]
theorem drop_more {s : Str} {c : UInt8} {p i : Nat} (hp : p ≤ i) (hi : i < s.length) (hno : c ∉ (s.take i).drop p) (he : s[i] ≠ c) : c ∉ (s.take (i + 1)).drop p := by
  rw [List.take_succ_eq_append_getElem hi, List.drop_append_of_le_length (by simp; omega)]
  intro hm
  rcases List.mem_append.1 hm with hm | hm
  · exact hno hm
  · rw [List.mem_singleton] at hm; exact he hm.symm
theorem SpI.yes {s : Str} {c : UInt8} {x : SpX} (h : SpI s c x) (hi : x.i < s.length) (he : s[x.i] = c) (A : Option Addr) (d : Nat) : SpI s c ⟨x.i + 1, x.i + 1, x.l ++ [(s.take x.i).drop x.p], A, d⟩ := by
  obtain ⟨h1, h2, h3⟩ := h.go (by omega)
  have hl := h.len
  refine ⟨by show x.i + 1 ≤ _; omega, by simp; omega, fun _ => ⟨Nat.le_refl _, by simp, ?_⟩, fun e => ?_⟩
  · rw [← h3, drop_cut h1 hi, he, splitC_append _ h2]; simp
  · have e : x.i + 1 = s.length + 1 := e
    omega
theorem SpI.no {s : Str} {c : UInt8} {x : SpX} (h : SpI s c x) (hi : x.i < s.length) (he : s[x.i] ≠ c) : SpI s c ⟨x.i + 1, x.p, x.l, x.A, x.c⟩ := by
  obtain ⟨h1, h2, h3⟩ := h.go (by omega)
  have hl := h.len
  refine ⟨by show x.i + 1 ≤ _; omega, by show x.l.length ≤ x.i + 1; omega, fun _ => ⟨by show x.p ≤ x.i + 1; omega, drop_more h1 hi h2 he, h3⟩, fun e => ?_⟩
  have e : x.i + 1 = s.length + 1 := e
  omega
theorem SpI.end_ {s : Str} {c : UInt8} {x : SpX} (h : SpI s c x) (hi : x.i = s.length) (A : Option Addr) (d : Nat) : SpI s c ⟨x.i + 1, x.i + 1, x.l ++ [(s.take x.i).drop x.p], A, d⟩ := by
  obtain ⟨h1, h2, h3⟩ := h.go (by omega)
  have hl := h.len
  refine ⟨by show x.i + 1 ≤ _; omega, by simp; omega, fun e => ?_, fun _ => ?_⟩
  · have e : x.i + 1 ≤ s.length := e
    omega
  · rw [hi, List.take_length] at h2 ⊢
    rw [← h3, splitC_no h2]
theorem SplitR_ok (s : Str) (c : UInt8) (hs : s.length ≤ 9000000) : FnOk Tryz.prog 73 [str s, .int .u8 c.toNat] []
    (fun v Q => ∃ A d, v = .slice A (splitC c s).length d ∧ Q = [ownS 9 A (splitC c s).length d 1 (strs (splitC c s))]) := by
  have hsz : (⟨s.toArray⟩ : ByteArray).size = s.length := by simp [ByteArray.size]
  refine FnOk.start Tryz.func73 rfl rfl rfl rfl fun F os tape output => ?_
  refine go 200 ?_
  conv => whnf
  refine Nx.give 5 (ownS 9 none 0 0 1 []) (own_nil _ _ _ _) ?_
  refine Nx.loop (X := SpX) (SpI s c) (fun x => s.length + 1 - x.i)
    (fun x => [(0, sv s), (1, .c (.v (.int .u8 c.toNat))), (5, sl x.A x.l.length x.c), (6, iv x.p), (7, iv x.i)]) (fun _ => []) [] (fun x => [(5, ownS 9 x.A x.l.length x.c 1 (strs x.l))]) ⟨0, 0, [], none, 0⟩ ⟨by simp, by simp, fun _ => ⟨by simp, by simp, by simp⟩, fun e => by cases e⟩ ?_ ?_ ?_ ?_ ?_
  all_goals repeat (first | exact .nil _ | refine .cons rfl ?_ | refine .cons rfl rfl ?_ | refine .cons rfl rfl rfl ?_ | refine .cons' rfl (fun _ => rfl) ?_)
  intro x hx ih
  have hi := hx.i
  have hln := hx.len
  by_cases hlt : x.i ≤ s.length
  · obtain ⟨hpi, _, _⟩ := hx.go hlt
    by_cases hend : x.i = s.length
    · have nx := hx.end_ hend
      repeat' (first | (refine atAr ?_; refine Ar.to (k := .i64) (((x.i+1:Nat):Int)) (by omega) ⟨by omega, by omega⟩ ?_; conv => whnf) | ((first | refine BrM.yes (by omega) ?_ | refine BrM.t rfl ?_ | refine BrM.f rfl ?_ | refine BrM.dec (fun _ => ?_) (fun _ => ?_) | refine BrM.mk (fun _ => ?_) (fun _ => ?_) | refine Ar.i64 (by omega) (by omega) ?_ | refine gO rfl ?_ | refine gP rfl (by repeat constructor) ?_) <;> conv => whnf) | (refine atSlice ?_; refine Nx.ssl rfl rfl Tryz.underlying9 rfl rfl rfl (by omega) (by omega) (by omega) ?_) | (refine atApp ?_; refine Nx.append 5 (sz := 1) (by_ := 16) (news := [str ((s.take x.i).drop x.p)]) rfl rfl rfl rfl rfl Tryz.underlying39 rfl rfl rfl rfl rfl (by unfold maxLen; omega) (by omega) fun A' c'' => ?_) | refine Nx.late ?_)
      refine (ih _ (nx A' c'') (by show s.length + 1 - (x.i + 1) < s.length + 1 - x.i; omega)).weak ?_ ?_ ?_ ?_
      · exact .cons rfl rfl (.cons rfl rfl (.cons rfl (by simp) (.cons rfl rfl (.cons rfl rfl (.nil _)))))
      · repeat (first | exact subM.nil _ | refine subM.cons rfl rfl rfl ?_)
      · repeat (first | exact subB.nil _ | refine subB.cons rfl ?_)
      · exact .cons rfl (by simp) (.nil _)
    · have hlt2 : x.i < s.length := by omega
      have hb := byteAt_nat hlt2
      by_cases he : s[x.i] = c
      · have hb2 : byteAt s x.i = c.toNat := by rw [hb, he]
        have nx := hx.yes hlt2 he
        repeat' (first | (refine atAr ?_; refine Ar.to (k := .i64) (((x.i+1:Nat):Int)) (by omega) ⟨by omega, by omega⟩ ?_; conv => whnf) | ((first | refine BrM.yes (by omega) ?_ | refine BrM.not (by omega) ?_ | refine BrM.t rfl ?_ | refine BrM.f rfl ?_ | refine BrM.dec (fun _ => ?_) (fun _ => ?_) | refine BrM.mk (fun _ => ?_) (fun _ => ?_) | refine Ar.i64 (by omega) (by omega) ?_ | refine gO rfl ?_ | refine gP rfl (by repeat constructor) ?_) <;> conv => whnf) | (refine atIndex ?_; refine Nx.sidx rfl rfl rfl Tryz.underlying9 rfl (by omega) (by omega) ?_) | (refine atSlice ?_; refine Nx.ssl rfl rfl Tryz.underlying9 rfl rfl rfl (by omega) (by omega) (by omega) ?_) | (refine atApp ?_; refine Nx.append 5 (sz := 1) (by_ := 16) (news := [str ((s.take x.i).drop x.p)]) rfl rfl rfl rfl rfl Tryz.underlying39 rfl rfl rfl rfl rfl (by unfold maxLen; omega) (by omega) fun A' c'' => ?_) | refine Nx.late ?_)
        refine (ih _ (nx A' c'') (by show s.length + 1 - (x.i + 1) < s.length + 1 - x.i; omega)).weak ?_ ?_ ?_ ?_
        · exact .cons rfl rfl (.cons rfl rfl (.cons rfl (by simp) (.cons rfl rfl (.cons rfl rfl (.nil _)))))
        · repeat (first | exact subM.nil _ | refine subM.cons rfl rfl rfl ?_)
        · repeat (first | exact subB.nil _ | refine subB.cons rfl ?_)
        · exact .cons rfl (by simp) (.nil _)
      · have hb2 : byteAt s x.i ≠ c.toNat := fun h => he (UInt8.toNat_inj.1 (by omega))
        have nx := hx.no hlt2 he
        repeat' (first | (refine atAr ?_; refine Ar.to (k := .i64) (((x.i+1:Nat):Int)) (by omega) ⟨by omega, by omega⟩ ?_; conv => whnf) | ((first | refine BrM.yes (by omega) ?_ | refine BrM.not (by omega) ?_ | refine BrM.t rfl ?_ | refine BrM.f rfl ?_ | refine BrM.dec (fun _ => ?_) (fun _ => ?_) | refine BrM.mk (fun _ => ?_) (fun _ => ?_) | refine Ar.i64 (by omega) (by omega) ?_ | refine gO rfl ?_ | refine gP rfl (by repeat constructor) ?_) <;> conv => whnf) | (refine atIndex ?_; refine Nx.sidx rfl rfl rfl Tryz.underlying9 rfl (by omega) (by omega) ?_) | ((with_reducible refine atIn ?_); refine Nx.weak ((ih _ nx (by show s.length + 1 - (x.i + 1) < s.length + 1 - x.i; omega))) ?_ ?_ ?_ ?_ <;> (first | ((repeat (first | exact .nil _ | refine .cons rfl ?_ | refine .cons rfl rfl ?_ | refine .cons rfl rfl rfl ?_ | refine .cons' rfl (fun _ => rfl) ?_)); done) | omega | (dsimp only; omega) | (repeat (first | exact subE.nil _ | refine subE.cons rfl rfl ?_ | refine subE.cons' rfl (fun _ => rfl) ?_ | (refine subE.cons rfl ?_ ?_; · (simp; done))); done) | (skip) | skip)) | refine Nx.late ?_)
  · have hf := hx.fin (by omega)
    repeat' (first | ((first | refine BrM.not (by omega) ?_ | refine BrM.t rfl ?_ | refine BrM.f rfl ?_ | refine BrM.dec (fun _ => ?_) (fun _ => ?_) | refine BrM.mk (fun _ => ?_) (fun _ => ?_) | refine Ar.i64 (by omega) (by omega) ?_ | refine gO rfl ?_ | refine gP rfl (by repeat constructor) ?_) <;> conv => whnf) | (refine atRet ?_; refine Nx.ret [5] Tryz.func73 rfl rfl ?_; (exact ⟨x.A, x.c, by rw [hf]; rfl, by rw [hf]⟩)) | refine Nx.late ?_)
/-- The place of the first colon. -/
def colonI (s : Str) : Int := match pairC 58 s with | some (a, _) => a.length | none => -1
theorem colon_at (s : Str) {k : Nat} (hk : k < s.length) (hno : (58 : UInt8) ∉ s.take k) (he : s[k] = 58) : pairC 58 s = some (s.take k, s.drop (k + 1)) := by
  rw [pairC_some]
  refine ⟨?_, hno⟩
  conv => lhs; rw [← List.take_append_drop k s]
  rw [List.drop_eq_getElem_cons hk, he]
theorem colon_ok (s : Str) (hs : s.length ≤ 9000000) : FnOk Tryz.prog 74 [str s] [] (fun v Q => v = .int .i64 (colonI s) ∧ Q = []) := by
  have hsz : (⟨s.toArray⟩ : ByteArray).size = s.length := by simp [ByteArray.size]
  refine FnOk.start Tryz.func74 rfl rfl rfl rfl fun F os tape output => ?_
  refine go 200 ?_
  conv => whnf
  refine Nx.loop (X := Nat) (fun k => k ≤ s.length ∧ 58 ∉ s.take k) (fun k => s.length - k)
    (fun k => [(0, sv s), (3, iv k)]) (fun _ => []) [] (fun _ => []) 0 ⟨Nat.zero_le _, by simp⟩ ?_ ?_ ?_ ?_ ?_
  all_goals repeat (first | exact .nil _ | refine .cons rfl ?_ | refine .cons rfl rfl ?_ | refine .cons rfl rfl rfl ?_ | refine .cons' rfl (fun _ => rfl) ?_)
  intro k ⟨hk, hno⟩ ih
  by_cases hlt : k < s.length
  · have hb := byteAt_nat hlt
    by_cases he : s[k] = 58
    · have hb2 : byteAt s k = 58 := by rw [hb, he]; rfl
      have hp : colonI s = k := by unfold colonI; rw [colon_at s hlt hno he]; simp; omega
      repeat' (first | ((first | refine BrM.yes (by omega) ?_ | refine BrM.t rfl ?_ | refine BrM.f rfl ?_ | refine BrM.dec (fun _ => ?_) (fun _ => ?_) | refine BrM.mk (fun _ => ?_) (fun _ => ?_) | refine Ar.i64 (by omega) (by omega) ?_ | refine gO rfl ?_ | refine gP rfl (by repeat constructor) ?_) <;> conv => whnf) | (refine atIndex ?_; refine Nx.sidx rfl rfl rfl Tryz.underlying9 rfl (by omega) (by omega) ?_) | (refine atRet ?_; refine Nx.ret [] Tryz.func74 rfl rfl ?_; (exact ⟨by rw [hp]; rfl, rfl⟩)) | refine Nx.late ?_)
    · have hb2 : byteAt s k ≠ 58 := fun h => he ((byte_eq (n := 58) (by omega)).1 (by rw [← hb]; exact h))
      have nx := take_at hlt hno he
      repeat' (first | (refine atAr ?_; refine Ar.to (k := .i64) (((k+1:Nat):Int)) (by omega) ⟨by omega, by omega⟩ ?_; conv => whnf) | ((first | refine BrM.yes (by omega) ?_ | refine BrM.not (by omega) ?_ | refine BrM.t rfl ?_ | refine BrM.f rfl ?_ | refine BrM.dec (fun _ => ?_) (fun _ => ?_) | refine BrM.mk (fun _ => ?_) (fun _ => ?_) | refine Ar.i64 (by omega) (by omega) ?_ | refine gO rfl ?_ | refine gP rfl (by repeat constructor) ?_) <;> conv => whnf) | (refine atIndex ?_; refine Nx.sidx rfl rfl rfl Tryz.underlying9 rfl (by omega) (by omega) ?_) | ((with_reducible refine atIn ?_); refine Nx.weak ((ih (k + 1) ⟨by omega, nx⟩ (by omega))) ?_ ?_ ?_ ?_ <;> (first | ((repeat (first | exact .nil _ | refine .cons rfl ?_ | refine .cons rfl rfl ?_ | refine .cons rfl rfl rfl ?_ | refine .cons' rfl (fun _ => rfl) ?_)); done) | omega | (dsimp only; omega) | (repeat (first | exact subE.nil _ | refine subE.cons rfl rfl ?_ | refine subE.cons' rfl (fun _ => rfl) ?_ | (refine subE.cons rfl ?_ ?_; · (simp; done))); done) | (skip) | skip)) | refine Nx.late ?_)
  · have : k = s.length := by omega
    subst this
    rw [List.take_length] at hno
    have hp : colonI s = -1 := by unfold colonI; rw [pairC_none.2 hno]
    repeat' (first | ((first | refine BrM.not (by omega) ?_ | refine BrM.t rfl ?_ | refine BrM.f rfl ?_ | refine BrM.dec (fun _ => ?_) (fun _ => ?_) | refine BrM.mk (fun _ => ?_) (fun _ => ?_) | refine Ar.i64 (by omega) (by omega) ?_ | refine gO rfl ?_ | refine gP rfl (by repeat constructor) ?_) <;> conv => whnf) | (refine atRet ?_; refine Nx.ret [] Tryz.func74 rfl rfl ?_; (exact ⟨by rw [hp]; rfl, rfl⟩)) | refine Nx.late ?_)
end Go.Proofs.YtccmdlmlbkpjjaaGreatDoor

/- The program's numbers of words; a deed's name. -/
namespace Go.Proofs.YtccmdlmlbkpjjaaGreatDoor
open Go.RowKit Go.Lib
attribute [local irreducible] Nx Ar BrM headC OneC HoC AftC planHead endF
set_option maxRecDepth 20000
set_option maxHeartbeats 4000000
theorem tlR_eq {a b : Str} (h : a = b) : ByteArray.toList ⟨a.toArray⟩ = ByteArray.toList ⟨b.toArray⟩ := by rw [h]
def valueP (s : Str) (v : Value) : Prop := (∃ n, numOf s = some n ∧ v = .tuple #[.int .i64 n, .bool true]) ∨ (numOf s = none ∧ ∃ n, v = .tuple #[.int .i64 n, .bool false])
theorem value_ok {m : PH} (hG : Glo m) (s : Str) (hs : s.length ≤ 1000000) : FnOk Tryz.prog 121 [str s] [roAll m] (fun v Q => valueP s v ∧ Q = [roAll m]) := by
  refine FnOk.start Tryz.func121 rfl rfl rfl rfl fun F os tape output => ?_
  refine go 200 ?_
  conv => whnf
  refine Nx.call [0] [0] rfl rfl rfl rfl rfl (ParseInt_ok hG s (by omega)) rfl fun v Q hQ => ?_
  obtain ⟨hv, rfl⟩ := hQ
  rcases hv with ⟨u, hp, rfl⟩ | ⟨hp, n, T, p, rfl⟩
  · have hu := parse_bound hp
    have key : numOf s = if itoa u = s then some u else none := by unfold numOf; rw [hp]
    by_cases he : itoa u = s
    · rw [if_pos he] at key
      repeat' (first | ((first | refine BrM.t rfl ?_ | refine BrM.f rfl ?_ | refine BrM.dec (fun _ => ?_) (fun _ => ?_) | refine BrM.mk (fun _ => ?_) (fun _ => ?_) | refine Ar.i64 (by omega) (by omega) ?_ | refine gO rfl ?_ | refine gP rfl (by repeat constructor) ?_) <;> conv => whnf) | (refine atCall 50 ?_; refine cE [0] [0] rfl rfl rfl rfl rfl ((number_ok hG.toGlN u hu)) rfl ?_) | (refine atRet ?_; refine Nx.ret [0] Tryz.func121 rfl rfl ?_; (exact ⟨.inl ⟨u, key, by first | rfl | (rw [decide_eq_true (tlR_eq he)]; rfl)⟩, rfl⟩)) | refine Nx.late ?_)
    · rw [if_neg he] at key
      repeat' (first | ((first | refine BrM.t rfl ?_ | refine BrM.f rfl ?_ | refine BrM.dec (fun _ => ?_) (fun _ => ?_) | refine BrM.mk (fun _ => ?_) (fun _ => ?_) | refine Ar.i64 (by omega) (by omega) ?_ | refine gO rfl ?_ | refine gP rfl (by repeat constructor) ?_) <;> conv => whnf) | (refine atCall 50 ?_; refine cE [0] [0] rfl rfl rfl rfl rfl ((number_ok hG.toGlN u hu)) rfl ?_) | (refine atRet ?_; refine Nx.ret [0] Tryz.func121 rfl rfl ?_; (exact ⟨.inr ⟨key, u, by first | rfl | (rw [decide_eq_false (fun h => he (toList_eq h))]; rfl)⟩, rfl⟩)) | refine Nx.late ?_)
  · have key : numOf s = none := by
      unfold numOf
      split
      · rename_i v hv; exact absurd hv (hp v)
      · rfl
    repeat' (first | ((first | refine BrM.t rfl ?_ | refine BrM.f rfl ?_ | refine BrM.dec (fun _ => ?_) (fun _ => ?_) | refine BrM.mk (fun _ => ?_) (fun _ => ?_) | refine Ar.i64 (by omega) (by omega) ?_ | refine gO rfl ?_ | refine gP rfl (by repeat constructor) ?_) <;> conv => whnf) | (refine atRet ?_; refine Nx.ret [0] Tryz.func121 rfl rfl ?_; (exact ⟨.inr ⟨key, n, rfl⟩, rfl⟩)) | refine Nx.late ?_)
theorem numsO_take {l : List Str} {k : Nat} {out : List Int} {n : Int} (hk : k < l.length) (h1 : numsO (l.take k) = some out) (h2 : numOf l[k] = some n) : numsO (l.take (k + 1)) = some (out ++ [n]) := by
  induction l generalizing k out with
  | nil => cases hk
  | cons a r ih =>
    cases k with
    | zero =>
      cases h1
      have h2' : numOf a = some n := h2
      simp [numsO, h2']
    | succ k =>
      rw [List.take_succ_cons] at h1 ⊢
      unfold numsO at h1 ⊢
      split at h1
      · rename_i x xs e1 e2
        cases h1
        rw [e1, ih (by simpa using hk) e2 h2]
        rfl
      · cases h1
theorem numsO_bad {l : List Str} {k : Nat} (hk : k < l.length) (h2 : numOf l[k] = none) : numsO l = none := by
  induction l generalizing k with
  | nil => cases hk
  | cons a r ih =>
    unfold numsO
    cases k with
    | zero =>
      have h2' : numOf a = none := h2
      rw [h2']
    | succ k =>
      rw [ih (k := k) (by simpa using hk) h2]
      split
      · rename_i h; cases h
      · rfl
theorem numsO_len : ∀ {l : List Str} {xs : List Int}, numsO l = some xs → xs.length = l.length := fun h => by
  have := (numsO_some h).1
  rw [this, List.length_map]
abbrev i64s (xs : List Int) : List Value := xs.map (.int .i64)
structure VlX where
  k : Nat
  xs : List Int
  A : Option Addr
  c : Nat
def valuesP (l : List Str) (many : Nat) (S : List SP) (v : Value) (Q : List SP) : Prop :=
  (∃ xs A c, valuesO l many = some xs ∧ v = .tuple #[.slice A xs.length c, .bool true] ∧ Q = S ++ [ownS 2 A xs.length c 1 (i64s xs)]) ∨ (valuesO l many = none ∧ ∃ A n c, v = .tuple #[.slice A n c, .bool false] ∧ Q = S)
theorem one1_len (w : Str) : ([str w] : List Value).length = 1 := rfl
theorem strs_flatR (l : List Str) : strs l = l.flatMap fun w => [str w] := by
  induction l with
  | nil => rfl
  | cons a r ih => rw [List.flatMap_cons, ← ih]; rfl
theorem values_ok {m : PH} (hG : Glo m) {S : SP} (A : Option Addr) (c : Nat) (l : List Str) (many : Nat) (hs : Sees S A l.length 1 (strs l)) (hl : ∀ w ∈ l, w.length ≤ 1000000) (hn : l.length ≤ 1000000) :
    FnOk Tryz.prog 71 [.slice A l.length c, .int .i64 many] [roAll m, S] (valuesP l many [roAll m, S]) := by
  rw [strs_flatR] at hs
  refine FnOk.start Tryz.func71 rfl rfl rfl rfl fun F os tape output => ?_
  refine Nx.give 5 (ownS 2 none 0 0 1 []) (own_nil _ _ _ _) ?_
  refine go 200 ?_
  conv => whnf
  by_cases hm : l.length = many
  · have hv : valuesO l many = numsO l := if_pos hm
    repeat' (first | ((first | refine BrM.not (by omega) ?_ | refine BrM.t rfl ?_ | refine BrM.f rfl ?_ | refine BrM.dec (fun _ => ?_) (fun _ => ?_) | refine BrM.mk (fun _ => ?_) (fun _ => ?_) | refine Ar.i64 (by omega) (by omega) ?_ | refine gO rfl ?_ | refine gP rfl (by repeat constructor) ?_) <;> conv => whnf) | refine Nx.late ?_)
    refine Nx.loop (X := VlX) (fun x => x.k ≤ l.length ∧ numsO (l.take x.k) = some x.xs) (fun x => l.length - x.k)
      (fun x => [(0, sl A l.length c), (6, sl x.A x.xs.length x.c), (15, sl A l.length c), (16, iv l.length), (17, iv x.k)]) (fun _ => []) [] (fun x => [(0, roAll m), (1, S), (5, ownS 2 x.A x.xs.length x.c 1 (i64s x.xs))]) ⟨0, [], none, 0⟩ ⟨Nat.zero_le _, rfl⟩ ?_ ?_ ?_ ?_ ?_
    all_goals repeat (first | exact .nil _ | refine .cons rfl ?_ | refine .cons rfl rfl ?_ | refine .cons rfl rfl rfl ?_ | refine .cons' rfl (fun _ => rfl) ?_)
    intro x ⟨hx, hnx⟩ ih
    obtain ⟨k, xs, B, d⟩ := x
    simp only at hx hnx ih ⊢
    have hxl := numsO_len hnx
    rw [List.length_take] at hxl
    by_cases hk : k < l.length
    · repeat' (first | ((first | refine BrM.yes (by omega) ?_ | refine BrM.t rfl ?_ | refine BrM.f rfl ?_ | refine BrM.dec (fun _ => ?_) (fun _ => ?_) | refine BrM.mk (fun _ => ?_) (fun _ => ?_) | refine Ar.i64 (by omega) (by omega) ?_ | refine gO rfl ?_ | refine gP rfl (by repeat constructor) ?_) <;> conv => whnf) | (refine atIdx ?_; refine Nx.idx 1 (j := k) rfl rfl rfl Tryz.underlying39 rfl rfl rfl one1_len hs rfl (by omega) (by omega) fun _ _ _ => ?_) | (refine atLoad ?_; first | (refine Nx.load1 1 rfl rfl rfl rfl (SeesAt.sub (by assumption) _ rfl) rfl ?_) | (refine Nx.load1 1 rfl rfl rfl rfl (by assumption) rfl ?_) | (refine Nx.load 1 rfl rfl rfl rfl (by assumption) rfl rfl ?_)) | refine Nx.late ?_)
      refine Nx.call [0] [0] rfl rfl rfl rfl rfl (value_ok hG l[k] (hl _ (List.getElem_mem hk))) rfl fun v Q hQ => ?_
      obtain ⟨hvp, rfl⟩ := hQ
      rcases hvp with ⟨n, hnn, rfl⟩ | ⟨hnn, n, rfl⟩
      · repeat' (first | ((first | refine BrM.not (by omega) ?_ | refine BrM.t rfl ?_ | refine BrM.f rfl ?_ | refine BrM.dec (fun _ => ?_) (fun _ => ?_) | refine BrM.mk (fun _ => ?_) (fun _ => ?_) | refine Ar.i64 (by omega) (by omega) ?_ | refine gO rfl ?_ | refine gP rfl (by repeat constructor) ?_) <;> conv => whnf) | (refine atApp ?_; refine Nx.append 5 (sz := 1) (by_ := 8) (news := [.int .i64 n]) rfl rfl rfl rfl rfl Tryz.underlying119 rfl rfl rfl rfl rfl (by unfold maxLen; omega) (by omega) fun A' c'' => ?_) | refine Nx.late ?_)
        refine (ih ⟨k + 1, xs ++ [n], A', c''⟩ ⟨by show k + 1 ≤ _; omega, numsO_take hk hnx hnn⟩ (by show _ - (k + 1) < _; omega)).weak ?_ ?_ ?_ ?_
        · exact .cons rfl rfl (.cons rfl (by simp) (.cons rfl rfl (.cons rfl rfl (.cons rfl (by simp) (.nil _)))))
        · repeat (first | exact subM.nil _ | refine subM.cons rfl rfl rfl ?_)
        · repeat (first | exact subB.nil _ | refine subB.cons rfl ?_)
        · exact .cons rfl rfl (.cons rfl rfl (.cons rfl (by simp [i64s]) (.nil _)))
      · repeat' (first | ((first | refine BrM.yes (by omega) ?_ | refine BrM.t rfl ?_ | refine BrM.f rfl ?_ | refine BrM.dec (fun _ => ?_) (fun _ => ?_) | refine BrM.mk (fun _ => ?_) (fun _ => ?_) | refine Ar.i64 (by omega) (by omega) ?_ | refine gO rfl ?_ | refine gP rfl (by repeat constructor) ?_) <;> conv => whnf) | (refine atRet ?_; refine Nx.ret [0,1] Tryz.func71 rfl rfl ?_; (exact .inr ⟨by rw [hv]; exact numsO_bad hk hnn, _, _, _, rfl, rfl⟩)) | refine Nx.late ?_)
    · have e : k = l.length := by omega
      subst e
      rw [List.take_length] at hnx
      repeat' (first | ((first | refine BrM.not (by omega) ?_ | refine BrM.t rfl ?_ | refine BrM.f rfl ?_ | refine BrM.dec (fun _ => ?_) (fun _ => ?_) | refine BrM.mk (fun _ => ?_) (fun _ => ?_) | refine Ar.i64 (by omega) (by omega) ?_ | refine gO rfl ?_ | refine gP rfl (by repeat constructor) ?_) <;> conv => whnf) | (refine atRet ?_; refine Nx.ret [0,1,5] Tryz.func71 rfl rfl ?_; (exact .inl ⟨xs, B, d, by rw [hv]; exact hnx, rfl, rfl⟩)) | refine Nx.late ?_)
  · have hv : valuesO l many = none := if_neg hm
    repeat' (first | ((first | refine BrM.yes (by omega) ?_ | refine BrM.t rfl ?_ | refine BrM.f rfl ?_ | refine BrM.dec (fun _ => ?_) (fun _ => ?_) | refine BrM.mk (fun _ => ?_) (fun _ => ?_) | refine Ar.i64 (by omega) (by omega) ?_ | refine gO rfl ?_ | refine gP rfl (by repeat constructor) ?_) <;> conv => whnf) | (refine atRet ?_; refine Nx.ret [0,1] Tryz.func71 rfl rfl ?_; (exact .inr ⟨hv, _, _, _, rfl, rfl⟩)) | refine Nx.late ?_)
theorem findR_yes {l : List Str} {s : Str} {k : Nat} (hk : k < l.length) (hno : s ∉ l.take k) (he : l[k] = s) : l.findIdx? (fun x => decide (x = s)) = some k := by
  rw [List.findIdx?_eq_some_iff_getElem]
  refine ⟨hk, by simp [he], fun j hj => ?_⟩
  simp only [decide_eq_true_eq]
  intro h
  apply hno
  rw [← h]
  exact List.mem_take_iff_getElem.2 ⟨j, by omega, rfl⟩
theorem findR_no {l : List Str} {s : Str} (hno : s ∉ l) : l.findIdx? (fun x => decide (x = s)) = none := by
  rw [List.findIdx?_eq_none_iff]
  intro x hx
  simp only [decide_eq_false_iff_not]
  rintro rfl
  exact hno hx
theorem strsR_get {l : List Str} {k : Nat} (h : k < l.length) : ((strs l).map Ce.v)[k]? = some (.v (str l[k])) := by simp [h]
theorem notR_take {l : List Str} {s : Str} {k : Nat} (hk : k < l.length) (hno : s ∉ l.take k) (he : ¬ ByteArray.toList ⟨l[k].toArray⟩ = ByteArray.toList ⟨s.toArray⟩) : s ∉ l.take (k + 1) := by
  intro h
  rw [List.take_succ_eq_append_getElem hk] at h
  rcases List.mem_append.1 h with h | h
  · exact hno h
  · rw [List.mem_singleton] at h; exact he (by rw [h])
theorem seesR_all {m : PH} {b : Nat} {vs : List Value} (h : cellsAt m b vs) : SeesAt (roAll m) b 0 vs := by
  intro r h' d hs
  obtain ⟨cs, t, fr, h1, h2⟩ := h
  exact ⟨cs, t, fr, PH.le_un_left r h' _ _ ((show m.le r from hs) _ _ h1), fun i hi => by rw [Nat.zero_add]; exact h2 i hi⟩
abbrev deedV (s : Str) : Value := match deedO s with | some k => .tuple #[.int .i64 k, .bool true] | none => .tuple #[.int .i64 0, .bool false]
theorem deed_ok {m : PH} (hG : Glo m) (s : Str) : FnOk Tryz.prog 70 [str s] [roAll m] (fun v Q => v = deedV s ∧ Q = [roAll m]) := by
  have hlen : deedsL.length = 8 := rfl
  refine FnOk.start Tryz.func70 rfl rfl rfl rfl fun F os tape output => ?_
  refine go 200 ?_
  conv => whnf
  refine Nx.load 0 rfl rfl rfl rfl (seesR_all hG.deeds) rfl rfl ?_
  repeat' (first | ((first | refine BrM.t rfl ?_ | refine BrM.f rfl ?_ | refine BrM.dec (fun _ => ?_) (fun _ => ?_) | refine BrM.mk (fun _ => ?_) (fun _ => ?_) | refine Ar.i64 (by omega) (by omega) ?_ | refine gO rfl ?_ | refine gP rfl (by repeat constructor) ?_) <;> conv => whnf) | (fail) | refine Nx.late ?_)
  refine Nx.loop (X := Nat) (fun k => k ≤ 8 ∧ s ∉ deedsL.take k) (fun k => 8 - k)
    (fun k => [(0, sv s), (6, .agg ((strs deedsL).map .v)), (7, iv k)]) (fun _ => []) [] (fun _ => [(0, roAll m)]) 0 ⟨Nat.zero_le _, by simp⟩ ?_ ?_ ?_ ?_ ?_
  all_goals repeat (first | exact .nil _ | refine .cons rfl ?_ | refine .cons rfl rfl ?_ | refine .cons rfl rfl rfl ?_ | refine .cons' rfl (fun _ => rfl) ?_)
  intro k ⟨hk, hno⟩ ih
  by_cases hlt : k < 8
  · have hlt' : k < deedsL.length := hlt
    have nx := notR_take hlt' hno
    have ys : ByteArray.toList ⟨deedsL[k].toArray⟩ = ByteArray.toList ⟨s.toArray⟩ → deedO s = some k := fun h => findR_yes hlt' hno (toList_eq h)
    repeat' (first | (refine atAr ?_; refine Ar.to (k := .i64) (((k+1:Nat):Int)) (by omega) ⟨by omega, by omega⟩ ?_; conv => whnf) | ((first | refine BrM.yes (by omega) ?_ | refine BrM.t rfl ?_ | refine BrM.f rfl ?_ | refine BrM.dec (fun _ => ?_) (fun _ => ?_) | refine BrM.mk (fun _ => ?_) (fun _ => ?_) | refine Ar.i64 (by omega) (by omega) ?_ | refine gO rfl ?_ | refine gP rfl (by repeat constructor) ?_) <;> conv => whnf) | (refine Nx.elem (y := .v (str deedsL[k])) rfl rfl rfl Tryz.underlying129 rfl rfl rfl hlt (strsR_get hlt') ?_) | (refine atRet ?_; refine Nx.ret [0] Tryz.func70 rfl rfl ?_; (exact ⟨by unfold deedV; rw [ys (by assumption)]; rfl, rfl⟩)) | ((with_reducible refine atIn ?_); refine Nx.weak ((ih (k + 1) ⟨hlt, nx (by assumption)⟩ (by omega))) ?_ ?_ ?_ ?_ <;> (first | ((repeat (first | exact .nil _ | refine .cons rfl ?_ | refine .cons rfl rfl ?_ | refine .cons rfl rfl rfl ?_ | refine .cons' rfl (fun _ => rfl) ?_)); done) | omega | (dsimp only; omega) | (repeat (first | exact subE.nil _ | refine subE.cons rfl rfl ?_ | refine subE.cons' rfl (fun _ => rfl) ?_ | (refine subE.cons rfl ?_ ?_; · (simp; done))); done) | (skip) | skip)) | refine Nx.late ?_)
  · have hn : deedO s = none := findR_no (by rw [show k = deedsL.length from by omega, List.take_length] at hno; exact hno)
    repeat' (first | ((first | refine BrM.not (by omega) ?_ | refine BrM.t rfl ?_ | refine BrM.f rfl ?_ | refine BrM.dec (fun _ => ?_) (fun _ => ?_) | refine BrM.mk (fun _ => ?_) (fun _ => ?_) | refine Ar.i64 (by omega) (by omega) ?_ | refine gO rfl ?_ | refine gP rfl (by repeat constructor) ?_) <;> conv => whnf) | (refine atRet ?_; refine Nx.ret [0] Tryz.func70 rfl rfl ?_; (exact ⟨by unfold deedV; rw [hn]; rfl, rfl⟩)) | refine Nx.late ?_)
end Go.Proofs.YtccmdlmlbkpjjaaGreatDoor

/- Errors: Wrap; is an error a number? -/
namespace Go.Proofs.YtccmdlmlbkpjjaaGreatDoor
open Go.RowKit Go.Lib
attribute [local irreducible] Nx Ar BrM headC OneC HoC AftC planHead endF
set_option maxRecDepth 20000
set_option maxHeartbeats 1000000
def errB (b : Nat) (q : Str × Int) (e : Int) : SP := blk b (.cells #[str q.1, .int .i64 q.2, .iface 45 (.int .i64 e)] 140 (0, 0))
theorem Wrap_ok (op : Str) (seq c : Int) : FnOk Tryz.prog 27 [str op, .int .i64 seq, .iface 45 (.int .i64 c)] [] (fun v Q => ∃ b, v = .iface 138 (.pointer (some ⟨b, 0, none⟩)) ∧ Q = [errB b (op, seq) c]) := by
  refine FnOk.start Tryz.func27 rfl rfl rfl rfl fun F os tape output => ?_
  refine go 200 ?_
  conv => whnf
  repeat' (first | ((first | refine BrM.t rfl ?_ | refine BrM.f rfl ?_ | refine BrM.dec (fun _ => ?_) (fun _ => ?_) | refine BrM.mk (fun _ => ?_) (fun _ => ?_) | refine Ar.i64 (by omega) (by omega) ?_ | refine gO rfl ?_ | refine gP rfl (by repeat constructor) ?_) <;> conv => whnf) | ((with_reducible refine atEsc ?_); intro _; refine Nx.out 13 rfl rfl rfl rfl ?_) | (refine atRet ?_; refine Nx.ret [13] Tryz.func27 rfl rfl ?_; (exact ⟨_, rfl, rfl⟩)) | refine Nx.late ?_)
theorem errB_sees (b : Nat) (vs : List Value) (t : TypeId) (fr : Nat × Nat) (j : Nat) {v : Value} (hv : vs[j]? = some v) : SeesAt (blk b (.cells vs.toArray t fr)) b j [v] := by
  intro r h d hs
  refine ⟨_, _, _, PH.le_un_right d _ _ (show h b = _ from hs), fun i hi => ?_⟩
  have : i = 0 := by simpa using hi
  subst this
  simpa using hv
theorem run91 (v : Value) (w : World) : (callFunc 91 #[.iface 45 v]).run Tryz.prog w = .ok (.value (.iface 242 (.agg #[.pointer (some ⟨12, 45, none⟩)]))) w := by
  obtain ⟨fn, h1, h2, h3, h4, h5⟩ := ext91
  rw [run_callFunc_extern h1 h2 h3 h4 h5, typeOf45]; rfl
theorem run257 (w : World) : (callFunc 257 #[.agg #[.pointer (some ⟨12, 45, none⟩)]]).run Tryz.prog w = .ok (.value (.bool true)) w := by
  obtain ⟨fn, h1, h2, h3, h4, h5⟩ := ext257
  rw [run_callFunc_extern h1 h2 h3 h4 h5, comparable45]; rfl
theorem Unwrap_ok (b : Nat) (q : Str × Int) (c : Int) : FnOk Tryz.prog 243 [.pointer (some ⟨b, 0, none⟩)] [errB b q c] (fun v Q => v = .iface 45 (.int .i64 c) ∧ Q = [errB b q c]) := by
  refine FnOk.start Tryz.func243 rfl rfl rfl rfl fun F os tape output => ?_
  refine go 200 ?_
  conv => whnf
  repeat' (first | ((first | refine BrM.t rfl ?_ | refine BrM.f rfl ?_ | refine BrM.dec (fun _ => ?_) (fun _ => ?_) | refine BrM.mk (fun _ => ?_) (fun _ => ?_) | refine Ar.i64 (by omega) (by omega) ?_ | refine gO rfl ?_ | refine gP rfl (by repeat constructor) ?_) <;> conv => whnf) | (refine atLoad ?_; refine Nx.load1 0 rfl rfl rfl rfl ((errB_sees b _ _ _ 2 rfl)) rfl ?_) | (refine atRet ?_; refine Nx.ret [0] Tryz.func243 rfl rfl ?_; (exact ⟨rfl, rfl⟩)) | refine Nx.late ?_)
abbrev noT : SV := .tps [(false, [.v .nilIface]), (false, [.v (.bool false)])]
abbrev yesT (b : Nat) : SV := .tps [(false, [.v (.iface 138 (.pointer (some ⟨b, 0, none⟩)))]), (false, [.v (.bool true)])]
theorem is_ok (b : Nat) (q : Str × Int) (c n : Int) : FnOk Tryz.prog 92 [.iface 138 (.pointer (some ⟨b, 0, none⟩)), .iface 45 (.int .i64 n), .bool true] [errB b q c] (fun v Q => v = .bool (decide (c = n)) ∧ Q = [errB b q c]) := by
  refine FnOk.start Tryz.func92 rfl rfl rfl rfl fun F os tape output => ?_
  refine go 200 ?_
  conv => whnf
  refine Nx.unroll ?_
  repeat' (first | ((first | refine BrM.t rfl ?_ | refine BrM.f rfl ?_ | refine BrM.dec (fun _ => ?_) (fun _ => ?_) | refine BrM.mk (fun _ => ?_) (fun _ => ?_) | refine Ar.i64 (by omega) (by omega) ?_ | refine gO rfl ?_ | refine gP rfl (by repeat constructor) ?_) <;> conv => whnf) | (refine atTA (t := 244) ?_; refine Nx.px (x := noT) rfl (by kernel_rfl) ?_) | (refine atTA (t := 247) ?_; refine Nx.px (x := yesT b) rfl (by kernel_rfl) ?_) | (refine atExt ?_; refine Nx.px rfl rfl ?_) | (refine atBin ?_; refine Nx.px rfl rfl ?_) | ((with_reducible refine atInv ?_); refine Nx.inv [0] [0] (f := 243) (us := [.c (.v (.pointer (some ⟨b, 0, none⟩)))]) (by kernel_rfl) (fun _ => rfl) rfl (Unwrap_ok b q c) rfl fun v Q hQ => ?_; obtain ⟨rfl, rfl⟩ := hQ) | refine Nx.late ?_)
  refine Nx.again ?_
  repeat' (first | ((first | refine BrM.t rfl ?_ | refine BrM.f rfl ?_ | refine BrM.dec (fun _ => ?_) (fun _ => ?_) | refine BrM.mk (fun _ => ?_) (fun _ => ?_) | refine Ar.i64 (by omega) (by omega) ?_ | refine gO rfl ?_ | refine gP rfl (by repeat constructor) ?_) <;> conv => whnf) | (refine atTA ?_; refine Nx.px (x := noT) rfl (by kernel_rfl) ?_) | (refine atExt ?_; refine Nx.px rfl rfl ?_) | (refine atBin ?_; refine Nx.px rfl rfl ?_) | (refine atRet ?_; refine Nx.ret [0] Tryz.func92 rfl rfl ?_; (first | exact ⟨by rw [decide_eq_true (by assumption)]; rfl, rfl⟩ | exact ⟨by rw [decide_eq_false (by assumption)]; rfl, rfl⟩)) | refine Nx.late ?_)
theorem errorsIs_ok (b : Nat) (q : Str × Int) (c n : Int) : FnOk Tryz.prog 33 [.iface 138 (.pointer (some ⟨b, 0, none⟩)), .iface 45 (.int .i64 n)] [errB b q c] (fun v Q => v = .bool (decide (c = n)) ∧ Q = [errB b q c]) := by
  refine FnOk.start Tryz.func33 rfl rfl rfl rfl fun F os tape output => ?_
  refine go 200 ?_
  conv => whnf
  repeat' (first | ((first | refine BrM.t rfl ?_ | refine BrM.f rfl ?_ | refine BrM.dec (fun _ => ?_) (fun _ => ?_) | refine BrM.mk (fun _ => ?_) (fun _ => ?_) | refine Ar.i64 (by omega) (by omega) ?_ | refine gO rfl ?_ | refine gP rfl (by repeat constructor) ?_) <;> conv => whnf) | (refine atCall 92 ?_; refine cE [0] [0] rfl rfl rfl rfl rfl ((is_ok b q c n)) rfl ?_) | (refine atCall 91 ?_; refine Nx.ext (f := 91) (us := [.c (.v (.iface 45 (.int .i64 n)))]) (by kernel_rfl) rfl (fun _ w => run91 _ w) ?_) | ((with_reducible refine atInv ?_); refine Nx.ext (f := 257) (us := [.agg [.v (.pointer (some ⟨12, 45, none⟩))]]) (by kernel_rfl) rfl (fun _ w => run257 w) ?_) | (refine atExt ?_; refine Nx.px rfl rfl ?_) | (refine atBin ?_; refine Nx.px rfl rfl ?_) | (refine atRet ?_; refine Nx.ret [0] Tryz.func33 rfl rfl ?_; (exact ⟨rfl, rfl⟩)) | refine Nx.late ?_)
theorem Is_err (b : Nat) (q : Str × Int) (c n : Int) (hc : c ≠ 0) : FnOk Tryz.prog 10 [.iface 138 (.pointer (some ⟨b, 0, none⟩)), .int .i64 n] [errB b q c] (fun v Q => v = .bool (decide (c = n)) ∧ Q = [errB b q c]) := by
  refine FnOk.start Tryz.func10 rfl rfl rfl rfl fun F os tape output => ?_
  refine go 200 ?_
  conv => whnf
  repeat' (first | ((first | refine BrM.t rfl ?_ | refine BrM.f rfl ?_ | refine BrM.dec (fun _ => ?_) (fun _ => ?_) | refine BrM.mk (fun _ => ?_) (fun _ => ?_) | refine Ar.i64 (by omega) (by omega) ?_ | refine gO rfl ?_ | refine gP rfl (by repeat constructor) ?_) <;> conv => whnf) | (refine atCall 33 ?_; refine cE [0] [0] rfl rfl rfl rfl rfl ((errorsIs_ok b q c n)) rfl ?_) | (refine atRet ?_; refine Nx.ret [0] Tryz.func10 rfl rfl ?_; (first | exact ⟨rfl, rfl⟩ | exact ⟨by rw [decide_eq_false (by omega)]; rfl, rfl⟩)) | refine Nx.late ?_)
theorem Is_nil (n : Int) : FnOk Tryz.prog 10 [.nilIface, .int .i64 n] [] (fun v Q => v = .bool (decide (0 = n)) ∧ Q = []) := by
  refine FnOk.start Tryz.func10 rfl rfl rfl rfl fun F os tape output => ?_
  refine go 200 ?_
  conv => whnf
  repeat' (first | ((first | refine BrM.t rfl ?_ | refine BrM.f rfl ?_ | refine BrM.dec (fun _ => ?_) (fun _ => ?_) | refine BrM.mk (fun _ => ?_) (fun _ => ?_) | refine Ar.i64 (by omega) (by omega) ?_ | refine gO rfl ?_ | refine gP rfl (by repeat constructor) ?_) <;> conv => whnf) | (refine atRet ?_; refine Nx.ret [] Tryz.func10 rfl rfl ?_; (first | exact ⟨by rw [decide_eq_true (by omega)]; rfl, rfl⟩ | exact ⟨by rw [decide_eq_false (by omega)]; rfl, rfl⟩)) | refine Nx.late ?_)
end Go.Proofs.YtccmdlmlbkpjjaaGreatDoor

/- What stands behind a note's ring: the program's fill. -/
namespace Go.Proofs.YtccmdlmlbkpjjaaGreatDoor
open Go.RowKit Go.Lib
attribute [local irreducible] Nx Ar BrM headC OneC HoC AftC planHead endF
set_option maxRecDepth 20000
set_option maxHeartbeats 4000000
set_option linter.unusedSectionVars false
theorem FnOk.imp {P : Program} {f : FuncId} {args : List Value} {Pre : List SP} {p q : Value → List SP → Prop} (h : FnOk P f args Pre p) (hpq : ∀ v Q, p v Q → q v Q) : FnOk P f args Pre q := by
  refine ⟨h.1, fun F w hs => (h.2 F w hs).mono ?_⟩
  rintro e w' ⟨v, Q, e1, e2, e3⟩
  exact ⟨v, Q, e1, hpq v Q e2, e3⟩
theorem values_no {m : PH} {S : SP} (hG : Glo m) (A : Option Addr) (c : Nat) (l : List Str) (hs : Sees S A l.length 1 (strs l)) (hl : ∀ w ∈ l, w.length ≤ 1000000) (hn : l.length ≤ 1000000) {k : Nat} (hv : valuesO l k = none) : FnOk Tryz.prog 71 [.slice A l.length c, .int .i64 k] [roAll m, S] (fun v Q => ∃ B n e, v = .tuple #[.slice B n e, .bool false] ∧ Q = [roAll m, S]) :=
  (values_ok hG A c l k hs hl hn).imp fun v Q h => by
    rcases h with ⟨xs, B, e, h1, _⟩ | ⟨_, B, n, e, h1, h2⟩
    · rw [hv] at h1; cases h1
    · exact ⟨B, n, e, h1, h2⟩
theorem values_y1 {m : PH} {S : SP} (hG : Glo m) (A : Option Addr) (c : Nat) (l : List Str) (hs : Sees S A l.length 1 (strs l)) (hl : ∀ w ∈ l, w.length ≤ 1000000) (hn : l.length ≤ 1000000) {x : Int} (hv : valuesO l 1 = some [x]) : FnOk Tryz.prog 71 [.slice A l.length c, .int .i64 1] [roAll m, S] (fun v Q => ∃ B e, v = .tuple #[.slice B 1 e, .bool true] ∧ Q = [roAll m, S, ownS 2 B 1 e 1 [.int .i64 x]]) :=
  (values_ok hG A c l 1 hs hl hn).imp fun v Q h => by
    rcases h with ⟨xs, B, e, h1, h2, h3⟩ | ⟨h0, _⟩
    · rw [hv] at h1; cases h1; exact ⟨B, e, h2, h3⟩
    · rw [hv] at h0; cases h0
theorem values_y2 {m : PH} {S : SP} (hG : Glo m) (A : Option Addr) (c : Nat) (l : List Str) (hs : Sees S A l.length 1 (strs l)) (hl : ∀ w ∈ l, w.length ≤ 1000000) (hn : l.length ≤ 1000000) {x y : Int} (hv : valuesO l 2 = some [x, y]) : FnOk Tryz.prog 71 [.slice A l.length c, .int .i64 2] [roAll m, S] (fun v Q => ∃ B e, v = .tuple #[.slice B 2 e, .bool true] ∧ Q = [roAll m, S, ownS 2 B 2 e 1 [.int .i64 x, .int .i64 y]]) :=
  (values_ok hG A c l 2 hs hl hn).imp fun v Q h => by
    rcases h with ⟨xs, B, e, h1, h2, h3⟩ | ⟨h0, _⟩
    · rw [hv] at h1; cases h1; exact ⟨B, e, h2, h3⟩
    · rw [hv] at h0; cases h0
theorem values_y3 {m : PH} {S : SP} (hG : Glo m) (A : Option Addr) (c : Nat) (l : List Str) (hs : Sees S A l.length 1 (strs l)) (hl : ∀ w ∈ l, w.length ≤ 1000000) (hn : l.length ≤ 1000000) {x y z : Int} (hv : valuesO l 3 = some [x, y, z]) : FnOk Tryz.prog 71 [.slice A l.length c, .int .i64 3] [roAll m, S] (fun v Q => ∃ B e, v = .tuple #[.slice B 3 e, .bool true] ∧ Q = [roAll m, S, ownS 2 B 3 e 1 [.int .i64 x, .int .i64 y, .int .i64 z]]) :=
  (values_ok hG A c l 3 hs hl hn).imp fun v Q h => by
    rcases h with ⟨xs, B, e, h1, h2, h3⟩ | ⟨h0, _⟩
    · rw [hv] at h1; cases h1; exact ⟨B, e, h2, h3⟩
    · rw [hv] at h0; cases h0
theorem val1 {l : List Str} : valuesO l 1 = none ∨ ∃ x, valuesO l 1 = some [x] := by
  cases h : valuesO l 1 with
  | none => exact .inl rfl
  | some xs =>
    obtain ⟨_, _, h3⟩ := valuesO_some h
    match xs, h3 with
    | [x], _ => exact .inr ⟨x, rfl⟩
theorem val2 {l : List Str} : valuesO l 2 = none ∨ ∃ x y, valuesO l 2 = some [x, y] := by
  cases h : valuesO l 2 with
  | none => exact .inl rfl
  | some xs =>
    obtain ⟨_, _, h3⟩ := valuesO_some h
    match xs, h3 with
    | [x, y], _ => exact .inr ⟨x, y, rfl⟩
theorem val3 {l : List Str} : valuesO l 3 = none ∨ ∃ x y z, valuesO l 3 = some [x, y, z] := by
  cases h : valuesO l 3 with
  | none => exact .inl rfl
  | some xs =>
    obtain ⟨_, _, h3⟩ := valuesO_some h
    match xs, h3 with
    | [x, y, z], _ => exact .inr ⟨x, y, z, rfl⟩
def iOne (n : Int) : List Value := [.int .i64 n]
theorem iOne_len (n : Int) : (iOne n).length = 1 := rfl
def noteB (b : Nat) (n : Note) : SP := blk b (.cells n.enc.toArray 47 (0, 0))
def fillPost (m : PH) (S : SP) (b : Nat) (r : Option Note) (v : Value) (Q : List SP) : Prop := ∃ n, ((r = some n ∧ v = .bool true) ∨ (r = none ∧ v = .bool false)) ∧ Q = [roAll m, S, noteB b n]
theorem fill0 {m : PH} {S : SP} (hG : Glo m) (b : Nat) (w g : Int) (A : Option Addr) (c : Nat) (l : List Str) (hs : Sees S A l.length 1 (strs l)) (hl : ∀ w ∈ l, w.length ≤ 1000000) (hn : l.length ≤ 1000000) : FnOk Tryz.prog 72 [.pointer (some ⟨b, 0, none⟩), .slice A l.length c] [roAll m, S, noteB b ⟨w, g, 0, 0, 0, 0, 0, 0⟩] (fillPost m S b (fillP 0 w g l)) := by
  refine FnOk.start Tryz.func72 rfl rfl rfl rfl fun F os tape output => ?_
  refine Nx.inn 2 [0] rfl ⟨rfl, rfl⟩ rfl ⟨rfl, trivial⟩ ?_
  refine go 200 ?_
  conv => whnf
  by_cases h0 : l.length = 0
  · have hf : fillP 0 w g l = some ⟨w, g, 0, 0, 0, 0, 0, 0⟩ := by unfold fillP; rw [if_pos rfl, if_pos h0]
    rw [hf]
    repeat' (first | ((first | refine BrM.t rfl ?_ | refine BrM.f rfl ?_ | refine BrM.dec (fun _ => ?_) (fun _ => ?_) | refine BrM.mk (fun _ => ?_) (fun _ => ?_) | refine Ar.i64 (by omega) (by omega) ?_ | refine gO rfl ?_ | refine gP rfl (by repeat constructor) ?_) <;> conv => whnf) | (refine atRet ?_; refine Nx.out 2 rfl rfl rfl rfl ?_; refine Nx.ret [0,1,2] Tryz.func72 rfl rfl ?_; exact ⟨_, .inl ⟨rfl, by rw [decide_eq_true (by omega)]; rfl⟩, rfl⟩) | refine Nx.late ?_)
  · have hf : fillP 0 w g l = none := by unfold fillP; rw [if_pos rfl, if_neg h0]
    rw [hf]
    repeat' (first | ((first | refine BrM.t rfl ?_ | refine BrM.f rfl ?_ | refine BrM.dec (fun _ => ?_) (fun _ => ?_) | refine BrM.mk (fun _ => ?_) (fun _ => ?_) | refine Ar.i64 (by omega) (by omega) ?_ | refine gO rfl ?_ | refine gP rfl (by repeat constructor) ?_) <;> conv => whnf) | (refine atRet ?_; refine Nx.out 2 rfl rfl rfl rfl ?_; refine Nx.ret [0,1,2] Tryz.func72 rfl rfl ?_; exact ⟨⟨w, g, 0, 0, 0, 0, 0, 0⟩, .inr ⟨rfl, by rw [decide_eq_false (by omega)]; rfl⟩, rfl⟩) | refine Nx.late ?_)
theorem fill1 {m : PH} {S : SP} (hG : Glo m) (b : Nat) (w g : Int) (A : Option Addr) (c : Nat) (l : List Str) (hs : Sees S A l.length 1 (strs l)) (hl : ∀ w ∈ l, w.length ≤ 1000000) (hn : l.length ≤ 1000000) : FnOk Tryz.prog 72 [.pointer (some ⟨b, 0, none⟩), .slice A l.length c] [roAll m, S, noteB b ⟨w, g, 1, 0, 0, 0, 0, 0⟩] (fillPost m S b (fillP 1 w g l)) := by
  rcases val2 (l := l) with hv | ⟨x, y, hv⟩
  · have hf : fillP 1 w g l = none := by simp [fillP, hv]
    rw [hf]
    refine FnOk.start Tryz.func72 rfl rfl rfl rfl fun F os tape output => ?_
    refine Nx.inn 2 [0] rfl ⟨rfl, rfl⟩ rfl ⟨rfl, trivial⟩ ?_
    refine go 200 ?_
    conv => whnf
    repeat' (first | ((first | refine BrM.t rfl ?_ | refine BrM.f rfl ?_ | refine BrM.dec (fun _ => ?_) (fun _ => ?_) | refine BrM.mk (fun _ => ?_) (fun _ => ?_) | refine Ar.i64 (by omega) (by omega) ?_ | refine gO rfl ?_ | refine gP rfl (by repeat constructor) ?_) <;> conv => whnf) | (refine (atCall 71) ?_; refine Nx.call [0,1] [0,1] rfl rfl rfl rfl rfl ((values_no hG A c l hs hl hn hv)) rfl fun v Q hQ => ?_; obtain ⟨B, n, e, rfl, rfl⟩ := hQ) | (refine atRet ?_; refine Nx.out 2 rfl rfl rfl rfl ?_; refine Nx.ret [0,1,2] Tryz.func72 rfl rfl ?_; exact ⟨⟨w, g, 1, 0, 0, 0, 0, 0⟩, .inr ⟨rfl, rfl⟩, rfl⟩) | refine Nx.late ?_)
  · have hf : fillP 1 w g l = some ⟨w, g, 1, x, y, 0, 0, 0⟩ := by simp [fillP, hv]
    rw [hf]
    refine FnOk.start Tryz.func72 rfl rfl rfl rfl fun F os tape output => ?_
    refine Nx.inn 2 [0] rfl ⟨rfl, rfl⟩ rfl ⟨rfl, trivial⟩ ?_
    refine go 200 ?_
    conv => whnf
    repeat' (first | ((first | refine BrM.t rfl ?_ | refine BrM.f rfl ?_ | refine BrM.dec (fun _ => ?_) (fun _ => ?_) | refine BrM.mk (fun _ => ?_) (fun _ => ?_) | refine Ar.i64 (by omega) (by omega) ?_ | refine gO rfl ?_ | refine gP rfl (by repeat constructor) ?_) <;> conv => whnf) | (refine (atCall 71) ?_; refine Nx.call [0,1] [0,1,5] rfl rfl rfl rfl rfl ((values_y2 hG A c l hs hl hn hv)) rfl fun v Q hQ => ?_; obtain ⟨B, e, rfl, rfl⟩ := hQ) | (fail) | refine Nx.late ?_)
    have hsee : Sees (ownS 2 B 2 e 1 [.int .i64 x, .int .i64 y]) B 2 1 ([x, y].flatMap iOne) := ownS_sees _ _ _ _ _ _
    repeat' (first | ((first | refine BrM.t rfl ?_ | refine BrM.f rfl ?_ | refine BrM.dec (fun _ => ?_) (fun _ => ?_) | refine BrM.mk (fun _ => ?_) (fun _ => ?_) | refine Ar.i64 (by omega) (by omega) ?_ | refine gO rfl ?_ | refine gP rfl (by repeat constructor) ?_) <;> conv => whnf) | (refine dN 6 [0,1,5] [0,4,8,12,17,20,24,29,32,36,43,44,48,55] rfl (by kernel_rfl) rfl (by kernel_rfl) rfl (by repeat constructor) rfl ?_) | (refine atHoIdx ?_; refine Nx.hoIdx 5 (j := 0) rfl rfl rfl Tryz.underlying119 rfl rfl rfl iOne_len hsee rfl (by omega) (by simp) fun _ _ _ => ?_) | (refine atHoIdx ?_; refine Nx.hoIdx 5 (j := 1) rfl rfl rfl Tryz.underlying119 rfl rfl rfl iOne_len hsee rfl (by omega) (by simp) fun _ _ _ => ?_) | (refine atHoLoad ?_; first | refine hL1 rfl rfl rfl rfl (SeesAt.sub (by assumption) _ rfl) (by repeat constructor) rfl ?_ | refine hL1 rfl rfl rfl rfl (by assumption) (by repeat constructor) rfl ?_ | refine hLm rfl rfl rfl rfl (by assumption) (by repeat constructor) rfl rfl ?_) | (refine atRet ?_; refine Nx.out 2 rfl rfl rfl rfl ?_; refine Nx.ret [0,1,2] Tryz.func72 rfl rfl ?_; exact ⟨⟨w, g, 1, x, y, 0, 0, 0⟩, .inl ⟨rfl, rfl⟩, rfl⟩) | refine Nx.late ?_)
theorem fill3 {m : PH} {S : SP} (hG : Glo m) (b : Nat) (w g : Int) (A : Option Addr) (c : Nat) (l : List Str) (hs : Sees S A l.length 1 (strs l)) (hl : ∀ w ∈ l, w.length ≤ 1000000) (hn : l.length ≤ 1000000) : FnOk Tryz.prog 72 [.pointer (some ⟨b, 0, none⟩), .slice A l.length c] [roAll m, S, noteB b ⟨w, g, 3, 0, 0, 0, 0, 0⟩] (fillPost m S b (fillP 3 w g l)) := by
  rcases val2 (l := l) with hv | ⟨x, y, hv⟩
  · have hf : fillP 3 w g l = none := by simp [fillP, hv]
    rw [hf]
    refine FnOk.start Tryz.func72 rfl rfl rfl rfl fun F os tape output => ?_
    refine Nx.inn 2 [0] rfl ⟨rfl, rfl⟩ rfl ⟨rfl, trivial⟩ ?_
    refine go 200 ?_
    conv => whnf
    repeat' (first | ((first | refine BrM.t rfl ?_ | refine BrM.f rfl ?_ | refine BrM.dec (fun _ => ?_) (fun _ => ?_) | refine BrM.mk (fun _ => ?_) (fun _ => ?_) | refine Ar.i64 (by omega) (by omega) ?_ | refine gO rfl ?_ | refine gP rfl (by repeat constructor) ?_) <;> conv => whnf) | (refine (atCall 71) ?_; refine Nx.call [0,1] [0,1] rfl rfl rfl rfl rfl ((values_no hG A c l hs hl hn hv)) rfl fun v Q hQ => ?_; obtain ⟨B, n, e, rfl, rfl⟩ := hQ) | (refine atRet ?_; refine Nx.out 2 rfl rfl rfl rfl ?_; refine Nx.ret [0,1,2] Tryz.func72 rfl rfl ?_; exact ⟨⟨w, g, 3, 0, 0, 0, 0, 0⟩, .inr ⟨rfl, rfl⟩, rfl⟩) | refine Nx.late ?_)
  · have hf : fillP 3 w g l = some ⟨w, g, 3, x, y, 0, 0, 0⟩ := by simp [fillP, hv]
    rw [hf]
    refine FnOk.start Tryz.func72 rfl rfl rfl rfl fun F os tape output => ?_
    refine Nx.inn 2 [0] rfl ⟨rfl, rfl⟩ rfl ⟨rfl, trivial⟩ ?_
    refine go 200 ?_
    conv => whnf
    repeat' (first | ((first | refine BrM.t rfl ?_ | refine BrM.f rfl ?_ | refine BrM.dec (fun _ => ?_) (fun _ => ?_) | refine BrM.mk (fun _ => ?_) (fun _ => ?_) | refine Ar.i64 (by omega) (by omega) ?_ | refine gO rfl ?_ | refine gP rfl (by repeat constructor) ?_) <;> conv => whnf) | (refine (atCall 71) ?_; refine Nx.call [0,1] [0,1,5] rfl rfl rfl rfl rfl ((values_y2 hG A c l hs hl hn hv)) rfl fun v Q hQ => ?_; obtain ⟨B, e, rfl, rfl⟩ := hQ) | (fail) | refine Nx.late ?_)
    have hsee : Sees (ownS 2 B 2 e 1 [.int .i64 x, .int .i64 y]) B 2 1 ([x, y].flatMap iOne) := ownS_sees _ _ _ _ _ _
    repeat' (first | ((first | refine BrM.t rfl ?_ | refine BrM.f rfl ?_ | refine BrM.dec (fun _ => ?_) (fun _ => ?_) | refine BrM.mk (fun _ => ?_) (fun _ => ?_) | refine Ar.i64 (by omega) (by omega) ?_ | refine gO rfl ?_ | refine gP rfl (by repeat constructor) ?_) <;> conv => whnf) | (refine dN 6 [0,1,5] [0,4,8,12,17,20,24,29,32,36,43,44,48,55] rfl (by kernel_rfl) rfl (by kernel_rfl) rfl (by repeat constructor) rfl ?_) | (refine atHoIdx ?_; refine Nx.hoIdx 5 (j := 0) rfl rfl rfl Tryz.underlying119 rfl rfl rfl iOne_len hsee rfl (by omega) (by simp) fun _ _ _ => ?_) | (refine atHoIdx ?_; refine Nx.hoIdx 5 (j := 1) rfl rfl rfl Tryz.underlying119 rfl rfl rfl iOne_len hsee rfl (by omega) (by simp) fun _ _ _ => ?_) | (refine atHoLoad ?_; first | refine hL1 rfl rfl rfl rfl (SeesAt.sub (by assumption) _ rfl) (by repeat constructor) rfl ?_ | refine hL1 rfl rfl rfl rfl (by assumption) (by repeat constructor) rfl ?_ | refine hLm rfl rfl rfl rfl (by assumption) (by repeat constructor) rfl rfl ?_) | (refine atRet ?_; refine Nx.out 2 rfl rfl rfl rfl ?_; refine Nx.ret [0,1,2] Tryz.func72 rfl rfl ?_; exact ⟨⟨w, g, 3, x, y, 0, 0, 0⟩, .inl ⟨rfl, rfl⟩, rfl⟩) | refine Nx.late ?_)
theorem fill5 {m : PH} {S : SP} (hG : Glo m) (b : Nat) (w g : Int) (A : Option Addr) (c : Nat) (l : List Str) (hs : Sees S A l.length 1 (strs l)) (hl : ∀ w ∈ l, w.length ≤ 1000000) (hn : l.length ≤ 1000000) : FnOk Tryz.prog 72 [.pointer (some ⟨b, 0, none⟩), .slice A l.length c] [roAll m, S, noteB b ⟨w, g, 5, 0, 0, 0, 0, 0⟩] (fillPost m S b (fillP 5 w g l)) := by
  rcases val1 (l := l) with hv | ⟨x, hv⟩
  · have hf : fillP 5 w g l = none := by simp [fillP, hv]
    rw [hf]
    refine FnOk.start Tryz.func72 rfl rfl rfl rfl fun F os tape output => ?_
    refine Nx.inn 2 [0] rfl ⟨rfl, rfl⟩ rfl ⟨rfl, trivial⟩ ?_
    refine go 200 ?_
    conv => whnf
    repeat' (first | ((first | refine BrM.t rfl ?_ | refine BrM.f rfl ?_ | refine BrM.dec (fun _ => ?_) (fun _ => ?_) | refine BrM.mk (fun _ => ?_) (fun _ => ?_) | refine Ar.i64 (by omega) (by omega) ?_ | refine gO rfl ?_ | refine gP rfl (by repeat constructor) ?_) <;> conv => whnf) | (refine (atCall 71) ?_; refine Nx.call [0,1] [0,1] rfl rfl rfl rfl rfl ((values_no hG A c l hs hl hn hv)) rfl fun v Q hQ => ?_; obtain ⟨B, n, e, rfl, rfl⟩ := hQ) | (refine atRet ?_; refine Nx.out 2 rfl rfl rfl rfl ?_; refine Nx.ret [0,1,2] Tryz.func72 rfl rfl ?_; exact ⟨⟨w, g, 5, 0, 0, 0, 0, 0⟩, .inr ⟨rfl, rfl⟩, rfl⟩) | refine Nx.late ?_)
  · have hf : fillP 5 w g l = some ⟨w, g, 5, 0, x, 0, 0, 0⟩ := by simp [fillP, hv]
    rw [hf]
    refine FnOk.start Tryz.func72 rfl rfl rfl rfl fun F os tape output => ?_
    refine Nx.inn 2 [0] rfl ⟨rfl, rfl⟩ rfl ⟨rfl, trivial⟩ ?_
    refine go 200 ?_
    conv => whnf
    repeat' (first | ((first | refine BrM.t rfl ?_ | refine BrM.f rfl ?_ | refine BrM.dec (fun _ => ?_) (fun _ => ?_) | refine BrM.mk (fun _ => ?_) (fun _ => ?_) | refine Ar.i64 (by omega) (by omega) ?_ | refine gO rfl ?_ | refine gP rfl (by repeat constructor) ?_) <;> conv => whnf) | (refine (atCall 71) ?_; refine Nx.call [0,1] [0,1,5] rfl rfl rfl rfl rfl ((values_y1 hG A c l hs hl hn hv)) rfl fun v Q hQ => ?_; obtain ⟨B, e, rfl, rfl⟩ := hQ) | (fail) | refine Nx.late ?_)
    have hsee : Sees (ownS 2 B 1 e 1 [.int .i64 x]) B 1 1 ([x].flatMap iOne) := ownS_sees _ _ _ _ _ _
    repeat' (first | ((first | refine BrM.t rfl ?_ | refine BrM.f rfl ?_ | refine BrM.dec (fun _ => ?_) (fun _ => ?_) | refine BrM.mk (fun _ => ?_) (fun _ => ?_) | refine Ar.i64 (by omega) (by omega) ?_ | refine gO rfl ?_ | refine gP rfl (by repeat constructor) ?_) <;> conv => whnf) | (refine atIdx ?_; refine Nx.idx 5 (j := 0) rfl rfl rfl Tryz.underlying119 rfl rfl rfl iOne_len hsee rfl (by omega) (by simp) fun _ _ _ => ?_) | (refine atLoad ?_; first | (refine Nx.load1 5 rfl rfl rfl rfl (SeesAt.sub (by assumption) _ rfl) rfl ?_) | (refine Nx.load1 5 rfl rfl rfl rfl (by assumption) rfl ?_) | (refine Nx.load 5 rfl rfl rfl rfl (by assumption) rfl rfl ?_)) | (refine atRet ?_; refine Nx.out 2 rfl rfl rfl rfl ?_; refine Nx.ret [0,1,2] Tryz.func72 rfl rfl ?_; exact ⟨⟨w, g, 5, 0, x, 0, 0, 0⟩, .inl ⟨rfl, rfl⟩, rfl⟩) | refine Nx.late ?_)
theorem fill6 {m : PH} {S : SP} (hG : Glo m) (b : Nat) (w g : Int) (A : Option Addr) (c : Nat) (l : List Str) (hs : Sees S A l.length 1 (strs l)) (hl : ∀ w ∈ l, w.length ≤ 1000000) (hn : l.length ≤ 1000000) : FnOk Tryz.prog 72 [.pointer (some ⟨b, 0, none⟩), .slice A l.length c] [roAll m, S, noteB b ⟨w, g, 6, 0, 0, 0, 0, 0⟩] (fillPost m S b (fillP 6 w g l)) := by
  rcases val1 (l := l) with hv | ⟨x, hv⟩
  · have hf : fillP 6 w g l = none := by simp [fillP, hv]
    rw [hf]
    refine FnOk.start Tryz.func72 rfl rfl rfl rfl fun F os tape output => ?_
    refine Nx.inn 2 [0] rfl ⟨rfl, rfl⟩ rfl ⟨rfl, trivial⟩ ?_
    refine go 200 ?_
    conv => whnf
    repeat' (first | ((first | refine BrM.t rfl ?_ | refine BrM.f rfl ?_ | refine BrM.dec (fun _ => ?_) (fun _ => ?_) | refine BrM.mk (fun _ => ?_) (fun _ => ?_) | refine Ar.i64 (by omega) (by omega) ?_ | refine gO rfl ?_ | refine gP rfl (by repeat constructor) ?_) <;> conv => whnf) | (refine (atCall 71) ?_; refine Nx.call [0,1] [0,1] rfl rfl rfl rfl rfl ((values_no hG A c l hs hl hn hv)) rfl fun v Q hQ => ?_; obtain ⟨B, n, e, rfl, rfl⟩ := hQ) | (refine atRet ?_; refine Nx.out 2 rfl rfl rfl rfl ?_; refine Nx.ret [0,1,2] Tryz.func72 rfl rfl ?_; exact ⟨⟨w, g, 6, 0, 0, 0, 0, 0⟩, .inr ⟨rfl, rfl⟩, rfl⟩) | refine Nx.late ?_)
  · have hf : fillP 6 w g l = some ⟨w, g, 6, 0, x, 0, 0, 0⟩ := by simp [fillP, hv]
    rw [hf]
    refine FnOk.start Tryz.func72 rfl rfl rfl rfl fun F os tape output => ?_
    refine Nx.inn 2 [0] rfl ⟨rfl, rfl⟩ rfl ⟨rfl, trivial⟩ ?_
    refine go 200 ?_
    conv => whnf
    repeat' (first | ((first | refine BrM.t rfl ?_ | refine BrM.f rfl ?_ | refine BrM.dec (fun _ => ?_) (fun _ => ?_) | refine BrM.mk (fun _ => ?_) (fun _ => ?_) | refine Ar.i64 (by omega) (by omega) ?_ | refine gO rfl ?_ | refine gP rfl (by repeat constructor) ?_) <;> conv => whnf) | (refine (atCall 71) ?_; refine Nx.call [0,1] [0,1,5] rfl rfl rfl rfl rfl ((values_y1 hG A c l hs hl hn hv)) rfl fun v Q hQ => ?_; obtain ⟨B, e, rfl, rfl⟩ := hQ) | (fail) | refine Nx.late ?_)
    have hsee : Sees (ownS 2 B 1 e 1 [.int .i64 x]) B 1 1 ([x].flatMap iOne) := ownS_sees _ _ _ _ _ _
    repeat' (first | ((first | refine BrM.t rfl ?_ | refine BrM.f rfl ?_ | refine BrM.dec (fun _ => ?_) (fun _ => ?_) | refine BrM.mk (fun _ => ?_) (fun _ => ?_) | refine Ar.i64 (by omega) (by omega) ?_ | refine gO rfl ?_ | refine gP rfl (by repeat constructor) ?_) <;> conv => whnf) | (refine atIdx ?_; refine Nx.idx 5 (j := 0) rfl rfl rfl Tryz.underlying119 rfl rfl rfl iOne_len hsee rfl (by omega) (by simp) fun _ _ _ => ?_) | (refine atLoad ?_; first | (refine Nx.load1 5 rfl rfl rfl rfl (SeesAt.sub (by assumption) _ rfl) rfl ?_) | (refine Nx.load1 5 rfl rfl rfl rfl (by assumption) rfl ?_) | (refine Nx.load 5 rfl rfl rfl rfl (by assumption) rfl rfl ?_)) | (refine atRet ?_; refine Nx.out 2 rfl rfl rfl rfl ?_; refine Nx.ret [0,1,2] Tryz.func72 rfl rfl ?_; exact ⟨⟨w, g, 6, 0, x, 0, 0, 0⟩, .inl ⟨rfl, rfl⟩, rfl⟩) | refine Nx.late ?_)
theorem fill7 {m : PH} {S : SP} (hG : Glo m) (b : Nat) (w g : Int) (A : Option Addr) (c : Nat) (l : List Str) (hs : Sees S A l.length 1 (strs l)) (hl : ∀ w ∈ l, w.length ≤ 1000000) (hn : l.length ≤ 1000000) : FnOk Tryz.prog 72 [.pointer (some ⟨b, 0, none⟩), .slice A l.length c] [roAll m, S, noteB b ⟨w, g, 7, 0, 0, 0, 0, 0⟩] (fillPost m S b (fillP 7 w g l)) := by
  rcases val1 (l := l) with hv | ⟨x, hv⟩
  · have hf : fillP 7 w g l = none := by simp [fillP, hv]
    rw [hf]
    refine FnOk.start Tryz.func72 rfl rfl rfl rfl fun F os tape output => ?_
    refine Nx.inn 2 [0] rfl ⟨rfl, rfl⟩ rfl ⟨rfl, trivial⟩ ?_
    refine go 200 ?_
    conv => whnf
    repeat' (first | ((first | refine BrM.t rfl ?_ | refine BrM.f rfl ?_ | refine BrM.dec (fun _ => ?_) (fun _ => ?_) | refine BrM.mk (fun _ => ?_) (fun _ => ?_) | refine Ar.i64 (by omega) (by omega) ?_ | refine gO rfl ?_ | refine gP rfl (by repeat constructor) ?_) <;> conv => whnf) | (refine (atCall 71) ?_; refine Nx.call [0,1] [0,1] rfl rfl rfl rfl rfl ((values_no hG A c l hs hl hn hv)) rfl fun v Q hQ => ?_; obtain ⟨B, n, e, rfl, rfl⟩ := hQ) | (refine atRet ?_; refine Nx.out 2 rfl rfl rfl rfl ?_; refine Nx.ret [0,1,2] Tryz.func72 rfl rfl ?_; exact ⟨⟨w, g, 7, 0, 0, 0, 0, 0⟩, .inr ⟨rfl, rfl⟩, rfl⟩) | refine Nx.late ?_)
  · have hf : fillP 7 w g l = some ⟨w, g, 7, 0, x, 0, 0, 0⟩ := by simp [fillP, hv]
    rw [hf]
    refine FnOk.start Tryz.func72 rfl rfl rfl rfl fun F os tape output => ?_
    refine Nx.inn 2 [0] rfl ⟨rfl, rfl⟩ rfl ⟨rfl, trivial⟩ ?_
    refine go 200 ?_
    conv => whnf
    repeat' (first | ((first | refine BrM.t rfl ?_ | refine BrM.f rfl ?_ | refine BrM.dec (fun _ => ?_) (fun _ => ?_) | refine BrM.mk (fun _ => ?_) (fun _ => ?_) | refine Ar.i64 (by omega) (by omega) ?_ | refine gO rfl ?_ | refine gP rfl (by repeat constructor) ?_) <;> conv => whnf) | (refine (atCall 71) ?_; refine Nx.call [0,1] [0,1,5] rfl rfl rfl rfl rfl ((values_y1 hG A c l hs hl hn hv)) rfl fun v Q hQ => ?_; obtain ⟨B, e, rfl, rfl⟩ := hQ) | (fail) | refine Nx.late ?_)
    have hsee : Sees (ownS 2 B 1 e 1 [.int .i64 x]) B 1 1 ([x].flatMap iOne) := ownS_sees _ _ _ _ _ _
    repeat' (first | ((first | refine BrM.t rfl ?_ | refine BrM.f rfl ?_ | refine BrM.dec (fun _ => ?_) (fun _ => ?_) | refine BrM.mk (fun _ => ?_) (fun _ => ?_) | refine Ar.i64 (by omega) (by omega) ?_ | refine gO rfl ?_ | refine gP rfl (by repeat constructor) ?_) <;> conv => whnf) | (refine atIdx ?_; refine Nx.idx 5 (j := 0) rfl rfl rfl Tryz.underlying119 rfl rfl rfl iOne_len hsee rfl (by omega) (by simp) fun _ _ _ => ?_) | (refine atLoad ?_; first | (refine Nx.load1 5 rfl rfl rfl rfl (SeesAt.sub (by assumption) _ rfl) rfl ?_) | (refine Nx.load1 5 rfl rfl rfl rfl (by assumption) rfl ?_) | (refine Nx.load 5 rfl rfl rfl rfl (by assumption) rfl rfl ?_)) | (refine atRet ?_; refine Nx.out 2 rfl rfl rfl rfl ?_; refine Nx.ret [0,1,2] Tryz.func72 rfl rfl ?_; exact ⟨⟨w, g, 7, 0, x, 0, 0, 0⟩, .inl ⟨rfl, rfl⟩, rfl⟩) | refine Nx.late ?_)
theorem fill4 {m : PH} {S : SP} (hG : Glo m) (b : Nat) (w g : Int) (A : Option Addr) (c : Nat) (l : List Str) (hs : Sees S A l.length 1 (strs l)) (hl : ∀ w ∈ l, w.length ≤ 1000000) (hn : l.length ≤ 1000000) : FnOk Tryz.prog 72 [.pointer (some ⟨b, 0, none⟩), .slice A l.length c] [roAll m, S, noteB b ⟨w, g, 4, 0, 0, 0, 0, 0⟩] (fillPost m S b (fillP 4 w g l)) := by
  have hs1 : Sees S A l.length 1 (l.flatMap fun w => [str w]) := by rw [← strs_flatR]; exact hs
  by_cases h0 : 0 < l.length
  · have hg0 : l.getD 0 [] = l[0] := by rw [List.getD_eq_getElem?_getD, List.getElem?_eq_getElem h0]; rfl
    by_cases h48 : l[0] = [48]
    · rcases val3 (l := l) with hv | ⟨x, y, z, hv⟩
      · have hf : fillP 4 w g l = none := by unfold fillP; rw [if_neg (by decide), if_neg (by decide), if_neg (by decide), if_pos rfl, if_neg (by rw [hg0]; exact fun h => h.2 h48), hv]
        rw [hf]
        refine FnOk.start Tryz.func72 rfl rfl rfl rfl fun F os tape output => ?_
        refine Nx.inn 2 [0] rfl ⟨rfl, rfl⟩ rfl ⟨rfl, trivial⟩ ?_
        refine go 200 ?_
        conv => whnf
        repeat' (first | (refine atBr ?_; refine BrM.not (fun h => h (tlR_eq h48)) ?_; conv => whnf) | ((first | refine BrM.yes (by omega) ?_ | refine BrM.t rfl ?_ | refine BrM.f rfl ?_ | refine BrM.dec (fun _ => ?_) (fun _ => ?_) | refine BrM.mk (fun _ => ?_) (fun _ => ?_) | refine Ar.i64 (by omega) (by omega) ?_ | refine gO rfl ?_ | refine gP rfl (by repeat constructor) ?_) <;> conv => whnf) | (refine atIdx ?_; refine Nx.idx 1 (j := 0) rfl rfl rfl Tryz.underlying39 rfl rfl rfl one1_len hs1 rfl (by omega) (by omega) fun _ _ _ => ?_) | (refine atLoad ?_; first | (refine Nx.load1 1 rfl rfl rfl rfl (SeesAt.sub (by assumption) _ rfl) rfl ?_) | (refine Nx.load1 1 rfl rfl rfl rfl (by assumption) rfl ?_) | (refine Nx.load 1 rfl rfl rfl rfl (by assumption) rfl rfl ?_)) | (refine (atCall 71) ?_; refine Nx.call [0,1] [0,1] rfl rfl rfl rfl rfl ((values_no hG A c l hs hl hn hv)) rfl fun v Q hQ => ?_; obtain ⟨B, n, e, rfl, rfl⟩ := hQ) | (refine atRet ?_; refine Nx.out 2 rfl rfl rfl rfl ?_; refine Nx.ret [0,1,2] Tryz.func72 rfl rfl ?_; exact ⟨⟨w, g, 4, 0, 0, 0, 0, 0⟩, .inr ⟨rfl, rfl⟩, rfl⟩) | refine Nx.late ?_)
      · have hf : fillP 4 w g l = some ⟨w, g, 4, y, z, 0, 0, 0⟩ := by unfold fillP; rw [if_neg (by decide), if_neg (by decide), if_neg (by decide), if_pos rfl, if_neg (by rw [hg0]; exact fun h => h.2 h48), hv]
        rw [hf]
        refine FnOk.start Tryz.func72 rfl rfl rfl rfl fun F os tape output => ?_
        refine Nx.inn 2 [0] rfl ⟨rfl, rfl⟩ rfl ⟨rfl, trivial⟩ ?_
        refine go 200 ?_
        conv => whnf
        repeat' (first | (refine atBr ?_; refine BrM.not (fun h => h (tlR_eq h48)) ?_; conv => whnf) | ((first | refine BrM.yes (by omega) ?_ | refine BrM.t rfl ?_ | refine BrM.f rfl ?_ | refine BrM.dec (fun _ => ?_) (fun _ => ?_) | refine BrM.mk (fun _ => ?_) (fun _ => ?_) | refine Ar.i64 (by omega) (by omega) ?_ | refine gO rfl ?_ | refine gP rfl (by repeat constructor) ?_) <;> conv => whnf) | (refine atIdx ?_; refine Nx.idx 1 (j := 0) rfl rfl rfl Tryz.underlying39 rfl rfl rfl one1_len hs1 rfl (by omega) (by omega) fun _ _ _ => ?_) | (refine atLoad ?_; first | (refine Nx.load1 1 rfl rfl rfl rfl (SeesAt.sub (by assumption) _ rfl) rfl ?_) | (refine Nx.load1 1 rfl rfl rfl rfl (by assumption) rfl ?_) | (refine Nx.load 1 rfl rfl rfl rfl (by assumption) rfl rfl ?_)) | (refine (atCall 71) ?_; refine Nx.call [0,1] [0,1,5] rfl rfl rfl rfl rfl ((values_y3 hG A c l hs hl hn hv)) rfl fun v Q hQ => ?_; obtain ⟨B, e, rfl, rfl⟩ := hQ) | (fail) | refine Nx.late ?_)
        have hsee : Sees (ownS 2 B 3 e 1 [.int .i64 x, .int .i64 y, .int .i64 z]) B 3 1 ([x, y, z].flatMap iOne) := ownS_sees _ _ _ _ _ _
        repeat' (first | ((first | refine BrM.t rfl ?_ | refine BrM.f rfl ?_ | refine BrM.dec (fun _ => ?_) (fun _ => ?_) | refine BrM.mk (fun _ => ?_) (fun _ => ?_) | refine Ar.i64 (by omega) (by omega) ?_ | refine gO rfl ?_ | refine gP rfl (by repeat constructor) ?_) <;> conv => whnf) | (refine dN 24 [0,1,5] [0,4,8,12,17,20,24,29,32,36,43,44,48,55] rfl (by kernel_rfl) rfl (by kernel_rfl) rfl (by repeat constructor) rfl ?_) | (refine atHoIdx ?_; refine Nx.hoIdx 5 (j := 1) rfl rfl rfl Tryz.underlying119 rfl rfl rfl iOne_len hsee rfl (by omega) (by simp) fun _ _ _ => ?_) | (refine atHoIdx ?_; refine Nx.hoIdx 5 (j := 2) rfl rfl rfl Tryz.underlying119 rfl rfl rfl iOne_len hsee rfl (by omega) (by simp) fun _ _ _ => ?_) | (refine atHoLoad ?_; first | refine hL1 rfl rfl rfl rfl (SeesAt.sub (by assumption) _ rfl) (by repeat constructor) rfl ?_ | refine hL1 rfl rfl rfl rfl (by assumption) (by repeat constructor) rfl ?_ | refine hLm rfl rfl rfl rfl (by assumption) (by repeat constructor) rfl rfl ?_) | (refine atRet ?_; refine Nx.out 2 rfl rfl rfl rfl ?_; refine Nx.ret [0,1,2] Tryz.func72 rfl rfl ?_; exact ⟨⟨w, g, 4, y, z, 0, 0, 0⟩, .inl ⟨rfl, rfl⟩, rfl⟩) | refine Nx.late ?_)
    · rcases val1 (l := l) with hv | ⟨x, hv⟩
      · have hf : fillP 4 w g l = none := by unfold fillP; rw [if_neg (by decide), if_neg (by decide), if_neg (by decide), if_pos rfl, if_pos (by rw [hg0]; exact ⟨h0, h48⟩), hv]
        rw [hf]
        refine FnOk.start Tryz.func72 rfl rfl rfl rfl fun F os tape output => ?_
        refine Nx.inn 2 [0] rfl ⟨rfl, rfl⟩ rfl ⟨rfl, trivial⟩ ?_
        refine go 200 ?_
        conv => whnf
        repeat' (first | (refine atBr ?_; refine BrM.yes (fun h => h48 (toList_eq h)) ?_; conv => whnf) | ((first | refine BrM.yes (by omega) ?_ | refine BrM.t rfl ?_ | refine BrM.f rfl ?_ | refine BrM.dec (fun _ => ?_) (fun _ => ?_) | refine BrM.mk (fun _ => ?_) (fun _ => ?_) | refine Ar.i64 (by omega) (by omega) ?_ | refine gO rfl ?_ | refine gP rfl (by repeat constructor) ?_) <;> conv => whnf) | (refine atIdx ?_; refine Nx.idx 1 (j := 0) rfl rfl rfl Tryz.underlying39 rfl rfl rfl one1_len hs1 rfl (by omega) (by omega) fun _ _ _ => ?_) | (refine atLoad ?_; first | (refine Nx.load1 1 rfl rfl rfl rfl (SeesAt.sub (by assumption) _ rfl) rfl ?_) | (refine Nx.load1 1 rfl rfl rfl rfl (by assumption) rfl ?_) | (refine Nx.load 1 rfl rfl rfl rfl (by assumption) rfl rfl ?_)) | (refine (atCall 71) ?_; refine Nx.call [0,1] [0,1] rfl rfl rfl rfl rfl ((values_no hG A c l hs hl hn hv)) rfl fun v Q hQ => ?_; obtain ⟨B, n, e, rfl, rfl⟩ := hQ) | (refine atRet ?_; refine Nx.out 2 rfl rfl rfl rfl ?_; refine Nx.ret [0,1,2] Tryz.func72 rfl rfl ?_; exact ⟨⟨w, g, 4, 0, 0, 0, 0, 0⟩, .inr ⟨rfl, rfl⟩, rfl⟩) | refine Nx.late ?_)
      · have hf : fillP 4 w g l = some ⟨w, g, 4, 0, 0, 0, 0, x⟩ := by unfold fillP; rw [if_neg (by decide), if_neg (by decide), if_neg (by decide), if_pos rfl, if_pos (by rw [hg0]; exact ⟨h0, h48⟩), hv]
        rw [hf]
        refine FnOk.start Tryz.func72 rfl rfl rfl rfl fun F os tape output => ?_
        refine Nx.inn 2 [0] rfl ⟨rfl, rfl⟩ rfl ⟨rfl, trivial⟩ ?_
        refine go 200 ?_
        conv => whnf
        repeat' (first | (refine atBr ?_; refine BrM.yes (fun h => h48 (toList_eq h)) ?_; conv => whnf) | ((first | refine BrM.yes (by omega) ?_ | refine BrM.t rfl ?_ | refine BrM.f rfl ?_ | refine BrM.dec (fun _ => ?_) (fun _ => ?_) | refine BrM.mk (fun _ => ?_) (fun _ => ?_) | refine Ar.i64 (by omega) (by omega) ?_ | refine gO rfl ?_ | refine gP rfl (by repeat constructor) ?_) <;> conv => whnf) | (refine atIdx ?_; refine Nx.idx 1 (j := 0) rfl rfl rfl Tryz.underlying39 rfl rfl rfl one1_len hs1 rfl (by omega) (by omega) fun _ _ _ => ?_) | (refine atLoad ?_; first | (refine Nx.load1 1 rfl rfl rfl rfl (SeesAt.sub (by assumption) _ rfl) rfl ?_) | (refine Nx.load1 1 rfl rfl rfl rfl (by assumption) rfl ?_) | (refine Nx.load 1 rfl rfl rfl rfl (by assumption) rfl rfl ?_)) | (refine (atCall 71) ?_; refine Nx.call [0,1] [0,1,5] rfl rfl rfl rfl rfl ((values_y1 hG A c l hs hl hn hv)) rfl fun v Q hQ => ?_; obtain ⟨B, e, rfl, rfl⟩ := hQ) | (fail) | refine Nx.late ?_)
        have hsee : Sees (ownS 2 B 1 e 1 [.int .i64 x]) B 1 1 ([x].flatMap iOne) := ownS_sees _ _ _ _ _ _
        repeat' (first | ((first | refine BrM.t rfl ?_ | refine BrM.f rfl ?_ | refine BrM.dec (fun _ => ?_) (fun _ => ?_) | refine BrM.mk (fun _ => ?_) (fun _ => ?_) | refine Ar.i64 (by omega) (by omega) ?_ | refine gO rfl ?_ | refine gP rfl (by repeat constructor) ?_) <;> conv => whnf) | (refine atIdx ?_; refine Nx.idx 5 (j := 0) rfl rfl rfl Tryz.underlying119 rfl rfl rfl iOne_len hsee rfl (by omega) (by simp) fun _ _ _ => ?_) | (refine atLoad ?_; first | (refine Nx.load1 5 rfl rfl rfl rfl (SeesAt.sub (by assumption) _ rfl) rfl ?_) | (refine Nx.load1 5 rfl rfl rfl rfl (by assumption) rfl ?_) | (refine Nx.load 5 rfl rfl rfl rfl (by assumption) rfl rfl ?_)) | (refine atRet ?_; refine Nx.out 2 rfl rfl rfl rfl ?_; refine Nx.ret [0,1,2] Tryz.func72 rfl rfl ?_; exact ⟨⟨w, g, 4, 0, 0, 0, 0, x⟩, .inl ⟨rfl, rfl⟩, rfl⟩) | refine Nx.late ?_)
  · have hv : valuesO l 3 = none := by unfold valuesO; rw [if_neg (by omega)]
    have hf : fillP 4 w g l = none := by unfold fillP; rw [if_neg (by decide), if_neg (by decide), if_neg (by decide), if_pos rfl, if_neg (fun h => h0 h.1), hv]
    rw [hf]
    refine FnOk.start Tryz.func72 rfl rfl rfl rfl fun F os tape output => ?_
    refine Nx.inn 2 [0] rfl ⟨rfl, rfl⟩ rfl ⟨rfl, trivial⟩ ?_
    refine go 200 ?_
    conv => whnf
    repeat' (first | ((first | refine BrM.not (by omega) ?_ | refine BrM.t rfl ?_ | refine BrM.f rfl ?_ | refine BrM.dec (fun _ => ?_) (fun _ => ?_) | refine BrM.mk (fun _ => ?_) (fun _ => ?_) | refine Ar.i64 (by omega) (by omega) ?_ | refine gO rfl ?_ | refine gP rfl (by repeat constructor) ?_) <;> conv => whnf) | (refine (atCall 71) ?_; refine Nx.call [0,1] [0,1] rfl rfl rfl rfl rfl ((values_no hG A c l hs hl hn hv)) rfl fun v Q hQ => ?_; obtain ⟨B, n, e, rfl, rfl⟩ := hQ) | (refine atRet ?_; refine Nx.out 2 rfl rfl rfl rfl ?_; refine Nx.ret [0,1,2] Tryz.func72 rfl rfl ?_; exact ⟨⟨w, g, 4, 0, 0, 0, 0, 0⟩, .inr ⟨rfl, rfl⟩, rfl⟩) | refine Nx.late ?_)
end Go.Proofs.YtccmdlmlbkpjjaaGreatDoor

/- A note as a line: the program's. -/
namespace Go.Proofs.YtccmdlmlbkpjjaaGreatDoor
open Go.RowKit Go.Lib
set_option maxRecDepth 20000
set_option maxHeartbeats 4000000
attribute [local irreducible] Nx Ar BrM headC OneC HoC AftC planHead endF
theorem deed_sees {m : PH} (hG : GlN m) {d : Int} {k : Nat} (hd : d = k) (hk : k < 8) : SeesAt (roAll m) 2 k [str (deedW d)] := by
  subst hd
  have h := hG.deeds.sees (j := k) (by simpa [deedsL] using hk)
  have e : (strs deedsL)[k]'(by simpa [deedsL] using hk) = str (deedW (k : Int)) := by
    unfold deedW
    rw [if_pos ⟨by omega, by omega⟩]
    have hk' : k < deedsL.length := by simpa [deedsL] using hk
    simp only [List.getElem_map, Int.toNat_natCast]
    rw [List.getD_eq_getElem?_getD, List.getElem?_eq_getElem hk']; rfl
  rwa [e] at h
theorem own3 {b : Nat} {x y z : Value} : ∀ r h, Sat [blk b (.cells [x, y, z].toArray 9 (0, 0))] r h → Sat [ownS 9 (some ⟨b, 0, none⟩) 3 3 1 [x, y, z]] r h := by
  rintro r h ⟨r1, g1, g2, a1, a2, a3, a4, a5, a6⟩
  exact ⟨r1, g1, g2, a1, a2, a3, a4, own_blk (cells := [x, y, z]) (by show 3 ≤ maxLen; decide) _ _ a5, a6⟩
theorem Note_ok {m : PH} (hG : GlN m) (n : Note) (hw : n.wf) : FnOk Tryz.prog 23 [.agg n.enc.toArray] [roAll m] (fun v Q => v = str (noteS n) ∧ Q = [roAll m]) := by
  have l1 := itoa_len _ hw.who
  have l2 := deedW_len n.deed
  have l3 := itoa_len _ hw.ring
  have l4 := itoa_len _ hw.lo
  have l5 := itoa_len _ hw.seq
  have l6 := itoa_len _ hw.key
  have l7 := itoa_len _ hw.val
  have l8 := itoa_len _ hw.code
  rw [← noteL_S]
  obtain ⟨who, ring, deed, lo, seq, key, val, code⟩ := n
  obtain ⟨h1, h2, h3, h4, h5, h6, h7, h8⟩ := hw
  dsimp only at *
  unfold Note.enc
  dsimp only
  have hc : deed = 0 ∨ deed = 1 ∨ deed = 2 ∨ deed = 3 ∨ deed = 4 ∨ deed = 5 ∨ deed = 6 ∨ deed = 7 ∨ ¬(0 ≤ deed ∧ deed ≤ 7) := by omega
  rcases hc with rfl | rfl | rfl | rfl | rfl | rfl | rfl | rfl | hd
  · have eL : noteL ⟨who, ring, 0, lo, seq, key, val, code⟩ = [itoa who, deedW 0, itoa ring] := rfl
    rw [eL]
    refine FnOk.start Tryz.func23 rfl rfl rfl rfl fun F os tape output => ?_
    have hdw := deed_sees hG (d := 0) (k := 0) rfl (by decide)
    refine go 200 ?_
    conv => whnf
    repeat' (first | ((first | refine BrM.not (by omega) ?_ | refine BrM.t rfl ?_ | refine BrM.f rfl ?_ | refine BrM.dec (fun _ => ?_) (fun _ => ?_) | refine BrM.mk (fun _ => ?_) (fun _ => ?_) | refine Ar.i64 (by omega) (by omega) ?_ | refine gO rfl ?_ | refine gP rfl (by repeat constructor) ?_) <;> conv => whnf) | (refine atIdx ?_; refine Nx.gidx (q := 0) (sz := 1) rfl rfl rfl Tryz.underlying129 rfl rfl (by omega) (by omega) (by omega) ?_) | (refine atLoad ?_; refine Nx.load1 0 rfl rfl rfl rfl (hdw) rfl ?_) | (refine Nx.bind (l := 1) (fun _ => ?_) rfl; refine dN 4 [0] [0,5,12,16,21,10,26,30,32] rfl (by kernel_rfl) rfl (by kernel_rfl) rfl (by repeat constructor) rfl ?_) | (refine atCall 50 ?_; refine cE [0] [0] rfl rfl rfl rfl rfl ((number_ok hG _ (by first | assumption | exact I64n_zero))) rfl ?_) | (refine atAftK ?_; refine Nx.keepN [0] rfl (by repeat constructor) (by repeat constructor) rfl ?_) | (refine atHoAdd ?_; refine Nx.hoCat rfl rfl rfl rfl ((by simp; omega)) ?_) | refine Nx.late ?_)
    intro b
    refine go 200 ?_
    conv => whnf
    refine Nx.out 24 rfl rfl rfl rfl ?_
    refine Nx.turn [24] [5] [ownS 9 (some ⟨b, 0, none⟩) 3 3 1 [str (itoa who), str (deedW 0), str (itoa ring)]] rfl own3 ?_
    have hfit : (3 : Nat) ≤ 3 := Nat.le_refl _
    repeat' (first | ((first | refine BrM.t rfl ?_ | refine BrM.f rfl ?_ | refine BrM.dec (fun _ => ?_) (fun _ => ?_) | refine BrM.mk (fun _ => ?_) (fun _ => ?_) | refine Ar.i64 (by omega) (by omega) ?_ | refine gO rfl ?_ | refine gP rfl (by repeat constructor) ?_) <;> conv => whnf) | (refine atCall 58 ?_; refine cE [5] [5] rfl rfl rfl rfl rfl ((Join_ok (some ⟨b, 0, none⟩) 3 [itoa who, deedW 0, itoa ring] (by simp) (ownS_sees 9 (some ⟨b, 0, none⟩) 3 3 1 (strs [itoa who, deedW 0, itoa ring])) (by simp) hfit (by simp only [joinC, List.length_append, List.length_cons, List.length_nil]; omega))) rfl ?_) | (refine atRet ?_; refine Nx.ret [0] Tryz.func23 rfl rfl ?_; (exact ⟨rfl, rfl⟩)) | refine Nx.late ?_)
  · have eL : noteL ⟨who, ring, 1, lo, seq, key, val, code⟩ = [itoa who, deedW 1, itoa ring, itoa lo, itoa seq] := rfl
    rw [eL]
    refine FnOk.start Tryz.func23 rfl rfl rfl rfl fun F os tape output => ?_
    have hdw := deed_sees hG (d := 1) (k := 1) rfl (by decide)
    refine go 200 ?_
    conv => whnf
    repeat' (first | (refine (atReg 8) ?_; refine Nx.bind (l := 24) (fun b => ?_) rfl; refine Nx.realS 4 (l := 24) rfl rfl ?_; refine Nx.out 24 rfl rfl rfl rfl ?_; refine Nx.turn [24] [5] [ownS 9 (some ⟨b, 0, none⟩) 3 3 1 [str (itoa who), str (deedW 1), str (itoa ring)]] rfl own3 ?_) | ((first | refine BrM.not (by omega) ?_ | refine BrM.t rfl ?_ | refine BrM.f rfl ?_ | refine BrM.dec (fun _ => ?_) (fun _ => ?_) | refine BrM.mk (fun _ => ?_) (fun _ => ?_) | refine Ar.i64 (by omega) (by omega) ?_ | refine gO rfl ?_ | refine gP rfl (by repeat constructor) ?_) <;> conv => whnf) | (refine atIdx ?_; refine Nx.gidx (q := 1) (sz := 1) rfl rfl rfl Tryz.underlying129 rfl rfl (by omega) (by omega) (by omega) ?_) | (refine atLoad ?_; refine Nx.load1 0 rfl rfl rfl rfl (hdw) rfl ?_) | (refine Nx.bind (l := 1) (fun _ => ?_) rfl; refine dN 4 [0] [0,5,12,16,21,10,26,30,32] rfl (by kernel_rfl) rfl (by kernel_rfl) rfl (by repeat constructor) rfl ?_) | (refine dN 8 [0] [0,4,9,16,21,14,26,30,34,36] rfl (by kernel_rfl) rfl (by kernel_rfl) rfl (by repeat constructor) rfl ?_) | (refine atCall 50 ?_; refine cE [0] [0] rfl rfl rfl rfl rfl ((number_ok hG _ (by first | assumption | exact I64n_zero))) rfl ?_) | (refine atAftK ?_; refine Nx.keepN [0] rfl (by repeat constructor) (by repeat constructor) rfl ?_) | (refine atHoAdd ?_; refine Nx.hoCat rfl rfl rfl rfl ((by simp; omega)) ?_) | (refine atApp ?_; refine Nx.append 5 (sz := 1) (by_ := 16) (news := [str (itoa lo), str (itoa seq)]) rfl rfl rfl rfl rfl Tryz.underlying39 rfl rfl rfl rfl rfl (by unfold maxLen; omega) (by omega) fun A' c'' => ?_) | refine Nx.late ?_)
    refine Nx.fact 5 (p := 5 ≤ c'' ∧ c'' ≤ maxLen) rfl (fun r h hs => ownS_fit hs) fun ⟨hfit, _⟩ => ?_
    repeat' (first | ((first | refine BrM.t rfl ?_ | refine BrM.f rfl ?_ | refine BrM.dec (fun _ => ?_) (fun _ => ?_) | refine BrM.mk (fun _ => ?_) (fun _ => ?_) | refine Ar.i64 (by omega) (by omega) ?_ | refine gO rfl ?_ | refine gP rfl (by repeat constructor) ?_) <;> conv => whnf) | (refine atCall 58 ?_; refine cE [5] [5] rfl rfl rfl rfl rfl ((Join_ok A' c'' [itoa who, deedW 1, itoa ring, itoa lo, itoa seq] (by simp) (ownS_sees 9 A' 5 c'' 1 (strs [itoa who, deedW 1, itoa ring, itoa lo, itoa seq])) (by simp) hfit (by simp only [joinC, List.length_append, List.length_cons, List.length_nil]; omega))) rfl ?_) | (refine atRet ?_; refine Nx.ret [0] Tryz.func23 rfl rfl ?_; (exact ⟨rfl, rfl⟩)) | refine Nx.late ?_)
  · have eL : noteL ⟨who, ring, 2, lo, seq, key, val, code⟩ = [itoa who, deedW 2, itoa ring, itoa seq, (itoa key ++ [58]) ++ itoa val] := rfl
    rw [eL]
    refine FnOk.start Tryz.func23 rfl rfl rfl rfl fun F os tape output => ?_
    have hdw := deed_sees hG (d := 2) (k := 2) rfl (by decide)
    refine go 200 ?_
    conv => whnf
    repeat' (first | (refine (atReg 10) ?_; refine Nx.bind (l := 24) (fun b => ?_) rfl; refine Nx.realS 4 (l := 24) rfl rfl ?_; refine Nx.out 24 rfl rfl rfl rfl ?_; refine Nx.turn [24] [5] [ownS 9 (some ⟨b, 0, none⟩) 3 3 1 [str (itoa who), str (deedW 2), str (itoa ring)]] rfl own3 ?_) | ((first | refine BrM.not (by omega) ?_ | refine BrM.t rfl ?_ | refine BrM.f rfl ?_ | refine BrM.dec (fun _ => ?_) (fun _ => ?_) | refine BrM.mk (fun _ => ?_) (fun _ => ?_) | refine Ar.i64 (by omega) (by omega) ?_ | refine gO rfl ?_ | refine gP rfl (by repeat constructor) ?_) <;> conv => whnf) | (refine atIdx ?_; refine Nx.gidx (q := 2) (sz := 1) rfl rfl rfl Tryz.underlying129 rfl rfl (by omega) (by omega) (by omega) ?_) | (refine atLoad ?_; refine Nx.load1 0 rfl rfl rfl rfl (hdw) rfl ?_) | (refine Nx.bind (l := 1) (fun _ => ?_) rfl; refine dN 4 [0] [0,5,12,16,21,10,26,30,32] rfl (by kernel_rfl) rfl (by kernel_rfl) rfl (by repeat constructor) rfl ?_) | (refine dN 10 [0] [0,4,9,16,20,25,36,40,45,14,30,32,50,52,58,62,64] rfl (by kernel_rfl) rfl (by kernel_rfl) rfl (by repeat constructor) rfl ?_) | (refine atCall 50 ?_; refine cE [0] [0] rfl rfl rfl rfl rfl ((number_ok hG _ (by first | assumption | exact I64n_zero))) rfl ?_) | (refine atAftK ?_; refine Nx.keepN [0] rfl (by repeat constructor) (by repeat constructor) rfl ?_) | (refine atHoAdd ?_; refine Nx.hoCat rfl rfl rfl rfl ((by simp; omega)) ?_) | (refine atApp ?_; refine Nx.append 5 (sz := 1) (by_ := 16) (news := [str (itoa seq), str ((itoa key ++ [58]) ++ itoa val)]) rfl rfl rfl rfl rfl Tryz.underlying39 rfl rfl rfl rfl rfl (by unfold maxLen; omega) (by omega) fun A' c'' => ?_) | refine Nx.late ?_)
    refine Nx.fact 5 (p := 5 ≤ c'' ∧ c'' ≤ maxLen) rfl (fun r h hs => ownS_fit hs) fun ⟨hfit, _⟩ => ?_
    repeat' (first | ((first | refine BrM.t rfl ?_ | refine BrM.f rfl ?_ | refine BrM.dec (fun _ => ?_) (fun _ => ?_) | refine BrM.mk (fun _ => ?_) (fun _ => ?_) | refine Ar.i64 (by omega) (by omega) ?_ | refine gO rfl ?_ | refine gP rfl (by repeat constructor) ?_) <;> conv => whnf) | (refine atCall 58 ?_; refine cE [5] [5] rfl rfl rfl rfl rfl ((Join_ok A' c'' [itoa who, deedW 2, itoa ring, itoa seq, (itoa key ++ [58]) ++ itoa val] (by simp) (ownS_sees 9 A' 5 c'' 1 (strs [itoa who, deedW 2, itoa ring, itoa seq, (itoa key ++ [58]) ++ itoa val])) (by simp) hfit (by simp only [joinC, List.length_append, List.length_cons, List.length_nil]; omega))) rfl ?_) | (refine atRet ?_; refine Nx.ret [0] Tryz.func23 rfl rfl ?_; (exact ⟨rfl, rfl⟩)) | refine Nx.late ?_)
  · have eL : noteL ⟨who, ring, 3, lo, seq, key, val, code⟩ = [itoa who, deedW 3, itoa ring, itoa lo, itoa seq] := rfl
    rw [eL]
    refine FnOk.start Tryz.func23 rfl rfl rfl rfl fun F os tape output => ?_
    have hdw := deed_sees hG (d := 3) (k := 3) rfl (by decide)
    refine go 200 ?_
    conv => whnf
    repeat' (first | (refine (atReg 8) ?_; refine Nx.bind (l := 24) (fun b => ?_) rfl; refine Nx.realS 4 (l := 24) rfl rfl ?_; refine Nx.out 24 rfl rfl rfl rfl ?_; refine Nx.turn [24] [5] [ownS 9 (some ⟨b, 0, none⟩) 3 3 1 [str (itoa who), str (deedW 3), str (itoa ring)]] rfl own3 ?_) | ((first | refine BrM.not (by omega) ?_ | refine BrM.t rfl ?_ | refine BrM.f rfl ?_ | refine BrM.dec (fun _ => ?_) (fun _ => ?_) | refine BrM.mk (fun _ => ?_) (fun _ => ?_) | refine Ar.i64 (by omega) (by omega) ?_ | refine gO rfl ?_ | refine gP rfl (by repeat constructor) ?_) <;> conv => whnf) | (refine atIdx ?_; refine Nx.gidx (q := 3) (sz := 1) rfl rfl rfl Tryz.underlying129 rfl rfl (by omega) (by omega) (by omega) ?_) | (refine atLoad ?_; refine Nx.load1 0 rfl rfl rfl rfl (hdw) rfl ?_) | (refine Nx.bind (l := 1) (fun _ => ?_) rfl; refine dN 4 [0] [0,5,12,16,21,10,26,30,32] rfl (by kernel_rfl) rfl (by kernel_rfl) rfl (by repeat constructor) rfl ?_) | (refine dN 8 [0] [0,4,9,16,21,14,26,30,34,36] rfl (by kernel_rfl) rfl (by kernel_rfl) rfl (by repeat constructor) rfl ?_) | (refine atCall 50 ?_; refine cE [0] [0] rfl rfl rfl rfl rfl ((number_ok hG _ (by first | assumption | exact I64n_zero))) rfl ?_) | (refine atAftK ?_; refine Nx.keepN [0] rfl (by repeat constructor) (by repeat constructor) rfl ?_) | (refine atHoAdd ?_; refine Nx.hoCat rfl rfl rfl rfl ((by simp; omega)) ?_) | (refine atApp ?_; refine Nx.append 5 (sz := 1) (by_ := 16) (news := [str (itoa lo), str (itoa seq)]) rfl rfl rfl rfl rfl Tryz.underlying39 rfl rfl rfl rfl rfl (by unfold maxLen; omega) (by omega) fun A' c'' => ?_) | refine Nx.late ?_)
    refine Nx.fact 5 (p := 5 ≤ c'' ∧ c'' ≤ maxLen) rfl (fun r h hs => ownS_fit hs) fun ⟨hfit, _⟩ => ?_
    repeat' (first | ((first | refine BrM.t rfl ?_ | refine BrM.f rfl ?_ | refine BrM.dec (fun _ => ?_) (fun _ => ?_) | refine BrM.mk (fun _ => ?_) (fun _ => ?_) | refine Ar.i64 (by omega) (by omega) ?_ | refine gO rfl ?_ | refine gP rfl (by repeat constructor) ?_) <;> conv => whnf) | (refine atCall 58 ?_; refine cE [5] [5] rfl rfl rfl rfl rfl ((Join_ok A' c'' [itoa who, deedW 3, itoa ring, itoa lo, itoa seq] (by simp) (ownS_sees 9 A' 5 c'' 1 (strs [itoa who, deedW 3, itoa ring, itoa lo, itoa seq])) (by simp) hfit (by simp only [joinC, List.length_append, List.length_cons, List.length_nil]; omega))) rfl ?_) | (refine atRet ?_; refine Nx.ret [0] Tryz.func23 rfl rfl ?_; (exact ⟨rfl, rfl⟩)) | refine Nx.late ?_)
  · by_cases hz : code = 0
    · subst hz
      have eL : noteL ⟨who, ring, 4, lo, seq, key, val, 0⟩ = [itoa who, deedW 4, itoa ring, itoa 0, itoa lo, itoa seq] := rfl
      rw [eL]
      refine FnOk.start Tryz.func23 rfl rfl rfl rfl fun F os tape output => ?_
      have hdw := deed_sees hG (d := 4) (k := 4) rfl (by decide)
      refine go 200 ?_
      conv => whnf
      repeat' (first | (refine atApp ?_; refine Nx.bind (l := 24) (fun b => ?_) rfl; refine Nx.realS 59 (l := 24) rfl rfl ?_; refine Nx.out 24 rfl rfl rfl rfl ?_; refine Nx.turn [24] [5] [ownS 9 (some ⟨b, 0, none⟩) 3 3 1 [str (itoa who), str (deedW 4), str (itoa ring)]] rfl own3 ?_) | ((first | refine BrM.not (by omega) ?_ | refine BrM.t rfl ?_ | refine BrM.f rfl ?_ | refine BrM.dec (fun _ => ?_) (fun _ => ?_) | refine BrM.mk (fun _ => ?_) (fun _ => ?_) | refine Ar.i64 (by omega) (by omega) ?_ | refine gO rfl ?_ | refine gP rfl (by repeat constructor) ?_) <;> conv => whnf) | (refine atIdx ?_; refine Nx.gidx (q := 4) (sz := 1) rfl rfl rfl Tryz.underlying129 rfl rfl (by omega) (by omega) (by omega) ?_) | (refine atLoad ?_; refine Nx.load1 0 rfl rfl rfl rfl (hdw) rfl ?_) | (refine Nx.bind (l := 1) (fun _ => ?_) rfl; refine dN 4 [0] [0,5,12,16,21,10,26,30,32] rfl (by kernel_rfl) rfl (by kernel_rfl) rfl (by repeat constructor) rfl ?_) | (refine Nx.bind (l := 63) (fun _ => ?_) rfl; refine dN 14 [0] [0,4,9,16,21,14,26,30,34,36] rfl (by kernel_rfl) rfl (by kernel_rfl) rfl (by repeat constructor) rfl ?_) | (refine atCall 50 ?_; refine cE [0] [0] rfl rfl rfl rfl rfl ((number_ok hG _ (by first | assumption | exact I64n_zero))) rfl ?_) | (refine atAftK ?_; refine Nx.keepN [0] rfl (by repeat constructor) (by repeat constructor) rfl ?_) | (refine atHoAdd ?_; refine Nx.hoCat rfl rfl rfl rfl ((by simp; omega)) ?_) | (refine atApp ?_; refine Nx.append 5 (sz := 1) (by_ := 16) (news := [str (itoa 0)]) rfl rfl rfl rfl rfl Tryz.underlying39 rfl rfl rfl rfl rfl (by unfold maxLen; omega) (by omega) fun A' c'' => ?_) | (refine atApp ?_; refine Nx.append 5 (sz := 1) (by_ := 16) (news := [str (itoa lo), str (itoa seq)]) rfl rfl rfl rfl rfl Tryz.underlying39 rfl rfl rfl rfl rfl (by unfold maxLen; omega) (by omega) fun A' c'' => ?_) | refine Nx.late ?_)
      refine Nx.fact 5 (p := 6 ≤ c'' ∧ c'' ≤ maxLen) rfl (fun r h hs => ownS_fit hs) fun ⟨hfit, _⟩ => ?_
      repeat' (first | ((first | refine BrM.t rfl ?_ | refine BrM.f rfl ?_ | refine BrM.dec (fun _ => ?_) (fun _ => ?_) | refine BrM.mk (fun _ => ?_) (fun _ => ?_) | refine Ar.i64 (by omega) (by omega) ?_ | refine gO rfl ?_ | refine gP rfl (by repeat constructor) ?_) <;> conv => whnf) | (refine atCall 58 ?_; refine cE [5] [5] rfl rfl rfl rfl rfl ((Join_ok A' c'' [itoa who, deedW 4, itoa ring, itoa 0, itoa lo, itoa seq] (by simp) (ownS_sees 9 A' 6 c'' 1 (strs [itoa who, deedW 4, itoa ring, itoa 0, itoa lo, itoa seq])) (by simp) hfit (by simp only [joinC, List.length_append, List.length_cons, List.length_nil]; omega))) rfl ?_) | (refine atRet ?_; refine Nx.ret [0] Tryz.func23 rfl rfl ?_; (exact ⟨rfl, rfl⟩)) | refine Nx.late ?_)
    · have eL : noteL ⟨who, ring, 4, lo, seq, key, val, code⟩ = [itoa who, deedW 4, itoa ring, itoa code] := by unfold noteL; rw [if_neg (by dsimp only; omega), if_neg (by dsimp only; omega), if_pos rfl, if_neg hz]; rfl
      rw [eL]
      refine FnOk.start Tryz.func23 rfl rfl rfl rfl fun F os tape output => ?_
      have hdw := deed_sees hG (d := 4) (k := 4) rfl (by decide)
      refine go 200 ?_
      conv => whnf
      repeat' (first | (refine atApp ?_; refine Nx.bind (l := 24) (fun b => ?_) rfl; refine Nx.realS 59 (l := 24) rfl rfl ?_; refine Nx.out 24 rfl rfl rfl rfl ?_; refine Nx.turn [24] [5] [ownS 9 (some ⟨b, 0, none⟩) 3 3 1 [str (itoa who), str (deedW 4), str (itoa ring)]] rfl own3 ?_) | ((first | refine BrM.not (by omega) ?_ | refine BrM.t rfl ?_ | refine BrM.f rfl ?_ | refine BrM.dec (fun _ => ?_) (fun _ => ?_) | refine BrM.mk (fun _ => ?_) (fun _ => ?_) | refine Ar.i64 (by omega) (by omega) ?_ | refine gO rfl ?_ | refine gP rfl (by repeat constructor) ?_) <;> conv => whnf) | (refine atIdx ?_; refine Nx.gidx (q := 4) (sz := 1) rfl rfl rfl Tryz.underlying129 rfl rfl (by omega) (by omega) (by omega) ?_) | (refine atLoad ?_; refine Nx.load1 0 rfl rfl rfl rfl (hdw) rfl ?_) | (refine Nx.bind (l := 1) (fun _ => ?_) rfl; refine dN 4 [0] [0,5,12,16,21,10,26,30,32] rfl (by kernel_rfl) rfl (by kernel_rfl) rfl (by repeat constructor) rfl ?_) | (refine atCall 50 ?_; refine cE [0] [0] rfl rfl rfl rfl rfl ((number_ok hG _ (by first | assumption | exact I64n_zero))) rfl ?_) | (refine atAftK ?_; refine Nx.keepN [0] rfl (by repeat constructor) (by repeat constructor) rfl ?_) | (refine atHoAdd ?_; refine Nx.hoCat rfl rfl rfl rfl ((by simp; omega)) ?_) | (refine atApp ?_; refine Nx.append 5 (sz := 1) (by_ := 16) (news := [str (itoa code)]) rfl rfl rfl rfl rfl Tryz.underlying39 rfl rfl rfl rfl rfl (by unfold maxLen; omega) (by omega) fun A' c'' => ?_) | refine Nx.late ?_)
      refine Nx.fact 5 (p := 4 ≤ c'' ∧ c'' ≤ maxLen) rfl (fun r h hs => ownS_fit hs) fun ⟨hfit, _⟩ => ?_
      repeat' (first | ((first | refine BrM.t rfl ?_ | refine BrM.f rfl ?_ | refine BrM.dec (fun _ => ?_) (fun _ => ?_) | refine BrM.mk (fun _ => ?_) (fun _ => ?_) | refine Ar.i64 (by omega) (by omega) ?_ | refine gO rfl ?_ | refine gP rfl (by repeat constructor) ?_) <;> conv => whnf) | (refine atCall 58 ?_; refine cE [5] [5] rfl rfl rfl rfl rfl ((Join_ok A' c'' [itoa who, deedW 4, itoa ring, itoa code] (by simp) (ownS_sees 9 A' 4 c'' 1 (strs [itoa who, deedW 4, itoa ring, itoa code])) (by simp) hfit (by simp only [joinC, List.length_append, List.length_cons, List.length_nil]; omega))) rfl ?_) | (refine atRet ?_; refine Nx.ret [0] Tryz.func23 rfl rfl ?_; (exact ⟨rfl, rfl⟩)) | refine Nx.late ?_)
  · have eL : noteL ⟨who, ring, 5, lo, seq, key, val, code⟩ = [itoa who, deedW 5, itoa ring, itoa seq] := rfl
    rw [eL]
    refine FnOk.start Tryz.func23 rfl rfl rfl rfl fun F os tape output => ?_
    have hdw := deed_sees hG (d := 5) (k := 5) rfl (by decide)
    refine go 200 ?_
    conv => whnf
    repeat' (first | (refine atApp ?_; refine Nx.bind (l := 24) (fun b => ?_) rfl; refine Nx.realS 81 (l := 24) rfl rfl ?_; refine Nx.out 24 rfl rfl rfl rfl ?_; refine Nx.turn [24] [5] [ownS 9 (some ⟨b, 0, none⟩) 3 3 1 [str (itoa who), str (deedW 5), str (itoa ring)]] rfl own3 ?_) | ((first | refine BrM.not (by omega) ?_ | refine BrM.t rfl ?_ | refine BrM.f rfl ?_ | refine BrM.dec (fun _ => ?_) (fun _ => ?_) | refine BrM.mk (fun _ => ?_) (fun _ => ?_) | refine Ar.i64 (by omega) (by omega) ?_ | refine gO rfl ?_ | refine gP rfl (by repeat constructor) ?_) <;> conv => whnf) | (refine atIdx ?_; refine Nx.gidx (q := 5) (sz := 1) rfl rfl rfl Tryz.underlying129 rfl rfl (by omega) (by omega) (by omega) ?_) | (refine atLoad ?_; refine Nx.load1 0 rfl rfl rfl rfl (hdw) rfl ?_) | (refine Nx.bind (l := 1) (fun _ => ?_) rfl; refine dN 4 [0] [0,5,12,16,21,10,26,30,32] rfl (by kernel_rfl) rfl (by kernel_rfl) rfl (by repeat constructor) rfl ?_) | (refine atCall 50 ?_; refine cE [0] [0] rfl rfl rfl rfl rfl ((number_ok hG _ (by first | assumption | exact I64n_zero))) rfl ?_) | (refine atAftK ?_; refine Nx.keepN [0] rfl (by repeat constructor) (by repeat constructor) rfl ?_) | (refine atHoAdd ?_; refine Nx.hoCat rfl rfl rfl rfl ((by simp; omega)) ?_) | (refine atApp ?_; refine Nx.append 5 (sz := 1) (by_ := 16) (news := [str (itoa seq)]) rfl rfl rfl rfl rfl Tryz.underlying39 rfl rfl rfl rfl rfl (by unfold maxLen; omega) (by omega) fun A' c'' => ?_) | refine Nx.late ?_)
    refine Nx.fact 5 (p := 4 ≤ c'' ∧ c'' ≤ maxLen) rfl (fun r h hs => ownS_fit hs) fun ⟨hfit, _⟩ => ?_
    repeat' (first | ((first | refine BrM.t rfl ?_ | refine BrM.f rfl ?_ | refine BrM.dec (fun _ => ?_) (fun _ => ?_) | refine BrM.mk (fun _ => ?_) (fun _ => ?_) | refine Ar.i64 (by omega) (by omega) ?_ | refine gO rfl ?_ | refine gP rfl (by repeat constructor) ?_) <;> conv => whnf) | (refine atCall 58 ?_; refine cE [5] [5] rfl rfl rfl rfl rfl ((Join_ok A' c'' [itoa who, deedW 5, itoa ring, itoa seq] (by simp) (ownS_sees 9 A' 4 c'' 1 (strs [itoa who, deedW 5, itoa ring, itoa seq])) (by simp) hfit (by simp only [joinC, List.length_append, List.length_cons, List.length_nil]; omega))) rfl ?_) | (refine atRet ?_; refine Nx.ret [0] Tryz.func23 rfl rfl ?_; (exact ⟨rfl, rfl⟩)) | refine Nx.late ?_)
  · have eL : noteL ⟨who, ring, 6, lo, seq, key, val, code⟩ = [itoa who, deedW 6, itoa ring, itoa seq] := rfl
    rw [eL]
    refine FnOk.start Tryz.func23 rfl rfl rfl rfl fun F os tape output => ?_
    have hdw := deed_sees hG (d := 6) (k := 6) rfl (by decide)
    refine go 200 ?_
    conv => whnf
    repeat' (first | (refine atApp ?_; refine Nx.bind (l := 24) (fun b => ?_) rfl; refine Nx.realS 81 (l := 24) rfl rfl ?_; refine Nx.out 24 rfl rfl rfl rfl ?_; refine Nx.turn [24] [5] [ownS 9 (some ⟨b, 0, none⟩) 3 3 1 [str (itoa who), str (deedW 6), str (itoa ring)]] rfl own3 ?_) | ((first | refine BrM.not (by omega) ?_ | refine BrM.t rfl ?_ | refine BrM.f rfl ?_ | refine BrM.dec (fun _ => ?_) (fun _ => ?_) | refine BrM.mk (fun _ => ?_) (fun _ => ?_) | refine Ar.i64 (by omega) (by omega) ?_ | refine gO rfl ?_ | refine gP rfl (by repeat constructor) ?_) <;> conv => whnf) | (refine atIdx ?_; refine Nx.gidx (q := 6) (sz := 1) rfl rfl rfl Tryz.underlying129 rfl rfl (by omega) (by omega) (by omega) ?_) | (refine atLoad ?_; refine Nx.load1 0 rfl rfl rfl rfl (hdw) rfl ?_) | (refine Nx.bind (l := 1) (fun _ => ?_) rfl; refine dN 4 [0] [0,5,12,16,21,10,26,30,32] rfl (by kernel_rfl) rfl (by kernel_rfl) rfl (by repeat constructor) rfl ?_) | (refine atCall 50 ?_; refine cE [0] [0] rfl rfl rfl rfl rfl ((number_ok hG _ (by first | assumption | exact I64n_zero))) rfl ?_) | (refine atAftK ?_; refine Nx.keepN [0] rfl (by repeat constructor) (by repeat constructor) rfl ?_) | (refine atHoAdd ?_; refine Nx.hoCat rfl rfl rfl rfl ((by simp; omega)) ?_) | (refine atApp ?_; refine Nx.append 5 (sz := 1) (by_ := 16) (news := [str (itoa seq)]) rfl rfl rfl rfl rfl Tryz.underlying39 rfl rfl rfl rfl rfl (by unfold maxLen; omega) (by omega) fun A' c'' => ?_) | refine Nx.late ?_)
    refine Nx.fact 5 (p := 4 ≤ c'' ∧ c'' ≤ maxLen) rfl (fun r h hs => ownS_fit hs) fun ⟨hfit, _⟩ => ?_
    repeat' (first | ((first | refine BrM.t rfl ?_ | refine BrM.f rfl ?_ | refine BrM.dec (fun _ => ?_) (fun _ => ?_) | refine BrM.mk (fun _ => ?_) (fun _ => ?_) | refine Ar.i64 (by omega) (by omega) ?_ | refine gO rfl ?_ | refine gP rfl (by repeat constructor) ?_) <;> conv => whnf) | (refine atCall 58 ?_; refine cE [5] [5] rfl rfl rfl rfl rfl ((Join_ok A' c'' [itoa who, deedW 6, itoa ring, itoa seq] (by simp) (ownS_sees 9 A' 4 c'' 1 (strs [itoa who, deedW 6, itoa ring, itoa seq])) (by simp) hfit (by simp only [joinC, List.length_append, List.length_cons, List.length_nil]; omega))) rfl ?_) | (refine atRet ?_; refine Nx.ret [0] Tryz.func23 rfl rfl ?_; (exact ⟨rfl, rfl⟩)) | refine Nx.late ?_)
  · have eL : noteL ⟨who, ring, 7, lo, seq, key, val, code⟩ = [itoa who, deedW 7, itoa ring, itoa seq] := rfl
    rw [eL]
    refine FnOk.start Tryz.func23 rfl rfl rfl rfl fun F os tape output => ?_
    have hdw := deed_sees hG (d := 7) (k := 7) rfl (by decide)
    refine go 200 ?_
    conv => whnf
    repeat' (first | (refine atApp ?_; refine Nx.bind (l := 24) (fun b => ?_) rfl; refine Nx.realS 81 (l := 24) rfl rfl ?_; refine Nx.out 24 rfl rfl rfl rfl ?_; refine Nx.turn [24] [5] [ownS 9 (some ⟨b, 0, none⟩) 3 3 1 [str (itoa who), str (deedW 7), str (itoa ring)]] rfl own3 ?_) | ((first | refine BrM.not (by omega) ?_ | refine BrM.t rfl ?_ | refine BrM.f rfl ?_ | refine BrM.dec (fun _ => ?_) (fun _ => ?_) | refine BrM.mk (fun _ => ?_) (fun _ => ?_) | refine Ar.i64 (by omega) (by omega) ?_ | refine gO rfl ?_ | refine gP rfl (by repeat constructor) ?_) <;> conv => whnf) | (refine atIdx ?_; refine Nx.gidx (q := 7) (sz := 1) rfl rfl rfl Tryz.underlying129 rfl rfl (by omega) (by omega) (by omega) ?_) | (refine atLoad ?_; refine Nx.load1 0 rfl rfl rfl rfl (hdw) rfl ?_) | (refine Nx.bind (l := 1) (fun _ => ?_) rfl; refine dN 4 [0] [0,5,12,16,21,10,26,30,32] rfl (by kernel_rfl) rfl (by kernel_rfl) rfl (by repeat constructor) rfl ?_) | (refine atCall 50 ?_; refine cE [0] [0] rfl rfl rfl rfl rfl ((number_ok hG _ (by first | assumption | exact I64n_zero))) rfl ?_) | (refine atAftK ?_; refine Nx.keepN [0] rfl (by repeat constructor) (by repeat constructor) rfl ?_) | (refine atHoAdd ?_; refine Nx.hoCat rfl rfl rfl rfl ((by simp; omega)) ?_) | (refine atApp ?_; refine Nx.append 5 (sz := 1) (by_ := 16) (news := [str (itoa seq)]) rfl rfl rfl rfl rfl Tryz.underlying39 rfl rfl rfl rfl rfl (by unfold maxLen; omega) (by omega) fun A' c'' => ?_) | refine Nx.late ?_)
    refine Nx.fact 5 (p := 4 ≤ c'' ∧ c'' ≤ maxLen) rfl (fun r h hs => ownS_fit hs) fun ⟨hfit, _⟩ => ?_
    repeat' (first | ((first | refine BrM.t rfl ?_ | refine BrM.f rfl ?_ | refine BrM.dec (fun _ => ?_) (fun _ => ?_) | refine BrM.mk (fun _ => ?_) (fun _ => ?_) | refine Ar.i64 (by omega) (by omega) ?_ | refine gO rfl ?_ | refine gP rfl (by repeat constructor) ?_) <;> conv => whnf) | (refine atCall 58 ?_; refine cE [5] [5] rfl rfl rfl rfl rfl ((Join_ok A' c'' [itoa who, deedW 7, itoa ring, itoa seq] (by simp) (ownS_sees 9 A' 4 c'' 1 (strs [itoa who, deedW 7, itoa ring, itoa seq])) (by simp) hfit (by simp only [joinC, List.length_append, List.length_cons, List.length_nil]; omega))) rfl ?_) | (refine atRet ?_; refine Nx.ret [0] Tryz.func23 rfl rfl ?_; (exact ⟨rfl, rfl⟩)) | refine Nx.late ?_)
  · have eL : noteL ⟨who, ring, deed, lo, seq, key, val, code⟩ = [itoa who, [110, 111, 110, 101], itoa ring] := by unfold noteL; dsimp only; rw [if_neg (by omega), if_neg (by omega), if_neg (by omega), if_neg (by omega)]; unfold headL deedW; dsimp only; rw [if_neg (by omega)]
    rw [eL]
    by_cases h0 : 0 ≤ deed
    · refine FnOk.start Tryz.func23 rfl rfl rfl rfl fun F os tape output => ?_
      refine go 200 ?_
      conv => whnf
      repeat' (first | ((first | refine BrM.yes (by omega) ?_ | refine BrM.not (by omega) ?_ | refine BrM.t rfl ?_ | refine BrM.f rfl ?_ | refine BrM.dec (fun _ => ?_) (fun _ => ?_) | refine BrM.mk (fun _ => ?_) (fun _ => ?_) | refine Ar.i64 (by omega) (by omega) ?_ | refine gO rfl ?_ | refine gP rfl (by repeat constructor) ?_) <;> conv => whnf) | (refine Nx.bind (l := 1) (fun _ => ?_) rfl; refine dN 4 [0] [0,5,12,16,21,10,26,30,32] rfl (by kernel_rfl) rfl (by kernel_rfl) rfl (by repeat constructor) rfl ?_) | (refine atCall 50 ?_; refine cE [0] [0] rfl rfl rfl rfl rfl ((number_ok hG _ (by first | assumption | exact I64n_zero))) rfl ?_) | (refine atAftK ?_; refine Nx.keepN [0] rfl (by repeat constructor) (by repeat constructor) rfl ?_) | (refine atHoAdd ?_; refine Nx.hoCat rfl rfl rfl rfl ((by simp; omega)) ?_) | refine Nx.late ?_)
      intro b
      refine go 200 ?_
      conv => whnf
      refine Nx.out 24 rfl rfl rfl rfl ?_
      refine Nx.turn [24] [5] [ownS 9 (some ⟨b, 0, none⟩) 3 3 1 [str (itoa who), str [110, 111, 110, 101], str (itoa ring)]] rfl own3 ?_
      have hfit : (3 : Nat) ≤ 3 := Nat.le_refl _
      repeat' (first | ((first | refine BrM.t rfl ?_ | refine BrM.f rfl ?_ | refine BrM.dec (fun _ => ?_) (fun _ => ?_) | refine BrM.mk (fun _ => ?_) (fun _ => ?_) | refine Ar.i64 (by omega) (by omega) ?_ | refine gO rfl ?_ | refine gP rfl (by repeat constructor) ?_) <;> conv => whnf) | (refine atCall 58 ?_; refine cE [5] [5] rfl rfl rfl rfl rfl ((Join_ok (some ⟨b, 0, none⟩) 3 [itoa who, [110, 111, 110, 101], itoa ring] (by simp) (ownS_sees 9 (some ⟨b, 0, none⟩) 3 3 1 (strs [itoa who, [110, 111, 110, 101], itoa ring])) (by simp) hfit (by simp only [joinC, List.length_append, List.length_cons, List.length_nil]; omega))) rfl ?_) | (refine atRet ?_; refine Nx.ret [0] Tryz.func23 rfl rfl ?_; (exact ⟨rfl, rfl⟩)) | refine Nx.late ?_)
    · refine FnOk.start Tryz.func23 rfl rfl rfl rfl fun F os tape output => ?_
      refine go 200 ?_
      conv => whnf
      repeat' (first | ((first | refine BrM.yes (by omega) ?_ | refine BrM.not (by omega) ?_ | refine BrM.t rfl ?_ | refine BrM.f rfl ?_ | refine BrM.dec (fun _ => ?_) (fun _ => ?_) | refine BrM.mk (fun _ => ?_) (fun _ => ?_) | refine Ar.i64 (by omega) (by omega) ?_ | refine gO rfl ?_ | refine gP rfl (by repeat constructor) ?_) <;> conv => whnf) | (refine Nx.bind (l := 1) (fun _ => ?_) rfl; refine dN 4 [0] [0,5,12,16,21,10,26,30,32] rfl (by kernel_rfl) rfl (by kernel_rfl) rfl (by repeat constructor) rfl ?_) | (refine atCall 50 ?_; refine cE [0] [0] rfl rfl rfl rfl rfl ((number_ok hG _ (by first | assumption | exact I64n_zero))) rfl ?_) | (refine atAftK ?_; refine Nx.keepN [0] rfl (by repeat constructor) (by repeat constructor) rfl ?_) | (refine atHoAdd ?_; refine Nx.hoCat rfl rfl rfl rfl ((by simp; omega)) ?_) | refine Nx.late ?_)
      intro b
      refine go 200 ?_
      conv => whnf
      refine Nx.out 24 rfl rfl rfl rfl ?_
      refine Nx.turn [24] [5] [ownS 9 (some ⟨b, 0, none⟩) 3 3 1 [str (itoa who), str [110, 111, 110, 101], str (itoa ring)]] rfl own3 ?_
      have hfit : (3 : Nat) ≤ 3 := Nat.le_refl _
      repeat' (first | ((first | refine BrM.t rfl ?_ | refine BrM.f rfl ?_ | refine BrM.dec (fun _ => ?_) (fun _ => ?_) | refine BrM.mk (fun _ => ?_) (fun _ => ?_) | refine Ar.i64 (by omega) (by omega) ?_ | refine gO rfl ?_ | refine gP rfl (by repeat constructor) ?_) <;> conv => whnf) | (refine atCall 58 ?_; refine cE [5] [5] rfl rfl rfl rfl rfl ((Join_ok (some ⟨b, 0, none⟩) 3 [itoa who, [110, 111, 110, 101], itoa ring] (by simp) (ownS_sees 9 (some ⟨b, 0, none⟩) 3 3 1 (strs [itoa who, [110, 111, 110, 101], itoa ring])) (by simp) hfit (by simp only [joinC, List.length_append, List.length_cons, List.length_nil]; omega))) rfl ?_) | (refine atRet ?_; refine Nx.ret [0] Tryz.func23 rfl rfl ?_; (exact ⟨rfl, rfl⟩)) | refine Nx.late ?_)
end Go.Proofs.YtccmdlmlbkpjjaaGreatDoor

/- Fill, where something was handled; all of fill. -/
namespace Go.Proofs.YtccmdlmlbkpjjaaGreatDoor
open Go.RowKit Go.Lib
attribute [local irreducible] Nx Ar BrM headC OneC HoC AftC planHead endF
set_option maxRecDepth 20000
set_option maxHeartbeats 4000000
set_option linter.unusedSectionVars false
theorem Cut_yes {m : PH} (hG : Glo m) (s : Str) {a b : Str} (hs : s.length < 4294967281) (hp : pairC 58 s = some (a, b)) : FnOk Tryz.prog 122 [str s, str [58]] [roAll m] (fun v Q => v = .tuple #[str a, str b, .bool true] ∧ Q = [roAll m]) :=
  (Cut_ok hG s hs).imp fun v Q h => by rw [hp] at h; exact h
theorem Cut_no {m : PH} (hG : Glo m) (s : Str) (hs : s.length < 4294967281) (hp : pairC 58 s = none) : FnOk Tryz.prog 122 [str s, str [58]] [roAll m] (fun v Q => v = .tuple #[str s, str [], .bool false] ∧ Q = [roAll m]) :=
  (Cut_ok hG s hs).imp fun v Q h => by rw [hp] at h; exact h
theorem pairR_len {s a b : Str} (h : pairC 58 s = some (a, b)) : a.length ≤ s.length ∧ b.length ≤ s.length := by
  obtain ⟨rfl, _⟩ := pairC_some.1 h
  simp; omega
theorem fill2 {m : PH} {S : SP} (hG : Glo m) (b : Nat) (w g : Int) (A : Option Addr) (c : Nat) (l : List Str) (hs : Sees S A l.length 1 (strs l)) (hl : ∀ w ∈ l, w.length ≤ 1000000) (hn : l.length ≤ 1000000) : FnOk Tryz.prog 72 [.pointer (some ⟨b, 0, none⟩), .slice A l.length c] [roAll m, S, noteB b ⟨w, g, 2, 0, 0, 0, 0, 0⟩] (fillPost m S b (fillP 2 w g l)) := by
  by_cases h2 : l.length = 2
  · match l, h2, hs, hl, hn with
    | [a, bb], _, hs, hl, hn =>
      have hs1 : Sees S A 2 1 ([a, bb].flatMap fun w => [str w]) := by
        have := hs
        rw [strs_flatR] at this
        exact this
      have hbl : bb.length ≤ 1000000 := hl bb (by simp)
      have hal : a.length ≤ 1000000 := hl a (by simp)
      show FnOk _ _ [_, .slice A 2 c] _ _
      cases hp : pairC 58 bb with
      | none =>
        have hl3 : ∀ w ∈ [a, bb, []], w.length ≤ 1000000 := by
          intro w hw
          simp at hw
          rcases hw with rfl | rfl | rfl <;> first | assumption | simp
        have hb3 : valuesO [a, bb, []] 3 = none := by
          have h1 : numsO [a, bb, []] = none := numsO_bad (k := 2) (by simp) rfl
          exact (if_pos rfl).trans h1
        have hf : fillP 2 w g [a, bb] = none := by simp [fillP, hp]
        rw [hf]
        refine FnOk.start Tryz.func72 rfl rfl rfl rfl fun F os tape output => ?_
        refine Nx.inn 2 [0] rfl ⟨rfl, rfl⟩ rfl ⟨rfl, trivial⟩ ?_
        refine go 200 ?_
        conv => whnf
        repeat' (first | ((first | refine BrM.t rfl ?_ | refine BrM.f rfl ?_ | refine BrM.dec (fun _ => ?_) (fun _ => ?_) | refine BrM.mk (fun _ => ?_) (fun _ => ?_) | refine Ar.i64 (by omega) (by omega) ?_ | refine gO rfl ?_ | refine gP rfl (by repeat constructor) ?_) <;> conv => whnf) | (refine atIdx ?_; refine Nx.idx 1 (j := 1) rfl rfl rfl Tryz.underlying39 rfl rfl rfl one1_len hs1 rfl (by omega) (by simp) fun _ _ _ => ?_) | (refine atIdx ?_; refine Nx.idx 1 (j := 0) rfl rfl rfl Tryz.underlying39 rfl rfl rfl one1_len hs1 rfl (by omega) (by simp) fun _ _ _ => ?_) | (refine atLoad ?_; first | (refine Nx.load1 1 rfl rfl rfl rfl (SeesAt.sub (by assumption) _ rfl) rfl ?_) | (refine Nx.load1 1 rfl rfl rfl rfl (by assumption) rfl ?_) | (refine Nx.load 1 rfl rfl rfl rfl (by assumption) rfl rfl ?_)) | (refine atCall 122 ?_; refine cE [0] [0] rfl rfl rfl rfl rfl ((Cut_no hG bb (by omega) hp)) rfl ?_) | (fail) | refine Nx.late ?_)
        intro q
        refine go 200 ?_
        conv => whnf
        refine Nx.out 63 rfl rfl rfl rfl ?_
        refine Nx.turn [63] [6] [ownS 9 (some ⟨q, 0, none⟩) 3 3 1 [str a, str bb, str []]] rfl own3 ?_
        repeat' (first | ((first | refine BrM.t rfl ?_ | refine BrM.f rfl ?_ | refine BrM.dec (fun _ => ?_) (fun _ => ?_) | refine BrM.mk (fun _ => ?_) (fun _ => ?_) | refine Ar.i64 (by omega) (by omega) ?_ | refine gO rfl ?_ | refine gP rfl (by repeat constructor) ?_) <;> conv => whnf) | (refine (atCall 71) ?_; refine Nx.call [0,6] [0,6] rfl rfl rfl rfl rfl ((values_no hG (some ⟨q, 0, none⟩) 3 [a, bb, []] (ownS_sees 9 (some ⟨q, 0, none⟩) 3 3 1 (strs [a, bb, []])) hl3 (by simp) hb3)) rfl fun v Q hQ => ?_; obtain ⟨B, n, e, rfl, rfl⟩ := hQ) | (refine atRet ?_; refine Nx.out 2 rfl rfl rfl rfl ?_; refine Nx.ret [0,1,2] Tryz.func72 rfl rfl ?_; exact ⟨⟨w, g, 2, 0, 0, 0, 0, 0⟩, .inr ⟨rfl, rfl⟩, rfl⟩) | refine Nx.late ?_)
      | some pq =>
        obtain ⟨p, t⟩ := pq
        have hpl := pairR_len hp
        have hl3 : ∀ w ∈ [a, p, t], w.length ≤ 1000000 := by
          intro w hw
          simp at hw
          rcases hw with rfl | rfl | rfl <;> omega
        have hnv : valuesO [a, p, t] 3 = numsO [a, p, t] := if_pos rfl
        rcases val3 (l := [a, p, t]) with hv | ⟨x, y, z, hv⟩
        · have hf : fillP 2 w g [a, bb] = none := by rw [hnv] at hv; simp [fillP, hp, hv]
          rw [hf]
          refine FnOk.start Tryz.func72 rfl rfl rfl rfl fun F os tape output => ?_
          refine Nx.inn 2 [0] rfl ⟨rfl, rfl⟩ rfl ⟨rfl, trivial⟩ ?_
          refine go 200 ?_
          conv => whnf
          repeat' (first | ((first | refine BrM.t rfl ?_ | refine BrM.f rfl ?_ | refine BrM.dec (fun _ => ?_) (fun _ => ?_) | refine BrM.mk (fun _ => ?_) (fun _ => ?_) | refine Ar.i64 (by omega) (by omega) ?_ | refine gO rfl ?_ | refine gP rfl (by repeat constructor) ?_) <;> conv => whnf) | (refine atIdx ?_; refine Nx.idx 1 (j := 1) rfl rfl rfl Tryz.underlying39 rfl rfl rfl one1_len hs1 rfl (by omega) (by simp) fun _ _ _ => ?_) | (refine atIdx ?_; refine Nx.idx 1 (j := 0) rfl rfl rfl Tryz.underlying39 rfl rfl rfl one1_len hs1 rfl (by omega) (by simp) fun _ _ _ => ?_) | (refine atLoad ?_; first | (refine Nx.load1 1 rfl rfl rfl rfl (SeesAt.sub (by assumption) _ rfl) rfl ?_) | (refine Nx.load1 1 rfl rfl rfl rfl (by assumption) rfl ?_) | (refine Nx.load 1 rfl rfl rfl rfl (by assumption) rfl rfl ?_)) | (refine atCall 122 ?_; refine cE [0] [0] rfl rfl rfl rfl rfl ((Cut_yes hG bb (by omega) hp)) rfl ?_) | (fail) | refine Nx.late ?_)
          intro q
          refine go 200 ?_
          conv => whnf
          refine Nx.out 63 rfl rfl rfl rfl ?_
          refine Nx.turn [63] [6] [ownS 9 (some ⟨q, 0, none⟩) 3 3 1 [str a, str p, str t]] rfl own3 ?_
          repeat' (first | ((first | refine BrM.t rfl ?_ | refine BrM.f rfl ?_ | refine BrM.dec (fun _ => ?_) (fun _ => ?_) | refine BrM.mk (fun _ => ?_) (fun _ => ?_) | refine Ar.i64 (by omega) (by omega) ?_ | refine gO rfl ?_ | refine gP rfl (by repeat constructor) ?_) <;> conv => whnf) | (refine (atCall 71) ?_; refine Nx.call [0,6] [0,6] rfl rfl rfl rfl rfl ((values_no hG (some ⟨q, 0, none⟩) 3 [a, p, t] (ownS_sees 9 (some ⟨q, 0, none⟩) 3 3 1 (strs [a, p, t])) hl3 (by simp) hv)) rfl fun v Q hQ => ?_; obtain ⟨B, n, e, rfl, rfl⟩ := hQ) | (refine atRet ?_; refine Nx.out 2 rfl rfl rfl rfl ?_; refine Nx.ret [0,1,2] Tryz.func72 rfl rfl ?_; exact ⟨⟨w, g, 2, 0, 0, 0, 0, 0⟩, .inr ⟨rfl, rfl⟩, rfl⟩) | refine Nx.late ?_)
        · have hf : fillP 2 w g [a, bb] = some ⟨w, g, 2, x, x, y, z, 0⟩ := by rw [hnv] at hv; simp [fillP, hp, hv]
          rw [hf]
          refine FnOk.start Tryz.func72 rfl rfl rfl rfl fun F os tape output => ?_
          refine Nx.inn 2 [0] rfl ⟨rfl, rfl⟩ rfl ⟨rfl, trivial⟩ ?_
          refine go 200 ?_
          conv => whnf
          repeat' (first | ((first | refine BrM.t rfl ?_ | refine BrM.f rfl ?_ | refine BrM.dec (fun _ => ?_) (fun _ => ?_) | refine BrM.mk (fun _ => ?_) (fun _ => ?_) | refine Ar.i64 (by omega) (by omega) ?_ | refine gO rfl ?_ | refine gP rfl (by repeat constructor) ?_) <;> conv => whnf) | (refine atIdx ?_; refine Nx.idx 1 (j := 1) rfl rfl rfl Tryz.underlying39 rfl rfl rfl one1_len hs1 rfl (by omega) (by simp) fun _ _ _ => ?_) | (refine atIdx ?_; refine Nx.idx 1 (j := 0) rfl rfl rfl Tryz.underlying39 rfl rfl rfl one1_len hs1 rfl (by omega) (by simp) fun _ _ _ => ?_) | (refine atLoad ?_; first | (refine Nx.load1 1 rfl rfl rfl rfl (SeesAt.sub (by assumption) _ rfl) rfl ?_) | (refine Nx.load1 1 rfl rfl rfl rfl (by assumption) rfl ?_) | (refine Nx.load 1 rfl rfl rfl rfl (by assumption) rfl rfl ?_)) | (refine atCall 122 ?_; refine cE [0] [0] rfl rfl rfl rfl rfl ((Cut_yes hG bb (by omega) hp)) rfl ?_) | (fail) | refine Nx.late ?_)
          intro q
          refine go 200 ?_
          conv => whnf
          refine Nx.out 63 rfl rfl rfl rfl ?_
          refine Nx.turn [63] [6] [ownS 9 (some ⟨q, 0, none⟩) 3 3 1 [str a, str p, str t]] rfl own3 ?_
          repeat' (first | ((first | refine BrM.t rfl ?_ | refine BrM.f rfl ?_ | refine BrM.dec (fun _ => ?_) (fun _ => ?_) | refine BrM.mk (fun _ => ?_) (fun _ => ?_) | refine Ar.i64 (by omega) (by omega) ?_ | refine gO rfl ?_ | refine gP rfl (by repeat constructor) ?_) <;> conv => whnf) | (refine (atCall 71) ?_; refine Nx.call [0,6] [0,6,5] rfl rfl rfl rfl rfl ((values_y3 hG (some ⟨q, 0, none⟩) 3 [a, p, t] (ownS_sees 9 (some ⟨q, 0, none⟩) 3 3 1 (strs [a, p, t])) hl3 (by simp) hv)) rfl fun v Q hQ => ?_; obtain ⟨B, e, rfl, rfl⟩ := hQ) | (fail) | refine Nx.late ?_)
          have hsee : Sees (ownS 2 B 3 e 1 [.int .i64 x, .int .i64 y, .int .i64 z]) B 3 1 ([x, y, z].flatMap iOne) := ownS_sees _ _ _ _ _ _
          repeat' (first | ((first | refine BrM.t rfl ?_ | refine BrM.f rfl ?_ | refine BrM.dec (fun _ => ?_) (fun _ => ?_) | refine BrM.mk (fun _ => ?_) (fun _ => ?_) | refine Ar.i64 (by omega) (by omega) ?_ | refine gO rfl ?_ | refine gP rfl (by repeat constructor) ?_) <;> conv => whnf) | (refine dN 14 [0,1,5] [0,4,8,12,16,21,24,28,33,36,40,45,48,52,57,60,64,68,75,76,80,87,88,92,99] rfl (by kernel_rfl) rfl (by kernel_rfl) rfl (by repeat constructor) rfl ?_) | (refine atHoIdx ?_; refine Nx.hoIdx 5 (j := 0) rfl rfl rfl Tryz.underlying119 rfl rfl rfl iOne_len hsee rfl (by omega) (by simp) fun _ _ _ => ?_) | (refine atHoIdx ?_; refine Nx.hoIdx 5 (j := 1) rfl rfl rfl Tryz.underlying119 rfl rfl rfl iOne_len hsee rfl (by omega) (by simp) fun _ _ _ => ?_) | (refine atHoIdx ?_; refine Nx.hoIdx 5 (j := 2) rfl rfl rfl Tryz.underlying119 rfl rfl rfl iOne_len hsee rfl (by omega) (by simp) fun _ _ _ => ?_) | (refine atHoLoad ?_; first | refine hL1 rfl rfl rfl rfl (SeesAt.sub (by assumption) _ rfl) (by repeat constructor) rfl ?_ | refine hL1 rfl rfl rfl rfl (by assumption) (by repeat constructor) rfl ?_ | refine hLm rfl rfl rfl rfl (by assumption) (by repeat constructor) rfl rfl ?_) | (refine atRet ?_; refine Nx.out 2 rfl rfl rfl rfl ?_; refine Nx.ret [0,1,2] Tryz.func72 rfl rfl ?_; exact ⟨⟨w, g, 2, x, x, y, z, 0⟩, .inl ⟨rfl, rfl⟩, rfl⟩) | refine Nx.late ?_)
  · have hf : fillP 2 w g l = none := by
      unfold fillP
      rw [if_neg (by decide), if_neg (by decide), if_pos rfl]
      match l, h2 with
      | [], _ => rfl
      | [_], _ => rfl
      | [_, _], h => exact absurd rfl h
      | _ :: _ :: _ :: _, _ => rfl
    rw [hf]
    refine FnOk.start Tryz.func72 rfl rfl rfl rfl fun F os tape output => ?_
    refine Nx.inn 2 [0] rfl ⟨rfl, rfl⟩ rfl ⟨rfl, trivial⟩ ?_
    refine go 200 ?_
    conv => whnf
    repeat' (first | ((first | refine BrM.yes (by omega) ?_ | refine BrM.t rfl ?_ | refine BrM.f rfl ?_ | refine BrM.dec (fun _ => ?_) (fun _ => ?_) | refine BrM.mk (fun _ => ?_) (fun _ => ?_) | refine Ar.i64 (by omega) (by omega) ?_ | refine gO rfl ?_ | refine gP rfl (by repeat constructor) ?_) <;> conv => whnf) | (refine atRet ?_; refine Nx.out 2 rfl rfl rfl rfl ?_; refine Nx.ret [0,1,2] Tryz.func72 rfl rfl ?_; exact ⟨⟨w, g, 2, 0, 0, 0, 0, 0⟩, .inr ⟨rfl, rfl⟩, rfl⟩) | refine Nx.late ?_)
theorem fill_ok {m : PH} {S : SP} (hG : Glo m) (b : Nat) (w g : Int) (A : Option Addr) (c : Nat) (l : List Str) (hs : Sees S A l.length 1 (strs l)) (hl : ∀ w ∈ l, w.length ≤ 1000000) (hn : l.length ≤ 1000000) (d : Nat) (hd : d < 8) : FnOk Tryz.prog 72 [.pointer (some ⟨b, 0, none⟩), .slice A l.length c] [roAll m, S, noteB b ⟨w, g, d, 0, 0, 0, 0, 0⟩] (fillPost m S b (fillP d w g l)) := by
  have hc : d = 0 ∨ d = 1 ∨ d = 2 ∨ d = 3 ∨ d = 4 ∨ d = 5 ∨ d = 6 ∨ d = 7 := by omega
  rcases hc with rfl | rfl | rfl | rfl | rfl | rfl | rfl | rfl
  · exact fill0 hG b w g A c l hs hl hn
  · exact fill1 hG b w g A c l hs hl hn
  · exact fill2 hG b w g A c l hs hl hn
  · exact fill3 hG b w g A c l hs hl hn
  · exact fill4 hG b w g A c l hs hl hn
  · exact fill5 hG b w g A c l hs hl hn
  · exact fill6 hG b w g A c l hs hl hn
  · exact fill7 hG b w g A c l hs hl hn
end Go.Proofs.YtccmdlmlbkpjjaaGreatDoor

/- A note's line read by the program. -/
namespace Go.Proofs.YtccmdlmlbkpjjaaGreatDoor
open Go.RowKit Go.Lib
section
variable {g : Cx} {env : Env} {mem : Mem} {bnd : Bnd} {L L' : Res} {N : Act → World → Prop}
/-- A slot that points to a block whose number is known. -/
theorem Nx.real (s : Nat) {l o b : Nat} (hl : look env s = some (.c (.loc l o))) (hb : lookB bnd l = some b) (h : Nx g ((s, .c (.v (.pointer (some ⟨b, o, none⟩)))) :: env) mem bnd L N) : Nx g env mem bnd L N := by
  intro β a w hr
  refine h β a w ⟨hr.defers, hr.size, fun k x hx => ?_, hr.bnd, hr.os, hr.tape, hr.output, hr.sat⟩
  rw [look_cons] at hx
  split at hx
  · rename_i e
    subst e
    cases hx
    have := hr.env _ _ hl
    rw [this]
    simp only [SV.den, Ce.den, hr.bnd l b hb]
  · exact hr.env k x hx
end
attribute [local irreducible] Nx Ar BrM headC OneC HoC AftC planHead endF
set_option maxRecDepth 20000
set_option maxHeartbeats 4000000
def zeroN : Note := ⟨0, 0, 0, 0, 0, 0, 0, 0⟩
/-- What reading gives: a note, or the number of what is wrong. -/
def readPost (m : PH) (r : Except Int Note) (v : Value) (Q : List SP) : Prop := match r with
  | .ok n => v = .tuple #[.agg n.enc.toArray, .nilIface] ∧ Q = [roAll m]
  | .error e => ∃ b q, v = .tuple #[.agg zeroN.enc.toArray, .iface 138 (.pointer (some ⟨b, 0, none⟩))] ∧ Q = [roAll m, errB b q e]
def readE (s : Str) : Except Int Note := if 4000 < s.length then .error 7 else match readP s with | none => .error 6 | some n => .ok n
theorem splitR_le (c : UInt8) (s : Str) : (splitC c s).length ≤ s.length + 1 := by
  induction s with
  | nil => simp [splitC]
  | cons x r ih =>
    simp only [splitC]
    split
    · simp; omega
    · split
      · rename_i h; exact absurd h (splitC_ne _ _)
      · rename_i h; rw [h] at ih; simp at ih ⊢; omega
theorem splitR_each (c : UInt8) (s : Str) : ∀ w ∈ splitC c s, w.length ≤ s.length := by
  induction s with
  | nil => simp [splitC]
  | cons x r ih =>
    simp only [splitC]
    split
    · intro w hw
      rcases List.mem_cons.1 hw with rfl | hw
      · simp
      · have := ih w hw; simp; omega
    · split
      · intro w hw; simp at hw; subst hw; simp
      · rename_i u us h
        rw [h] at ih
        intro w hw
        rcases List.mem_cons.1 hw with rfl | hw
        · have := ih u List.mem_cons_self; simp; omega
        · have := ih w (List.mem_cons_of_mem _ hw); simp; omega
theorem deed_yes {m : PH} (hG : Glo m) {s : Str} {d : Nat} (h : deedO s = some d) : FnOk Tryz.prog 70 [str s] [roAll m] (fun v Q => v = .tuple #[.int .i64 d, .bool true] ∧ Q = [roAll m]) :=
  (deed_ok hG s).imp fun v Q hq => by unfold deedV at hq; rw [h] at hq; exact hq
theorem deed_no {m : PH} (hG : Glo m) {s : Str} (h : deedO s = none) : FnOk Tryz.prog 70 [str s] [roAll m] (fun v Q => v = .tuple #[.int .i64 0, .bool false] ∧ Q = [roAll m]) :=
  (deed_ok hG s).imp fun v Q hq => by unfold deedV at hq; rw [h] at hq; exact hq
theorem own2 {b : Nat} {x y : Value} : ∀ r h, Sat [blk b (.cells [x, y].toArray 9 (0, 0))] r h → Sat [ownS 9 (some ⟨b, 0, none⟩) 2 2 1 [x, y]] r h := by
  rintro r h ⟨r1, g1, g2, a1, a2, a3, a4, a5, a6⟩
  exact ⟨r1, g1, g2, a1, a2, a3, a4, own_blk (cells := [x, y]) (by show 2 ≤ maxLen; decide) _ _ a5, a6⟩
theorem Read_ok {m : PH} (hG : Glo m) (s : Str) (hs : s.length ≤ 900000) : FnOk Tryz.prog 21 [str s] [roAll m] (readPost m (readE s)) := by
  have hsz : (⟨s.toArray⟩ : ByteArray).size = s.length := by simp [ByteArray.size]
  by_cases h4 : 4000 < s.length
  · have he : readE s = .error 7 := if_pos h4
    rw [he]
    refine FnOk.start Tryz.func21 rfl rfl rfl rfl fun F os tape output => ?_
    refine go 200 ?_
    conv => whnf
    repeat' (first | ((first | refine BrM.yes (by omega) ?_ | refine BrM.t rfl ?_ | refine BrM.f rfl ?_ | refine BrM.dec (fun _ => ?_) (fun _ => ?_) | refine BrM.mk (fun _ => ?_) (fun _ => ?_) | refine Ar.i64 (by omega) (by omega) ?_ | refine gO rfl ?_ | refine gP rfl (by repeat constructor) ?_) <;> conv => whnf) | (refine (atCall 27) ?_; refine Nx.call [] [9] rfl rfl rfl rfl rfl ((Wrap_ok _ _ 7)) rfl fun v Q hQ => ?_; obtain ⟨b,rfl,rfl⟩ := hQ) | (refine atRet ?_; refine Nx.ret [0,9] Tryz.func21 rfl rfl ?_; (exact ⟨_, _, rfl, rfl⟩)) | refine Nx.late ?_)
  · have he : readE s = match readP s with | none => .error 6 | some n => .ok n := if_neg h4
    have hl1 := splitR_le 32 s
    have hl2 := splitR_each 32 s
    have hSp := Split_ok hG s 32 (by omega)
    unfold readP at he
    generalize splitC 32 s = ws at *
    match ws, he, hl1, hl2, hSp with
    | [], he, hl1, hl2, hSp =>
      rw [he]
      refine FnOk.start Tryz.func21 rfl rfl rfl rfl fun F os tape output => ?_
      refine go 200 ?_
      conv => whnf
      repeat' (first | ((first | refine BrM.not (by omega) ?_ | refine BrM.t rfl ?_ | refine BrM.f rfl ?_ | refine BrM.dec (fun _ => ?_) (fun _ => ?_) | refine BrM.mk (fun _ => ?_) (fun _ => ?_) | refine Ar.i64 (by omega) (by omega) ?_ | refine gO rfl ?_ | refine gP rfl (by repeat constructor) ?_) <;> conv => whnf) | (refine (atCall 69) ?_; refine Nx.call [0] [0,3] rfl rfl rfl rfl rfl (hSp) rfl fun v Q hQ => ?_; obtain ⟨b0,rfl,rfl⟩ := hQ) | (refine (atCall 27) ?_; refine Nx.call [] [9] rfl rfl rfl rfl rfl ((Wrap_ok _ _ 6)) rfl fun v Q hQ => ?_; obtain ⟨b,rfl,rfl⟩ := hQ) | (refine atRet ?_; refine Nx.ret [0,9] Tryz.func21 rfl rfl ?_; (exact ⟨_, _, rfl, rfl⟩)) | refine Nx.late ?_)
    | [x], he, hl1, hl2, hSp =>
      rw [he]
      refine FnOk.start Tryz.func21 rfl rfl rfl rfl fun F os tape output => ?_
      refine go 200 ?_
      conv => whnf
      repeat' (first | ((first | refine BrM.not (by omega) ?_ | refine BrM.t rfl ?_ | refine BrM.f rfl ?_ | refine BrM.dec (fun _ => ?_) (fun _ => ?_) | refine BrM.mk (fun _ => ?_) (fun _ => ?_) | refine Ar.i64 (by omega) (by omega) ?_ | refine gO rfl ?_ | refine gP rfl (by repeat constructor) ?_) <;> conv => whnf) | (refine (atCall 69) ?_; refine Nx.call [0] [0,3] rfl rfl rfl rfl rfl (hSp) rfl fun v Q hQ => ?_; obtain ⟨b0,rfl,rfl⟩ := hQ) | (refine (atCall 27) ?_; refine Nx.call [] [9] rfl rfl rfl rfl rfl ((Wrap_ok _ _ 6)) rfl fun v Q hQ => ?_; obtain ⟨b,rfl,rfl⟩ := hQ) | (refine atRet ?_; refine Nx.ret [0,9] Tryz.func21 rfl rfl ?_; (exact ⟨_, _, rfl, rfl⟩)) | refine Nx.late ?_)
    | [x, y], he, hl1, hl2, hSp =>
      rw [he]
      refine FnOk.start Tryz.func21 rfl rfl rfl rfl fun F os tape output => ?_
      refine go 200 ?_
      conv => whnf
      repeat' (first | ((first | refine BrM.not (by omega) ?_ | refine BrM.t rfl ?_ | refine BrM.f rfl ?_ | refine BrM.dec (fun _ => ?_) (fun _ => ?_) | refine BrM.mk (fun _ => ?_) (fun _ => ?_) | refine Ar.i64 (by omega) (by omega) ?_ | refine gO rfl ?_ | refine gP rfl (by repeat constructor) ?_) <;> conv => whnf) | (refine (atCall 69) ?_; refine Nx.call [0] [0,3] rfl rfl rfl rfl rfl (hSp) rfl fun v Q hQ => ?_; obtain ⟨b0,rfl,rfl⟩ := hQ) | (refine (atCall 27) ?_; refine Nx.call [] [9] rfl rfl rfl rfl rfl ((Wrap_ok _ _ 6)) rfl fun v Q hQ => ?_; obtain ⟨b,rfl,rfl⟩ := hQ) | (refine atRet ?_; refine Nx.ret [0,9] Tryz.func21 rfl rfl ?_; (exact ⟨_, _, rfl, rfl⟩)) | refine Nx.late ?_)
    | a :: dn :: r :: l, he, hl1, hl2, hSp =>
      have hln : (a :: dn :: r :: l).length = l.length + 3 := rfl
      have hla := hl2 a (by simp)
      have hlr := hl2 r (by simp)
      have hll : ∀ w ∈ l, w.length ≤ 1000000 := fun w hw => by have := hl2 w (by simp [hw]); omega
      have hl3 : ∀ w ∈ [a, r], w.length ≤ 1000000 := by
        intro w hw
        simp at hw
        rcases hw with rfl | rfl <;> omega
      rw [hln] at hSp hl1
      simp only at he
      cases hd : deedO dn with
      | none =>
        rw [hd] at he
        rw [show readE s = .error 6 from he]
        rcases val2 (l := [a, r]) with hv | ⟨x, y, hv⟩
        · skip
          refine FnOk.start Tryz.func21 rfl rfl rfl rfl fun F os tape output => ?_
          refine go 200 ?_
          conv => whnf
          repeat' (first | ((first | refine BrM.not (by omega) ?_ | refine BrM.t rfl ?_ | refine BrM.f rfl ?_ | refine BrM.dec (fun _ => ?_) (fun _ => ?_) | refine BrM.mk (fun _ => ?_) (fun _ => ?_) | refine Ar.i64 (by omega) (by omega) ?_ | refine gO rfl ?_ | refine gP rfl (by repeat constructor) ?_) <;> conv => whnf) | (refine (atCall 69) ?_; refine Nx.call [0] [0,3] rfl rfl rfl rfl rfl (hSp) rfl fun v Q hQ => ?_; obtain ⟨b0,rfl,rfl⟩ := hQ) | (fail) | refine Nx.late ?_)
          refine Nx.share 3 (rdS (some ⟨b0, 0, none⟩) (l.length + 3) 1 (strs (a :: dn :: r :: l))) rfl own_share ?_
          have hsee : Sees (rdS (some ⟨b0, 0, none⟩) (l.length + 3) 1 (strs (a :: dn :: r :: l))) (some ⟨b0, 0, none⟩) (l.length + 3) 1 ((a :: dn :: r :: l).flatMap fun w => [str w]) := by rw [← strs_flatR]; exact rdS_sees _ _ _ _
          repeat' (first | ((first | refine BrM.not (by omega) ?_ | refine BrM.t rfl ?_ | refine BrM.f rfl ?_ | refine BrM.dec (fun _ => ?_) (fun _ => ?_) | refine BrM.mk (fun _ => ?_) (fun _ => ?_) | refine Ar.i64 (by omega) (by omega) ?_ | refine gO rfl ?_ | refine gP rfl (by repeat constructor) ?_) <;> conv => whnf) | (refine atIdx ?_; refine Nx.idx 3 (j := 1) rfl rfl rfl Tryz.underlying39 rfl rfl rfl one1_len hsee rfl (by omega) (by simp) fun _ _ _ => ?_) | (refine atLoad ?_; first | (refine Nx.load1 3 rfl rfl rfl rfl (SeesAt.sub (by assumption) _ rfl) rfl ?_) | (refine Nx.load1 3 rfl rfl rfl rfl (by assumption) rfl ?_) | (refine Nx.load 3 rfl rfl rfl rfl (by assumption) rfl rfl ?_)) | (refine atCall 70 ?_; refine cE [0] [0] rfl rfl rfl rfl rfl ((deed_no hG hd)) rfl ?_) | (fail) | refine Nx.late ?_)
          refine (atReg 7) ?_
          refine Nx.bind (l := 2) (fun _ => ?_) rfl
          repeat' (first | ((first | refine BrM.t rfl ?_ | refine BrM.f rfl ?_ | refine BrM.dec (fun _ => ?_) (fun _ => ?_) | refine BrM.mk (fun _ => ?_) (fun _ => ?_) | refine Ar.i64 (by omega) (by omega) ?_ | refine gO rfl ?_ | refine gP rfl (by repeat constructor) ?_) <;> conv => whnf) | (refine dN 7 [0,3] [0,4,9,12,16,21,26,30,32,36,40,44,48] rfl (by kernel_rfl) rfl (by kernel_rfl) rfl (by repeat constructor) rfl ?_) | (refine atHoIdx ?_; refine Nx.hoIdx 3 (j := 0) rfl rfl rfl Tryz.underlying39 rfl rfl rfl one1_len hsee rfl (by omega) (by simp) fun _ _ _ => ?_) | (refine atHoIdx ?_; refine Nx.hoIdx 3 (j := 2) rfl rfl rfl Tryz.underlying39 rfl rfl rfl one1_len hsee rfl (by omega) (by simp) fun _ _ _ => ?_) | (refine atHoLoad ?_; first | refine hL1 rfl rfl rfl rfl (SeesAt.sub (by assumption) _ rfl) (by repeat constructor) rfl ?_ | refine hL1 rfl rfl rfl rfl (by assumption) (by repeat constructor) rfl ?_ | refine hLm rfl rfl rfl rfl (by assumption) (by repeat constructor) rfl rfl ?_) | (fail) | refine Nx.late ?_)
          refine Nx.bind (l := 42) (fun q => ?_) rfl
          repeat' (first | ((first | refine BrM.t rfl ?_ | refine BrM.f rfl ?_ | refine BrM.dec (fun _ => ?_) (fun _ => ?_) | refine BrM.mk (fun _ => ?_) (fun _ => ?_) | refine Ar.i64 (by omega) (by omega) ?_ | refine gO rfl ?_ | refine gP rfl (by repeat constructor) ?_) <;> conv => whnf) | (refine atAftK ?_; refine Nx.keepN [0,3] rfl (by repeat constructor) (by repeat constructor) rfl ?_) | (fail) | refine Nx.late ?_)
          refine Nx.out 42 rfl rfl rfl rfl ?_
          refine Nx.turn [42] [6] [ownS 9 (some ⟨q, 0, none⟩) 2 2 1 [str a, str r]] rfl own2 ?_
          repeat' (first | ((first | refine BrM.t rfl ?_ | refine BrM.f rfl ?_ | refine BrM.dec (fun _ => ?_) (fun _ => ?_) | refine BrM.mk (fun _ => ?_) (fun _ => ?_) | refine Ar.i64 (by omega) (by omega) ?_ | refine gO rfl ?_ | refine gP rfl (by repeat constructor) ?_) <;> conv => whnf) | (refine (atCall 71) ?_; refine Nx.call [0,6] [0,6] rfl rfl rfl rfl rfl ((values_no hG (some ⟨q, 0, none⟩) 2 [a, r] (ownS_sees 9 (some ⟨q, 0, none⟩) 2 2 1 (strs [a, r])) hl3 (by simp) hv)) rfl fun v Q hQ => ?_; obtain ⟨B, n, e, rfl, rfl⟩ := hQ) | (refine atAftK ?_; refine Nx.keepN [0,3] rfl (by repeat constructor) (by repeat constructor) rfl ?_) | (fail) | refine Nx.late ?_)
          repeat' (first | ((first | refine BrM.t rfl ?_ | refine BrM.f rfl ?_ | refine BrM.dec (fun _ => ?_) (fun _ => ?_) | refine BrM.mk (fun _ => ?_) (fun _ => ?_) | refine Ar.i64 (by omega) (by omega) ?_ | refine gO rfl ?_ | refine gP rfl (by repeat constructor) ?_) <;> conv => whnf) | (refine (atCall 27) ?_; refine Nx.call [] [9] rfl rfl rfl rfl rfl ((Wrap_ok _ _ 6)) rfl fun v Q hQ => ?_; obtain ⟨b,rfl,rfl⟩ := hQ) | (refine atRet ?_; refine Nx.ret [0,9] Tryz.func21 rfl rfl ?_; (exact ⟨_, _, rfl, rfl⟩)) | refine Nx.late ?_)
        · skip
          refine FnOk.start Tryz.func21 rfl rfl rfl rfl fun F os tape output => ?_
          refine go 200 ?_
          conv => whnf
          repeat' (first | ((first | refine BrM.not (by omega) ?_ | refine BrM.t rfl ?_ | refine BrM.f rfl ?_ | refine BrM.dec (fun _ => ?_) (fun _ => ?_) | refine BrM.mk (fun _ => ?_) (fun _ => ?_) | refine Ar.i64 (by omega) (by omega) ?_ | refine gO rfl ?_ | refine gP rfl (by repeat constructor) ?_) <;> conv => whnf) | (refine (atCall 69) ?_; refine Nx.call [0] [0,3] rfl rfl rfl rfl rfl (hSp) rfl fun v Q hQ => ?_; obtain ⟨b0,rfl,rfl⟩ := hQ) | (fail) | refine Nx.late ?_)
          refine Nx.share 3 (rdS (some ⟨b0, 0, none⟩) (l.length + 3) 1 (strs (a :: dn :: r :: l))) rfl own_share ?_
          have hsee : Sees (rdS (some ⟨b0, 0, none⟩) (l.length + 3) 1 (strs (a :: dn :: r :: l))) (some ⟨b0, 0, none⟩) (l.length + 3) 1 ((a :: dn :: r :: l).flatMap fun w => [str w]) := by rw [← strs_flatR]; exact rdS_sees _ _ _ _
          repeat' (first | ((first | refine BrM.not (by omega) ?_ | refine BrM.t rfl ?_ | refine BrM.f rfl ?_ | refine BrM.dec (fun _ => ?_) (fun _ => ?_) | refine BrM.mk (fun _ => ?_) (fun _ => ?_) | refine Ar.i64 (by omega) (by omega) ?_ | refine gO rfl ?_ | refine gP rfl (by repeat constructor) ?_) <;> conv => whnf) | (refine atIdx ?_; refine Nx.idx 3 (j := 1) rfl rfl rfl Tryz.underlying39 rfl rfl rfl one1_len hsee rfl (by omega) (by simp) fun _ _ _ => ?_) | (refine atLoad ?_; first | (refine Nx.load1 3 rfl rfl rfl rfl (SeesAt.sub (by assumption) _ rfl) rfl ?_) | (refine Nx.load1 3 rfl rfl rfl rfl (by assumption) rfl ?_) | (refine Nx.load 3 rfl rfl rfl rfl (by assumption) rfl rfl ?_)) | (refine atCall 70 ?_; refine cE [0] [0] rfl rfl rfl rfl rfl ((deed_no hG hd)) rfl ?_) | (fail) | refine Nx.late ?_)
          refine (atReg 7) ?_
          refine Nx.bind (l := 2) (fun _ => ?_) rfl
          repeat' (first | ((first | refine BrM.t rfl ?_ | refine BrM.f rfl ?_ | refine BrM.dec (fun _ => ?_) (fun _ => ?_) | refine BrM.mk (fun _ => ?_) (fun _ => ?_) | refine Ar.i64 (by omega) (by omega) ?_ | refine gO rfl ?_ | refine gP rfl (by repeat constructor) ?_) <;> conv => whnf) | (refine dN 7 [0,3] [0,4,9,12,16,21,26,30,32,36,40,44,48] rfl (by kernel_rfl) rfl (by kernel_rfl) rfl (by repeat constructor) rfl ?_) | (refine atHoIdx ?_; refine Nx.hoIdx 3 (j := 0) rfl rfl rfl Tryz.underlying39 rfl rfl rfl one1_len hsee rfl (by omega) (by simp) fun _ _ _ => ?_) | (refine atHoIdx ?_; refine Nx.hoIdx 3 (j := 2) rfl rfl rfl Tryz.underlying39 rfl rfl rfl one1_len hsee rfl (by omega) (by simp) fun _ _ _ => ?_) | (refine atHoLoad ?_; first | refine hL1 rfl rfl rfl rfl (SeesAt.sub (by assumption) _ rfl) (by repeat constructor) rfl ?_ | refine hL1 rfl rfl rfl rfl (by assumption) (by repeat constructor) rfl ?_ | refine hLm rfl rfl rfl rfl (by assumption) (by repeat constructor) rfl rfl ?_) | (fail) | refine Nx.late ?_)
          refine Nx.bind (l := 42) (fun q => ?_) rfl
          repeat' (first | ((first | refine BrM.t rfl ?_ | refine BrM.f rfl ?_ | refine BrM.dec (fun _ => ?_) (fun _ => ?_) | refine BrM.mk (fun _ => ?_) (fun _ => ?_) | refine Ar.i64 (by omega) (by omega) ?_ | refine gO rfl ?_ | refine gP rfl (by repeat constructor) ?_) <;> conv => whnf) | (refine atAftK ?_; refine Nx.keepN [0,3] rfl (by repeat constructor) (by repeat constructor) rfl ?_) | (fail) | refine Nx.late ?_)
          refine Nx.out 42 rfl rfl rfl rfl ?_
          refine Nx.turn [42] [6] [ownS 9 (some ⟨q, 0, none⟩) 2 2 1 [str a, str r]] rfl own2 ?_
          repeat' (first | ((first | refine BrM.t rfl ?_ | refine BrM.f rfl ?_ | refine BrM.dec (fun _ => ?_) (fun _ => ?_) | refine BrM.mk (fun _ => ?_) (fun _ => ?_) | refine Ar.i64 (by omega) (by omega) ?_ | refine gO rfl ?_ | refine gP rfl (by repeat constructor) ?_) <;> conv => whnf) | (refine (atCall 71) ?_; refine Nx.call [0,6] [0,6,5] rfl rfl rfl rfl rfl ((values_y2 hG (some ⟨q, 0, none⟩) 2 [a, r] (ownS_sees 9 (some ⟨q, 0, none⟩) 2 2 1 (strs [a, r])) hl3 (by simp) hv)) rfl fun v Q hQ => ?_; obtain ⟨B, e, rfl, rfl⟩ := hQ) | (refine atAftK ?_; refine Nx.keepN [0,3] rfl (by repeat constructor) (by repeat constructor) rfl ?_) | (fail) | refine Nx.late ?_)
          repeat' (first | ((first | refine BrM.t rfl ?_ | refine BrM.f rfl ?_ | refine BrM.dec (fun _ => ?_) (fun _ => ?_) | refine BrM.mk (fun _ => ?_) (fun _ => ?_) | refine Ar.i64 (by omega) (by omega) ?_ | refine gO rfl ?_ | refine gP rfl (by repeat constructor) ?_) <;> conv => whnf) | (refine (atCall 27) ?_; refine Nx.call [] [9] rfl rfl rfl rfl rfl ((Wrap_ok _ _ 6)) rfl fun v Q hQ => ?_; obtain ⟨b,rfl,rfl⟩ := hQ) | (refine atRet ?_; refine Nx.ret [0,9] Tryz.func21 rfl rfl ?_; (exact ⟨_, _, rfl, rfl⟩)) | refine Nx.late ?_)
      | some d =>
        have hd8 := (deedO_some hd).1
        rw [hd] at he
        rcases val2 (l := [a, r]) with hv | ⟨x, y, hv⟩
        · rw [hv] at he
          rw [show readE s = .error 6 from he]
          refine FnOk.start Tryz.func21 rfl rfl rfl rfl fun F os tape output => ?_
          refine go 200 ?_
          conv => whnf
          repeat' (first | ((first | refine BrM.not (by omega) ?_ | refine BrM.t rfl ?_ | refine BrM.f rfl ?_ | refine BrM.dec (fun _ => ?_) (fun _ => ?_) | refine BrM.mk (fun _ => ?_) (fun _ => ?_) | refine Ar.i64 (by omega) (by omega) ?_ | refine gO rfl ?_ | refine gP rfl (by repeat constructor) ?_) <;> conv => whnf) | (refine (atCall 69) ?_; refine Nx.call [0] [0,3] rfl rfl rfl rfl rfl (hSp) rfl fun v Q hQ => ?_; obtain ⟨b0,rfl,rfl⟩ := hQ) | (fail) | refine Nx.late ?_)
          refine Nx.share 3 (rdS (some ⟨b0, 0, none⟩) (l.length + 3) 1 (strs (a :: dn :: r :: l))) rfl own_share ?_
          have hsee : Sees (rdS (some ⟨b0, 0, none⟩) (l.length + 3) 1 (strs (a :: dn :: r :: l))) (some ⟨b0, 0, none⟩) (l.length + 3) 1 ((a :: dn :: r :: l).flatMap fun w => [str w]) := by rw [← strs_flatR]; exact rdS_sees _ _ _ _
          repeat' (first | ((first | refine BrM.not (by omega) ?_ | refine BrM.t rfl ?_ | refine BrM.f rfl ?_ | refine BrM.dec (fun _ => ?_) (fun _ => ?_) | refine BrM.mk (fun _ => ?_) (fun _ => ?_) | refine Ar.i64 (by omega) (by omega) ?_ | refine gO rfl ?_ | refine gP rfl (by repeat constructor) ?_) <;> conv => whnf) | (refine atIdx ?_; refine Nx.idx 3 (j := 1) rfl rfl rfl Tryz.underlying39 rfl rfl rfl one1_len hsee rfl (by omega) (by simp) fun _ _ _ => ?_) | (refine atLoad ?_; first | (refine Nx.load1 3 rfl rfl rfl rfl (SeesAt.sub (by assumption) _ rfl) rfl ?_) | (refine Nx.load1 3 rfl rfl rfl rfl (by assumption) rfl ?_) | (refine Nx.load 3 rfl rfl rfl rfl (by assumption) rfl rfl ?_)) | (refine atCall 70 ?_; refine cE [0] [0] rfl rfl rfl rfl rfl ((deed_yes hG hd)) rfl ?_) | (fail) | refine Nx.late ?_)
          refine (atReg 7) ?_
          refine Nx.bind (l := 2) (fun _ => ?_) rfl
          repeat' (first | ((first | refine BrM.t rfl ?_ | refine BrM.f rfl ?_ | refine BrM.dec (fun _ => ?_) (fun _ => ?_) | refine BrM.mk (fun _ => ?_) (fun _ => ?_) | refine Ar.i64 (by omega) (by omega) ?_ | refine gO rfl ?_ | refine gP rfl (by repeat constructor) ?_) <;> conv => whnf) | (refine dN 7 [0,3] [0,4,9,12,16,21,26,30,32,36,40,44,48] rfl (by kernel_rfl) rfl (by kernel_rfl) rfl (by repeat constructor) rfl ?_) | (refine atHoIdx ?_; refine Nx.hoIdx 3 (j := 0) rfl rfl rfl Tryz.underlying39 rfl rfl rfl one1_len hsee rfl (by omega) (by simp) fun _ _ _ => ?_) | (refine atHoIdx ?_; refine Nx.hoIdx 3 (j := 2) rfl rfl rfl Tryz.underlying39 rfl rfl rfl one1_len hsee rfl (by omega) (by simp) fun _ _ _ => ?_) | (refine atHoLoad ?_; first | refine hL1 rfl rfl rfl rfl (SeesAt.sub (by assumption) _ rfl) (by repeat constructor) rfl ?_ | refine hL1 rfl rfl rfl rfl (by assumption) (by repeat constructor) rfl ?_ | refine hLm rfl rfl rfl rfl (by assumption) (by repeat constructor) rfl rfl ?_) | (fail) | refine Nx.late ?_)
          refine Nx.bind (l := 42) (fun q => ?_) rfl
          repeat' (first | ((first | refine BrM.t rfl ?_ | refine BrM.f rfl ?_ | refine BrM.dec (fun _ => ?_) (fun _ => ?_) | refine BrM.mk (fun _ => ?_) (fun _ => ?_) | refine Ar.i64 (by omega) (by omega) ?_ | refine gO rfl ?_ | refine gP rfl (by repeat constructor) ?_) <;> conv => whnf) | (refine atAftK ?_; refine Nx.keepN [0,3] rfl (by repeat constructor) (by repeat constructor) rfl ?_) | (fail) | refine Nx.late ?_)
          refine Nx.out 42 rfl rfl rfl rfl ?_
          refine Nx.turn [42] [6] [ownS 9 (some ⟨q, 0, none⟩) 2 2 1 [str a, str r]] rfl own2 ?_
          repeat' (first | ((first | refine BrM.t rfl ?_ | refine BrM.f rfl ?_ | refine BrM.dec (fun _ => ?_) (fun _ => ?_) | refine BrM.mk (fun _ => ?_) (fun _ => ?_) | refine Ar.i64 (by omega) (by omega) ?_ | refine gO rfl ?_ | refine gP rfl (by repeat constructor) ?_) <;> conv => whnf) | (refine (atCall 71) ?_; refine Nx.call [0,6] [0,6] rfl rfl rfl rfl rfl ((values_no hG (some ⟨q, 0, none⟩) 2 [a, r] (ownS_sees 9 (some ⟨q, 0, none⟩) 2 2 1 (strs [a, r])) hl3 (by simp) hv)) rfl fun v Q hQ => ?_; obtain ⟨B, n, e, rfl, rfl⟩ := hQ) | (refine atAftK ?_; refine Nx.keepN [0,3] rfl (by repeat constructor) (by repeat constructor) rfl ?_) | (fail) | refine Nx.late ?_)
          repeat' (first | ((first | refine BrM.t rfl ?_ | refine BrM.f rfl ?_ | refine BrM.dec (fun _ => ?_) (fun _ => ?_) | refine BrM.mk (fun _ => ?_) (fun _ => ?_) | refine Ar.i64 (by omega) (by omega) ?_ | refine gO rfl ?_ | refine gP rfl (by repeat constructor) ?_) <;> conv => whnf) | (refine (atCall 27) ?_; refine Nx.call [] [9] rfl rfl rfl rfl rfl ((Wrap_ok _ _ 6)) rfl fun v Q hQ => ?_; obtain ⟨b,rfl,rfl⟩ := hQ) | (refine atRet ?_; refine Nx.ret [0,9] Tryz.func21 rfl rfl ?_; (exact ⟨_, _, rfl, rfl⟩)) | refine Nx.late ?_)
        · rw [hv] at he
          have he2 : readE s = match fillP d x y l with | none => .error 6 | some n => .ok n := he
          rw [he2]
          refine FnOk.start Tryz.func21 rfl rfl rfl rfl fun F os tape output => ?_
          refine go 200 ?_
          conv => whnf
          repeat' (first | ((first | refine BrM.not (by omega) ?_ | refine BrM.t rfl ?_ | refine BrM.f rfl ?_ | refine BrM.dec (fun _ => ?_) (fun _ => ?_) | refine BrM.mk (fun _ => ?_) (fun _ => ?_) | refine Ar.i64 (by omega) (by omega) ?_ | refine gO rfl ?_ | refine gP rfl (by repeat constructor) ?_) <;> conv => whnf) | (refine (atCall 69) ?_; refine Nx.call [0] [0,3] rfl rfl rfl rfl rfl (hSp) rfl fun v Q hQ => ?_; obtain ⟨b0,rfl,rfl⟩ := hQ) | (fail) | refine Nx.late ?_)
          refine Nx.share 3 (rdS (some ⟨b0, 0, none⟩) (l.length + 3) 1 (strs (a :: dn :: r :: l))) rfl own_share ?_
          have hsee : Sees (rdS (some ⟨b0, 0, none⟩) (l.length + 3) 1 (strs (a :: dn :: r :: l))) (some ⟨b0, 0, none⟩) (l.length + 3) 1 ((a :: dn :: r :: l).flatMap fun w => [str w]) := by rw [← strs_flatR]; exact rdS_sees _ _ _ _
          repeat' (first | ((first | refine BrM.not (by omega) ?_ | refine BrM.t rfl ?_ | refine BrM.f rfl ?_ | refine BrM.dec (fun _ => ?_) (fun _ => ?_) | refine BrM.mk (fun _ => ?_) (fun _ => ?_) | refine Ar.i64 (by omega) (by omega) ?_ | refine gO rfl ?_ | refine gP rfl (by repeat constructor) ?_) <;> conv => whnf) | (refine atIdx ?_; refine Nx.idx 3 (j := 1) rfl rfl rfl Tryz.underlying39 rfl rfl rfl one1_len hsee rfl (by omega) (by simp) fun _ _ _ => ?_) | (refine atLoad ?_; first | (refine Nx.load1 3 rfl rfl rfl rfl (SeesAt.sub (by assumption) _ rfl) rfl ?_) | (refine Nx.load1 3 rfl rfl rfl rfl (by assumption) rfl ?_) | (refine Nx.load 3 rfl rfl rfl rfl (by assumption) rfl rfl ?_)) | (refine atCall 70 ?_; refine cE [0] [0] rfl rfl rfl rfl rfl ((deed_yes hG hd)) rfl ?_) | (fail) | refine Nx.late ?_)
          refine (atReg 7) ?_
          refine Nx.bind (l := 2) (fun _ => ?_) rfl
          repeat' (first | ((first | refine BrM.t rfl ?_ | refine BrM.f rfl ?_ | refine BrM.dec (fun _ => ?_) (fun _ => ?_) | refine BrM.mk (fun _ => ?_) (fun _ => ?_) | refine Ar.i64 (by omega) (by omega) ?_ | refine gO rfl ?_ | refine gP rfl (by repeat constructor) ?_) <;> conv => whnf) | (refine dN 7 [0,3] [0,4,9,12,16,21,26,30,32,36,40,44,48] rfl (by kernel_rfl) rfl (by kernel_rfl) rfl (by repeat constructor) rfl ?_) | (refine atHoIdx ?_; refine Nx.hoIdx 3 (j := 0) rfl rfl rfl Tryz.underlying39 rfl rfl rfl one1_len hsee rfl (by omega) (by simp) fun _ _ _ => ?_) | (refine atHoIdx ?_; refine Nx.hoIdx 3 (j := 2) rfl rfl rfl Tryz.underlying39 rfl rfl rfl one1_len hsee rfl (by omega) (by simp) fun _ _ _ => ?_) | (refine atHoLoad ?_; first | refine hL1 rfl rfl rfl rfl (SeesAt.sub (by assumption) _ rfl) (by repeat constructor) rfl ?_ | refine hL1 rfl rfl rfl rfl (by assumption) (by repeat constructor) rfl ?_ | refine hLm rfl rfl rfl rfl (by assumption) (by repeat constructor) rfl rfl ?_) | (fail) | refine Nx.late ?_)
          refine Nx.bind (l := 42) (fun q => ?_) rfl
          repeat' (first | ((first | refine BrM.t rfl ?_ | refine BrM.f rfl ?_ | refine BrM.dec (fun _ => ?_) (fun _ => ?_) | refine BrM.mk (fun _ => ?_) (fun _ => ?_) | refine Ar.i64 (by omega) (by omega) ?_ | refine gO rfl ?_ | refine gP rfl (by repeat constructor) ?_) <;> conv => whnf) | (refine atAftK ?_; refine Nx.keepN [0,3] rfl (by repeat constructor) (by repeat constructor) rfl ?_) | (fail) | refine Nx.late ?_)
          refine Nx.out 42 rfl rfl rfl rfl ?_
          refine Nx.turn [42] [6] [ownS 9 (some ⟨q, 0, none⟩) 2 2 1 [str a, str r]] rfl own2 ?_
          repeat' (first | ((first | refine BrM.t rfl ?_ | refine BrM.f rfl ?_ | refine BrM.dec (fun _ => ?_) (fun _ => ?_) | refine BrM.mk (fun _ => ?_) (fun _ => ?_) | refine Ar.i64 (by omega) (by omega) ?_ | refine gO rfl ?_ | refine gP rfl (by repeat constructor) ?_) <;> conv => whnf) | (refine (atCall 71) ?_; refine Nx.call [0,6] [0,6,5] rfl rfl rfl rfl rfl ((values_y2 hG (some ⟨q, 0, none⟩) 2 [a, r] (ownS_sees 9 (some ⟨q, 0, none⟩) 2 2 1 (strs [a, r])) hl3 (by simp) hv)) rfl fun v Q hQ => ?_; obtain ⟨B, e, rfl, rfl⟩ := hQ) | (refine atAftK ?_; refine Nx.keepN [0,3] rfl (by repeat constructor) (by repeat constructor) rfl ?_) | (fail) | refine Nx.late ?_)
          have hsee2 : Sees (ownS 2 B 2 e 1 [.int .i64 x, .int .i64 y]) B 2 1 ([x, y].flatMap iOne) := ownS_sees _ _ _ _ _ _
          repeat' (first | ((first | refine BrM.not (by omega) ?_ | refine BrM.t rfl ?_ | refine BrM.f rfl ?_ | refine BrM.dec (fun _ => ?_) (fun _ => ?_) | refine BrM.mk (fun _ => ?_) (fun _ => ?_) | refine Ar.i64 (by omega) (by omega) ?_ | refine gO rfl ?_ | refine gP rfl (by repeat constructor) ?_) <;> conv => whnf) | (refine dN 10 [0,3,6,5] [0,4,9,12,16,21,24,28,34,39] rfl (by kernel_rfl) rfl (by kernel_rfl) rfl (by repeat constructor) rfl ?_) | (refine atHoIdx ?_; refine Nx.hoIdx 5 (j := 0) rfl rfl rfl Tryz.underlying119 rfl rfl rfl iOne_len hsee2 rfl (by omega) (by simp) fun _ _ _ => ?_) | (refine atHoIdx ?_; refine Nx.hoIdx 5 (j := 1) rfl rfl rfl Tryz.underlying119 rfl rfl rfl iOne_len hsee2 rfl (by omega) (by simp) fun _ _ _ => ?_) | (refine atHoLoad ?_; first | refine hL1 rfl rfl rfl rfl (SeesAt.sub (by assumption) _ rfl) (by repeat constructor) rfl ?_ | refine hL1 rfl rfl rfl rfl (by assumption) (by repeat constructor) rfl ?_ | refine hLm rfl rfl rfl rfl (by assumption) (by repeat constructor) rfl rfl ?_) | (fail) | refine Nx.late ?_)
          refine Nx.bind (l := 9) (fun q9 => ?_) rfl
          repeat' (first | ((first | refine BrM.t rfl ?_ | refine BrM.f rfl ?_ | refine BrM.dec (fun _ => ?_) (fun _ => ?_) | refine BrM.mk (fun _ => ?_) (fun _ => ?_) | refine Ar.i64 (by omega) (by omega) ?_ | refine gO rfl ?_ | refine gP rfl (by repeat constructor) ?_) <;> conv => whnf) | (refine atAftK ?_; refine Nx.keepN [0,3,6,5] rfl (by repeat constructor) (by repeat constructor) rfl ?_) | (fail) | refine Nx.late ?_)
          refine Nx.real 9 (l := 9) rfl rfl ?_
          refine Nx.out 9 rfl rfl rfl rfl ?_
          refine Nx.turn [9] [9] [noteB q9 ⟨x, y, d, 0, 0, 0, 0, 0⟩] rfl (fun _ _ h => h) ?_
          have hs3 : Sees (rdS (some ⟨b0, 0, none⟩) (l.length + 3) 1 (strs (a :: dn :: r :: l))) (resl (some ⟨b0, 0, none⟩) 3 (l.length + 3) 1) l.length 1 (strs l) := by
            have := Sees.part (l := 3) (h := l.length + 3) (m := l.length + 3) (rdS_sees (some ⟨b0, 0, none⟩) (l.length + 3) 1 (strs (a :: dn :: r :: l))) (by omega) (by omega) (by omega)
            simpa [strs, List.take_of_length_le] using this
          repeat' (first | ((first | refine BrM.t rfl ?_ | refine BrM.f rfl ?_ | refine BrM.dec (fun _ => ?_) (fun _ => ?_) | refine BrM.mk (fun _ => ?_) (fun _ => ?_) | refine Ar.i64 (by omega) (by omega) ?_ | refine gO rfl ?_ | refine gP rfl (by repeat constructor) ?_) <;> conv => whnf) | (refine atSlice ?_; refine Nx.reslice (l := 3) (h := (l.length+3)) (m := (l.length+3)) rfl rfl Tryz.underlying39 rfl rfl (rfl) (rfl) (rfl) (by simp) (by omega) (by omega) (by omega) ?_) | (fail) | refine Nx.late ?_)
          have hfill := fill_ok hG q9 x y (resl (some ⟨b0, 0, none⟩) 3 (l.length + 3) 1) (l.length + 3 - 3) l hs3 hll (by omega) d hd8
          refine Nx.call [0,3,9] [0,3,90] rfl rfl rfl rfl rfl (hfill) rfl fun v Q hQ => ?_
          obtain ⟨n, hn, rfl⟩ := hQ
          rcases hn with ⟨hf, rfl⟩ | ⟨hf, rfl⟩
          · rw [hf]
            refine Nx.inn 90 [9] rfl ⟨rfl, rfl⟩ rfl ⟨rfl, trivial⟩ ?_
            repeat' (first | ((first | refine BrM.t rfl ?_ | refine BrM.f rfl ?_ | refine BrM.dec (fun _ => ?_) (fun _ => ?_) | refine BrM.mk (fun _ => ?_) (fun _ => ?_) | refine Ar.i64 (by omega) (by omega) ?_ | refine gO rfl ?_ | refine gP rfl (by repeat constructor) ?_) <;> conv => whnf) | (refine atRet ?_; refine Nx.ret [0] Tryz.func21 rfl rfl ?_; (exact ⟨rfl, rfl⟩)) | refine Nx.late ?_)
          · rw [hf]
            repeat' (first | ((first | refine BrM.t rfl ?_ | refine BrM.f rfl ?_ | refine BrM.dec (fun _ => ?_) (fun _ => ?_) | refine BrM.mk (fun _ => ?_) (fun _ => ?_) | refine Ar.i64 (by omega) (by omega) ?_ | refine gO rfl ?_ | refine gP rfl (by repeat constructor) ?_) <;> conv => whnf) | (refine (atCall 27) ?_; refine Nx.call [] [20] rfl rfl rfl rfl rfl ((Wrap_ok _ _ 6)) rfl fun v Q hQ => ?_; obtain ⟨b,rfl,rfl⟩ := hQ) | (refine atRet ?_; refine Nx.ret [0,20] Tryz.func21 rfl rfl ?_; (exact ⟨_, _, rfl, rfl⟩)) | refine Nx.late ?_)
end Go.Proofs.YtccmdlmlbkpjjaaGreatDoor
