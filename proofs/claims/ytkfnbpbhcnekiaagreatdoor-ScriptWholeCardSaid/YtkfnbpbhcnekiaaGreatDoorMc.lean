/- The reader of words, further: ways, others, events; commands' and ways' names. -/
import Derived.Test.YtkfnbpbhcnekiaaGreatDoorMb
import Derived.Lib.Bytes
import Derived.Lib.ItoaNum
import Derived.Lib.ParseIntB
import Derived.Lib.SplitLaws
import Derived.Lib.Join
import Derived.Test.YtkfnbpbhcnekiaaGreatDoorProg
import Derived.Shelf.Strings.OnBuilder
import Derived.Shelf.LaysM
import Derived.Shelf.Strconv.Itoa4
import Derived.Shelf.LaysC
import Derived.Shelf.Strconv.ParseIntPublic10
import Derived.Shelf.Strings.Cut
import Derived.Shelf.Strings.Prefix
import Derived.Shelf.Strings.Split
set_option linter.unusedSimpArgs false
set_option linter.unusedVariables false
/- The evaluator: whatever it runs only adds to memory, or tells how deep it turned it. -/
namespace Go.Proofs.YtkfnbpbhcnekiaaGreatDoor
open Go.RowKit

structure GrowR (s : GS) (r : GR) : Prop where
  grow : Grow s r.s
  v : Bd s → r.v.lt r.s.nl
theorem GrowR.of {s s' : GS} {r : GR} (h : Grow s s') (k : GrowR s' r) : GrowR s r := ⟨h.trans k.grow, fun b => k.v (h.bd b)⟩
theorem GrowR.plan {s : GS} {r : GR} (h : GrowR s r) (p : PT) (m : Marks) : GrowR s { r with plan := p, marks := m } := ⟨h.grow, h.v⟩
theorem lookR_grow {gl : Gl} {P : Program} {n : Nat} {all : Array Oper} {env' : Env} {m0 : Mem} {g0 : GMem} {hold : Bool} {pi : Bool} {i : Nat} {s : GS} {rd : List Nat} (hm : Bd s → ltM s.nl m0) (hg : Bd s → ltG s.nl g0) (h : lookR gl P n all s.env m0 g0 hold rd = some (pi, env', i)) : Grow s { s with env := env' } :=
  ⟨fun b => ⟨lookR_lt b.env (hm b) (hg b) h, b.mem, b.gm⟩, Nat.le_refl _, Nat.le_refl _, fun b _ _ => Keeps.of_eq rfl rfl⟩

def drOk (s : GS) : GC → Prop
  | .dr _ _ m0 g0 _ _ => ltM s.nl m0 ∧ ltG s.nl g0
  | .al _ _ _ m0 g0 _ _ => ltM s.nl m0 ∧ ltG s.nl g0
  | _ => True

set_option maxHeartbeats 4000000 in
theorem gx_grow {P : Program} {kn : Kn} (hex : ExOk P kn.ex) : ∀ (m : Nat) (fn : Func) (s : GS) (c : GC) (r : GR), gx P kn m fn s c = some r → Bd s → drOk s c → GrowR s r
  | 0, _, _, _, _, h, _, _ => by cases h
  | m + 1, fn, s, .run k, r, h, b, _ => by
    have ih := gx_grow (P := P) (kn := kn) hex m
    simp only [gx] at h
    split at h <;> try (cases h; done)
    · exact ih _ _ _ _ h b trivial
    · exact ih _ _ _ _ h b trivial
    · exact ih _ _ _ _ h b trivial
    · exact ih _ _ _ _ h b trivial
    · exact ih _ _ _ _ h b trivial
    · exact ih _ _ _ _ h b trivial
    · exact ih _ _ _ _ h b trivial
    · exact ih _ _ _ _ h b trivial
    · exact ih _ _ _ _ h b trivial
    · split at h <;> try (cases h; done)
      exact ih _ _ _ _ h b trivial
    · split at h <;> try (cases h; done)
      · exact ih _ _ _ _ h b trivial
      · exact ih _ _ _ _ h b trivial
    · exact ih _ _ _ _ h b trivial
    · split at h <;> try (cases h; done)
      rename_i q hq
      split at h <;> try (cases h; done)
      split at h <;> try (cases h; done)
      have h1 := ih _ _ _ _ hq b (heldOf_lt b.mem b.gm)
      exact GrowR.of h1.grow (ih _ _ _ _ h (h1.grow.bd b) trivial)
    · split at h <;> try (cases h; done)
      rename_i vs hv
      split at h <;> cases h
      rename_i v ho
      exact ⟨Grow.refl _, fun b => oneG_lt (retG_lt b.env b.mem hv) ho⟩
    · split at h <;> try (cases h; done)
      rename_i vs hv
      split at h <;> cases h
      rename_i v ho
      exact ⟨Grow.refl _, fun b => oneG_lt (retG_lt b.env b.mem hv) ho⟩
  | m + 1, fn, s, .ops all [] k, r, h, b, _ => by
    have ih := gx_grow (P := P) (kn := kn) hex m
    simp only [gx] at h
    exact ih _ _ _ _ h b trivial
  | m + 1, fn, s, .ops all (o :: rest) k, r, h, b, _ => by
    have ih := gx_grow (P := P) (kn := kn) hex m
    simp only [gx] at h
    split at h <;> try (cases h; done)
    · split at h <;> try (cases h; done)
      split at h <;> try (cases h; done)
      rename_i env hp
      have h1 : Grow s { s with env := env } := Grow.env (x := .c (.v undef)) (fun _ => trivial) hp
      exact GrowR.of h1 (ih _ _ _ _ h (h1.bd b) trivial)
    · split at h
      · rename_i x hx
        split at h <;> try (cases h; done)
        split at h <;> try (cases h; done)
        rename_i env hp
        have h1 : Grow s { s with env := env } := Grow.env (fun b => outV_lt (pureX_lt b.env b.mem b.gm o.op) hx) hp
        exact GrowR.of h1 (ih _ _ _ _ h (h1.bd b) trivial)
      · split at h
        · rename_i v hv
          split at h <;> try (cases h; done)
          split at h <;> try (cases h; done)
          rename_i env hp
          have h1 : Grow s { s with env := env } := Grow.env (fun _ => ofV_lt _ v) hp
          exact GrowR.of h1 (ih _ _ _ _ h (h1.bd b) trivial)
        split at h
        · rename_i s' hs
          have h1 := effX_grow hs
          exact GrowR.of h1 (ih _ _ _ _ h (h1.bd b) trivial)
        · split at h <;> try (cases h; done)
          rename_i f vs hc
          split at h <;> try (cases h; done)
          split at h
          · rename_i x hx
            split at h <;> try (cases h; done)
            rename_i env hp
            have h1 : Grow s { s with env := env } := Grow.env (fun _ => (hex _ _ _ hx).1 _) hp
            exact GrowR.of h1 (ih _ _ _ _ h (h1.bd b) trivial)
          · split at h <;> try (cases h; done)
            rename_i fn' hf
            split at h <;> try (cases h; done)
            rename_i c hb
            split at h <;> try (cases h; done)
            split at h <;> try (cases h; done)
            rename_i q hq
            split at h <;> try (cases h; done)
            rename_i env hp
            have hl : ltE s.nl (argG 0 vs) := argG_lt vs 0 (calleeG_lt b.env hc)
            have h1 := ih _ _ _ _ hq ⟨hl, b.mem, b.gm⟩ trivial
            have h2 : Grow s ⟨env, q.s.mem, q.s.gm, q.s.nl, minN s.low q.s.low⟩ := Grow.call (s := s) h1.grow (fun _ => hl) (fun b b' => (b.env.mono h1.grow.nl).putO (h1.v ⟨hl, b.mem, b.gm⟩) hp)
            exact GrowR.of h2 (ih _ _ _ _ h (h2.bd b) trivial)
  | m + 1, fn, s, .dr all listed m0 g0 n0 hold, r, h, b, hd => by
    have ih := gx_grow (P := P) (kn := kn) hex m
    obtain ⟨hd1, hd2⟩ : ltM s.nl m0 ∧ ltG s.nl g0 := hd
    simp only [gx] at h
    split at h
    · cases h
      exact ⟨Grow.refl _, fun _ => trivial⟩
    · split at h
      · rename_i pi env i hl
        split at h <;> cases h
        rename_i q hq
        have h1 := lookR_grow (fun _ => hd1) (fun _ => hd2) hl
        exact GrowR.plan (GrowR.of h1 (ih _ _ _ _ hq (h1.bd b) ⟨hd1, hd2⟩)) _ _
      · exact ih _ _ _ _ h b ⟨hd1, hd2⟩
  | m + 1, fn, s, .al cands all listed m0 g0 n0 hold, r, h, b, hd => by
    have ih := gx_grow (P := P) (kn := kn) hex m
    obtain ⟨hd1, hd2⟩ : ltM s.nl m0 ∧ ltG s.nl g0 := hd
    simp only [gx] at h
    split at h <;> try (cases h; done)
    split at h <;> try (cases h; done)
    rename_i e he
    split at h <;> try (cases h; done)
    rename_i q hq
    have h0 := (ih _ _ _ _ he ⟨b.env, b.mem, b.gm⟩ trivial).grow
    have h1 : Grow s { e.s with low := minN s.low e.s.low } := Grow.lowered h0
    have h2 := GrowR.of h1 (ih _ _ _ _ hq (h1.bd b) ⟨hd1.mono h1.nl, hd2.mono h1.nl⟩)
    split at h
    · cases h
      exact GrowR.plan h2 _ _
    · split at h <;> try (cases h; done)
      split at h <;> cases h
      exact GrowR.plan h2 _ _
  | m + 1, fn, s, .ef all i, r, h, b, _ => by
    have ih := gx_grow (P := P) (kn := kn) hex m
    simp only [gx] at h
    split at h <;> try (cases h; done)
    rename_i o ho
    split at h <;> try (cases h; done)
    split at h
    · rename_i s' hs
      cases h
      exact ⟨effX_grow hs, fun _ => trivial⟩
    · split at h <;> try (cases h; done)
      rename_i f vs hc
      split at h <;> try (cases h; done)
      split at h <;> try (cases h; done)
      rename_i fn' hf
      split at h <;> try (cases h; done)
      rename_i c hb
      split at h <;> try (cases h; done)
      split at h <;> try (cases h; done)
      rename_i q hq
      split at h <;> cases h
      rename_i env hp
      have hl : ltE s.nl (argG 0 vs) := argG_lt vs 0 (calleeG_lt b.env hc)
      have h1 := ih _ _ _ _ hq ⟨hl, b.mem, b.gm⟩ trivial
      exact ⟨Grow.call (s := s) h1.grow (fun _ => hl) (fun b b' => (b.env.mono h1.grow.nl).putO (h1.v ⟨hl, b.mem, b.gm⟩) hp), fun _ => trivial⟩
end Go.Proofs.YtkfnbpbhcnekiaaGreatDoor

/- The evaluator: calls and results are as the model has them. -/
namespace Go.Proofs.YtkfnbpbhcnekiaaGreatDoor
open Go.RowKit

section
variable {g : Cx} {β : Nat → Nat} {s : GS} {L : Res} {a : Act} {w : World}

theorem evs_ok (h : RelG g β s L a w) : ∀ {xs : List Operand} {vs : List SV}, evs s.env xs = some vs → xs.map a.eval = vs.map (SV.den β)
  | [], vs, hv => by simp only [evs, Option.some.injEq] at hv; subst hv; rfl
  | x :: r, vs, hv => by
    simp only [evs] at hv
    split at hv <;> try (cases hv; done)
    rename_i u hu
    split at hv <;> cases hv
    rename_i t ht
    simp [nrm_evn h hu, evs_ok h ht]
theorem ofVs_den (l : List Value) : (ofVs l).map (SV.den β) = l := by
  rw [ofVs_eq, List.map_map]
  have : (SV.den β ∘ ofV) = id := by funext x; exact ofV_den β x
  rw [this, List.map_id]

theorem calleeG_ok (h : RelG g β s L a w) {o : Oper} {f : Nat} {us : List SV} (hc : calleeG g.P s.env o = some (f, us)) : (execOp a.eval o).run g.P w = (callFunc f (us.map (SV.den β)).toArray).run g.P w := by
  unfold calleeG at hc
  split at hc <;> try (cases hc; done)
  · rename_i x ars ts hop
    split at hc <;> try (cases hc; done)
    rename_i f' first cap hx
    split at hc <;> try (cases hc; done)
    rename_i vs hvs
    rw [appV_eq] at hc
    simp only at hc
    rw [appV_eq] at hc
    simp only [Option.some.injEq, Prod.mk.injEq] at hc
    obtain ⟨rfl, rfl⟩ := hc
    have hargs : ars.map a.eval = (vs.map (SV.den β)).toArray := by
      apply Array.ext'
      simpa using evs_ok h hvs
    have hex : a.eval x = .func (.func f') first cap := h.ev hx
    have e : first ++ (vs.map (SV.den β)).toArray ++ cap = ((ofVs first.toList ++ (vs ++ ofVs cap.toList)).map (SV.den β)).toArray := by
      apply Array.ext'
      simp [ofVs_den]
    simp only [execOp, hop, resolve, hargs, hex, Deferred.ofValue, Sem.run_bind, Sem.run_pure, Result.andThen_ok, invoke, e]
  · rename_i r name ars ts hop
    split at hc <;> try (cases hc; done)
    rename_i u hu
    split at hc <;> try (cases hc; done)
    rename_i t rv hrv
    have er : a.eval r = .iface t (rv.den β) := by
      rw [h.ev hu]
      split at hrv <;> cases hrv
      · rfl
      · rw [ofV_den]; rfl
    split at hc <;> try (cases hc; done)
    rename_i i hi
    split at hc <;> try (cases hc; done)
    rename_i m hm
    split at hc <;> try (cases hc; done)
    rename_i hp
    split at hc <;> try (cases hc; done)
    rename_i f' ptr hf
    have key : ∀ vs, evs s.env ars.toList = some vs → (∀ d, g.P.underlying t = some d → (receiverAt t (.val (rv.den β)) ptr (if m.path.isEmpty then some ((name.splitOn ".").getLastD name) else none)).run g.P w = .ok (rv.den β) w) → (∃ d, g.P.underlying t = some d) →
        (execOp a.eval o).run g.P w = (callFunc f' ((rv :: vs).map (SV.den β)).toArray).run g.P w := by
      intro vs hvs hrec ⟨d, hd⟩
      have hargs : ars.map a.eval = (vs.map (SV.den β)).toArray := by
        apply Array.ext'
        simpa using evs_ok h hvs
      have hmeth : (method (g.P.types.size + Made.depth) t (rv.den β) name).run g.P w = .ok (f', rv.den β) w := by
        have hk : g.P.types.size + Made.depth = (g.P.types.size + 99) + 1 := rfl
        rw [hk]
        have h1 := hrec d hd
        generalize g.P.types.size + 99 = k
        simp only [method, typeInfo, Sem.run_bind, run_program, hi, Sem.run_pure, Result.andThen_ok, hm, hp, follow, hf, h1]
      have e2 : (#[a.eval r] ++ ars.map a.eval).extract 1 (#[a.eval r] ++ ars.map a.eval).size = ars.map a.eval := by
        apply Array.ext'
        simp
        exact List.take_of_length_le (by simp)
      have e3 : #[rv.den β] ++ ars.map a.eval = ((rv :: vs).map (SV.den β)).toArray := by
        rw [hargs]
        apply Array.ext'
        simp
      have e4 : (#[a.eval r] ++ ars.map a.eval)[0]? = some (.iface t (rv.den β)) := by
        rw [← er, Array.getElem?_append_left (by simp)]
        rfl
      simp only [execOp, hop, resolve, Sem.run_bind, Sem.run_pure, Result.andThen_ok, invoke, e4, e2, callMethod, run_program, hmeth, e3]
    split at hc <;> try (cases hc; done)
    · rename_i el hu2
      split at hc <;> cases hc
      rename_i vs hvs
      refine key vs ?_ (fun d hd => ?_) ⟨_, hu2⟩
      · assumption
      · simp [receiverAt, run_underlying hu2, Place.get]
    · rename_i d hne hu2
      split at hc <;> cases hc
      rename_i vs hvs
      refine key vs ?_ (fun d' hd => ?_) ⟨_, hu2⟩
      · assumption
      · cases d <;> first | (exact absurd rfl (hne _)) | (simp [receiverAt, run_underlying hu2, Place.get])

theorem retG_run (hr : RelG g β s L a w) : ∀ (rs : List ResultVar) (vs : List SV), retG g.P s.env s.mem rs = some vs → Sem.run g.P (rs.mapM (resS a.tmps)) w = .ok (vs.map (SV.den β)) w
  | [], vs, h => by simp only [retG, Option.some.injEq] at h; subst h; rfl
  | .tmp t :: r, vs, h => by
    simp only [retG] at h
    split at h <;> try (cases h; done)
    rename_i u hu
    split at h <;> cases h
    rename_i ss hs
    have ih := retG_run hr r ss hs
    have he : a.tmps.getD t undef = u.den β := by rw [Array.getD_eq_getD_getElem?, hr.env t u hu]; rfl
    rw [List.mapM_cons]
    simp only [resS, Sem.run_bind, Sem.run_pure, Result.andThen_ok, he, ih, List.map_cons]
  | .cell x t :: r, vs, h => by
    simp only [retG] at h
    split at h <;> try (cases h; done)
    rename_i l o hx
    have he : a.tmps.getD x undef = .pointer (some ⟨β l, o, none⟩) := by rw [Array.getD_eq_getD_getElem?, hr.env x _ hx]; rfl
    split at h <;> try (cases h; done)
    rename_i tt cs hl
    split at h <;> try (cases h; done)
    · rename_i ha
      split at h <;> try (cases h; done)
      rename_i y hy
      split at h <;> cases h
      rename_i ss hs
      have ih := retG_run hr r ss hs
      rw [List.mapM_cons]
      simp only [resS, Sem.run_bind, Sem.run_pure, Result.andThen_ok, he, asAddr, run_load_one hr hl ha hy, ih, List.map_cons]
      rfl
    · rename_i n ha
      split at h <;> try (cases h; done)
      rename_i ys hy
      split at h <;> cases h
      rename_i ss hs
      have ih := retG_run hr r ss hs
      rw [List.mapM_cons]
      simp only [resS, Sem.run_bind, Sem.run_pure, Result.andThen_ok, he, asAddr, run_load_many hr hl ha hy, ih, List.map_cons]
      rfl
theorem tupG_den : ∀ {ss : List SV} {ps : List (Bool × List Ce)}, tupG ss = some ps → ps.map (tpDen β) = ss.map (SV.den β)
  | [], ps, h => by simp only [tupG, Option.some.injEq] at h; subst h; rfl
  | s :: r, ps, h => by
    simp only [tupG] at h
    split at h <;> try (cases h; done)
    rename_i p hp
    split at h <;> cases h
    rename_i qs hq
    simp [tOf_den hp, tupG_den hq]
theorem oneG_den {vs : List SV} {v : SV} (h : oneG vs = some v) : oneV (vs.map (SV.den β)) = v.den β := by
  unfold oneG at h
  split at h
  · cases h; rfl
  · rename_i hne
    split at h <;> cases h
    rename_i ps hp
    have e := tupG_den (β := β) hp
    show oneV (vs.map (SV.den β)) = .tuple (ps.map (tpDen β)).toArray
    rw [e]
    match vs, hne with
    | [], _ => rfl
    | [x], hne => exact absurd rfl (hne x)
    | _ :: _ :: _, _ => rfl
theorem retG_ok (hr : RelG g β s L a w) {vs : List SV} {v : SV} (h : retG g.P s.env s.mem g.fn.results.toList = some vs) (h1 : oneG vs = some v) : (results g.fn a.tmps).run g.P w = .ok (v.den β) w := by
  have h2 := retG_run hr _ _ h
  have e : results g.fn a.tmps = (do
      let vs ← g.fn.results.mapM (resS a.tmps)
      pure (if h : vs.size = 1 then vs[0] else .tuple vs)) := by
    unfold results
    congr 1
  rw [e, Array.mapM_eq_mapM_toList]
  simp only [Sem.run_bind, Sem.run_map, h2]
  simp only [Result.andThen_ok, Sem.run_pure]
  rw [← oneG_den h1]
  match vs with
  | [] => rfl
  | [v] => rfl
  | v :: u :: r => rfl
end
end Go.Proofs.YtkfnbpbhcnekiaaGreatDoor

/- Rules for strings, as lists of bytes. -/
namespace Go.Proofs.YtkfnbpbhcnekiaaGreatDoor
open Go.RowKit

abbrev str (l : List UInt8) : Value := .string ⟨l.toArray⟩
abbrev sv (l : List UInt8) : SV := .c (.v (.string ⟨l.toArray⟩))
theorem toList_str (l : List UInt8) : ByteArray.toList ⟨l.toArray⟩ = l := by rw [Lib.toList_data]
theorem str_inj {a b : List UInt8} : str a = str b ↔ a = b := by
  constructor
  · intro h
    injection h with h
    have := congrArg ByteArray.toList h
    rwa [toList_str, toList_str] at this
  · intro h; rw [h]
theorem data_app (a b : List UInt8) : (⟨a.toArray⟩ : ByteArray) ++ ⟨b.toArray⟩ = ⟨(a ++ b).toArray⟩ := by
  apply ByteArray.ext
  simp
theorem data_ext (a : List UInt8) (l h : Nat) (hh : h ≤ a.length) : (⟨a.toArray⟩ : ByteArray).extract l h = ⟨((a.take h).drop l).toArray⟩ := by
  apply ByteArray.ext
  simp only [ByteArray.data_extract, List.extract_toArray]
  congr 1
  rw [List.extract_eq_take_drop, List.drop_take]
theorem Ar.to {k : IntKind} {n : Int} {C : Int → Prop} (m : Int) (e : n = m) (h : inR k m) (c : C m) : Ar k n C := by subst e; exact Ar.ok h c
/-- The byte at a place. -/
def byteAt (l : List UInt8) (i : Int) : Int := (l.getD i.toNat 0).toNat

section
variable {g : Cx} {β : Nat → Nat} {env : Env} {mem : Mem} {bnd : Bnd} {L : Res} {a : Act} {w : World} {N : Act → World → Prop} {Q : Exit → Act → World → Prop} {T : World → Prop}

theorem cat_run (hr : Rel g β env mem bnd L a w) {o : Oper} {t tt : TypeId} {x y : Operand} {l m : List UInt8} (ho : o.op = .binOp .add t x y tt) (hx : ev env x = some (sv l)) (hy : ev env y = some (sv m)) (hl : l.length + m.length ≤ 9223372036854775807) (w' : World) :
    (execOp a.eval o).run g.P w' = .ok (.value ((sv (l ++ m)).den β)) w' := by
  have e1 : a.eval x = str l := hr.ev hx
  have e2 : a.eval y = str m := hr.ev hy
  have h1 : ¬ ((((⟨l.toArray⟩ : ByteArray).size + (⟨m.toArray⟩ : ByteArray).size : Nat) : Int) > IntKind.i64.max) := by
    have : IntKind.i64.max = 9223372036854775807 := rfl
    rw [this]
    simp only [ByteArray.size, List.size_toArray]
    omega
  simp only [execOp, ho, e1, e2]
  have hg : eqGuard .add t x y (str l) (str m) = pure () := eqGuard_other _ _ _ _ _ _ rfl
  simp only [hg, Sem.run_bind, Sem.run_pure, Result.andThen_ok, binOp, Op.stringOp, if_neg h1, data_app, SV.den, Ce.den]
theorem Nx.cat {o : Oper} {t tt : TypeId} {x y : Operand} {l m : List UInt8} (ho : o.op = .binOp .add t x y tt) (hx : ev env x = some (sv l)) (hy : ev env y = some (sv m)) (hd : dstOk g.n o.dst = true) (hl : l.length + m.length ≤ 9223372036854775807)
    (hk : Nx g (putE o.dst (sv (l ++ m)) env) mem bnd L N) : Nx g env mem bnd L (OneC g o N Q) :=
  Nx.val hd (fun _ _ _ hr w' => cat_run hr ho hx hy hl w') hk
theorem Nx.hoCat {o : Oper} {t tt : TypeId} {x y : Operand} {l m : List UInt8} (ho : o.op = .binOp .add t x y tt) (hx : ev env x = some (sv l)) (hy : ev env y = some (sv m)) (hd : dstOk g.n o.dst = true) (hl : l.length + m.length ≤ 9223372036854775807)
    (hk : Nx g (putE o.dst (sv (l ++ m)) env) mem bnd L N) : Nx g env mem bnd L (HoC g T o N) :=
  Nx.hoVal hd (fun _ _ _ hr w' => cat_run hr ho hx hy hl w') hk

theorem sidx_run (hr : Rel g β env mem bnd L a w) {o : Oper} {t : TypeId} {x i : Operand} {l : List UInt8} {k : IntKind} {iv : Int} (ho : o.op = .index t x i) (hx : ev env x = some (sv l)) (hi : ev env i = some (.c (.v (.int k iv)))) (ht : g.P.underlying t = some .string) (h0 : 0 ≤ iv) (h1 : iv < l.length) (w' : World) :
    (execOp a.eval o).run g.P w' = .ok (.value ((SV.c (.v (.int .u8 (byteAt l iv)))).den β)) w' := by
  have e1 : a.eval x = str l := hr.ev hx
  have e2 : a.eval i = .int k iv := hr.ev hi
  have hs : (⟨l.toArray⟩ : ByteArray)[iv.toNat]? = some (l.getD iv.toNat 0) := by
    have h2 : iv.toNat < (⟨l.toArray⟩ : ByteArray).size := by simp only [ByteArray.size, List.size_toArray]; omega
    rw [getElem?_pos (⟨l.toArray⟩ : ByteArray) iv.toNat h2, ByteArray.getElem_eq_getElem_data]
    have h3 : iv.toNat < l.length := by omega
    simp [h3]
  simp only [execOp, ho, e1, e2, Instr.index, asIntOf, Sem.run_bind, Sem.run_pure, Result.andThen_ok, run_underlying ht]
  rw [if_pos h0, hs]
  rfl
theorem Nx.sidx {o : Oper} {t : TypeId} {x i : Operand} {l : List UInt8} {k : IntKind} {iv : Int} (ho : o.op = .index t x i) (hx : ev env x = some (sv l)) (hi : ev env i = some (.c (.v (.int k iv)))) (ht : g.P.underlying t = some .string) (hd : dstOk g.n o.dst = true) (h0 : 0 ≤ iv) (h1 : iv < l.length)
    (hk : Nx g (putE o.dst (.c (.v (.int .u8 (byteAt l iv)))) env) mem bnd L N) : Nx g env mem bnd L (OneC g o N Q) :=
  Nx.val (x := .c (.v (.int .u8 (byteAt l iv)))) hd (fun _ _ _ hr w' => sidx_run hr ho hx hi ht h0 h1 w') hk
theorem Nx.hoSidx {o : Oper} {t : TypeId} {x i : Operand} {l : List UInt8} {k : IntKind} {iv : Int} (ho : o.op = .index t x i) (hx : ev env x = some (sv l)) (hi : ev env i = some (.c (.v (.int k iv)))) (ht : g.P.underlying t = some .string) (hd : dstOk g.n o.dst = true) (h0 : 0 ≤ iv) (h1 : iv < l.length)
    (hk : Nx g (putE o.dst (.c (.v (.int .u8 (byteAt l iv)))) env) mem bnd L N) : Nx g env mem bnd L (HoC g T o N) :=
  Nx.hoVal (x := .c (.v (.int .u8 (byteAt l iv)))) hd (fun _ _ _ hr w' => sidx_run hr ho hx hi ht h0 h1 w') hk

theorem ssl_run (hr : Rel g β env mem bnd L a w) {o : Oper} {t : TypeId} {x : Operand} {lo hi : Option Operand} {s : List UInt8} {l h : Int}
    (ho : o.op = .slice t x lo hi none) (hx : ev env x = some (sv s)) (ht : g.P.underlying t = some .string)
    (hlo : evN env lo 0 = some l) (hhi : evN env hi s.length = some h) (h0 : 0 ≤ l) (h1 : l ≤ h) (h2 : h ≤ s.length) (w' : World) : (execOp a.eval o).run g.P w' = .ok (.value ((sv ((s.take h.toNat).drop l.toNat)).den β)) w' := by
  have e1 : a.eval x = str s := hr.ev hx
  obtain ⟨l, rfl⟩ := Int.eq_ofNat_of_zero_le h0
  obtain ⟨h, rfl⟩ := Int.eq_ofNat_of_zero_le (Int.le_trans h0 h1)
  have hb : ∀ (k : IntKind) (i j : Nat) (code : BoundsCode), i ≤ j → (Instr.sliceBound (.int k i) j code).run g.P w' = .ok i w' := by
    intro k i j code hij
    have : (0 : Int) ≤ i ∧ (i : Int) ≤ j := ⟨by omega, by omega⟩
    simp [Instr.sliceBound, asIntOf, this]
  have hsz : (⟨s.toArray⟩ : ByteArray).size = s.length := by simp [ByteArray.size]
  have hbs : (Instr.sliceBounds false s.length s.length (lo.map a.eval) (hi.map a.eval) none).run g.P w' = .ok (l, h, s.length) w' := by
    have b2 : ∀ (k : IntKind) (code : BoundsCode), (Instr.sliceBound (.int k h) s.length code).run g.P w' = .ok h w' := fun k code => hb k h s.length code (by omega)
    have b3 : ∀ (k : IntKind) (code : BoundsCode), (Instr.sliceBound (.int k l) h code).run g.P w' = .ok l w' := fun k code => hb k l h code (by omega)
    cases hi with
    | none =>
      have eh : s.length = h := by
        have : (s.length : Int) = h := by simpa [evN] using hhi
        omega
      subst eh
      cases lo with
      | none =>
        have el : 0 = l := by
          have : (0 : Int) = l := by simpa [evN] using hlo
          omega
        subst el
        simp [Instr.sliceBounds]
      | some y =>
        obtain ⟨k, hy⟩ := evN_eval hr hlo
        simp [Instr.sliceBounds, hy, b3]
    | some z =>
      obtain ⟨k2, hz⟩ := evN_eval hr hhi
      cases lo with
      | none =>
        have el : 0 = l := by
          have : (0 : Int) = l := by simpa [evN] using hlo
          omega
        subst el
        simp [Instr.sliceBounds, hz, b2]
      | some y =>
        obtain ⟨k, hy⟩ := evN_eval hr hlo
        simp [Instr.sliceBounds, hy, hz, b2, b3]
  have hext := data_ext s l h (by omega)
  simp only [execOp, ho, e1, Instr.sliceAt, Instr.slice, Option.map_none, Sem.run_bind, run_underlying ht, Result.andThen_ok, hsz, Option.isSome_none, Bool.false_eq_true, if_false, hbs, Sem.run_pure, hext, Int.toNat_natCast, SV.den, Ce.den]
theorem Nx.ssl {o : Oper} {t : TypeId} {x : Operand} {lo hi : Option Operand} {s : List UInt8} {l h : Int}
    (ho : o.op = .slice t x lo hi none) (hx : ev env x = some (sv s)) (ht : g.P.underlying t = some .string) (hd : dstOk g.n o.dst = true)
    (hlo : evN env lo 0 = some l) (hhi : evN env hi s.length = some h) (h0 : 0 ≤ l) (h1 : l ≤ h) (h2 : h ≤ s.length)
    (hk : Nx g (putE o.dst (sv ((s.take h.toNat).drop l.toNat)) env) mem bnd L N) : Nx g env mem bnd L (OneC g o N Q) :=
  Nx.val hd (fun _ _ _ hr w' => ssl_run hr ho hx ht hlo hhi h0 h1 h2 w') hk

theorem Nx.hoSsl {o : Oper} {t : TypeId} {x : Operand} {lo hi : Option Operand} {s : List UInt8} {l h : Int}
    (ho : o.op = .slice t x lo hi none) (hx : ev env x = some (sv s)) (ht : g.P.underlying t = some .string) (hd : dstOk g.n o.dst = true)
    (hlo : evN env lo 0 = some l) (hhi : evN env hi s.length = some h) (h0 : 0 ≤ l) (h1 : l ≤ h) (h2 : h ≤ s.length)
    (hk : Nx g (putE o.dst (sv ((s.take h.toNat).drop l.toNat)) env) mem bnd L N) : Nx g env mem bnd L (HoC g T o N) :=
  Nx.hoVal hd (fun _ _ _ hr w' => ssl_run hr ho hx ht hlo hhi h0 h1 h2 w') hk

/-- The address of an element of an array at a real address. -/
theorem gidx_run (hr : Rel g β env mem bnd L a w) {o : Oper} {t e : TypeId} {x i : Operand} {b p n sz by_ : Nat} {kk : IntKind} {iv : Int} (ho : o.op = .indexAddr t x i) (hx : ev env x = some (.c (.v (.pointer (some ⟨b, p, none⟩))))) (hi : ev env i = some (.c (.v (.int kk iv)))) (ht : g.P.underlying t = some (.array n e)) (he : elemI g.P e = some (sz, by_)) (h0 : 0 ≤ iv) (h1 : iv < n) (w' : World) :
    (execOp a.eval o).run g.P w' = .ok (.value ((SV.c (.v (.pointer (some ⟨b, p + iv.toNat * sz, none⟩)))).den β)) w' := by
  obtain ⟨ei, zz, hei, hz, hzs, hpos, hez, hby⟩ := elemI_ok he
  have e1 : a.eval x = .pointer (some ⟨b, p, none⟩) := hr.ev hx
  have e2 : a.eval i = .int kk iv := hr.ev hi
  simp [execOp, ho, e1, e2, Instr.indexAt, Instr.sureAddr, asIntOf, run_underlying ht, h0, h1, sizeOf, typeInfo, hei, hez, add_plain', SV.den, Ce.den]
theorem Nx.gidx {o : Oper} {t e : TypeId} {x i : Operand} {b p n sz by_ q : Nat} {kk : IntKind} {iv : Int} (ho : o.op = .indexAddr t x i) (hx : ev env x = some (.c (.v (.pointer (some ⟨b, p, none⟩))))) (hi : ev env i = some (.c (.v (.int kk iv)))) (ht : g.P.underlying t = some (.array n e)) (he : elemI g.P e = some (sz, by_)) (hd : dstOk g.n o.dst = true) (h0 : 0 ≤ iv) (h1 : iv < n) (hq : p + iv.toNat * sz = q)
    (hk : Nx g (putE o.dst (.c (.v (.pointer (some ⟨b, q, none⟩)))) env) mem bnd L N) : Nx g env mem bnd L (OneC g o N Q) := by
  subst hq
  exact Nx.val (x := .c (.v (.pointer (some ⟨b, p + iv.toNat * sz, none⟩)))) hd (fun _ _ _ hr w' => gidx_run hr ho hx hi ht he h0 h1 w') hk
theorem Nx.hoGidx {o : Oper} {t e : TypeId} {x i : Operand} {b p n sz by_ q : Nat} {kk : IntKind} {iv : Int} (ho : o.op = .indexAddr t x i) (hx : ev env x = some (.c (.v (.pointer (some ⟨b, p, none⟩))))) (hi : ev env i = some (.c (.v (.int kk iv)))) (ht : g.P.underlying t = some (.array n e)) (he : elemI g.P e = some (sz, by_)) (hd : dstOk g.n o.dst = true) (h0 : 0 ≤ iv) (h1 : iv < n) (hq : p + iv.toNat * sz = q)
    (hk : Nx g (putE o.dst (.c (.v (.pointer (some ⟨b, q, none⟩)))) env) mem bnd L N) : Nx g env mem bnd L (HoC g T o N) := by
  subst hq
  exact Nx.hoVal (x := .c (.v (.pointer (some ⟨b, p + iv.toNat * sz, none⟩)))) hd (fun _ _ _ hr w' => gidx_run hr ho hx hi ht he h0 h1 w') hk

/-- The address of an element of a row of the call's own; a load there. -/
theorem lidx_run (hr : Rel g β env mem bnd L a w) {o : Oper} {t e : TypeId} {x i : Operand} {l p n c sz by_ : Nat} {kk : IntKind} {iv : Int} (ho : o.op = .indexAddr t x i) (hx : ev env x = some (.c (.locs l p n c))) (hi : ev env i = some (.c (.v (.int kk iv)))) (ht : g.P.underlying t = some (.slice e)) (he : elemI g.P e = some (sz, by_)) (h0 : 0 ≤ iv) (h1 : iv < n) (w' : World) :
    (execOp a.eval o).run g.P w' = .ok (.value ((SV.c (.loc l (p + iv.toNat * sz))).den β)) w' := by
  obtain ⟨ei, zz, hei, hz, hzs, hpos, hez, hby⟩ := elemI_ok he
  have e1 : a.eval x = .slice (some ⟨β l, p, none⟩) n c := hr.ev hx
  have e2 : a.eval i = .int kk iv := hr.ev hi
  simp [execOp, ho, e1, e2, Instr.indexAt, asIntOf, run_underlying ht, h0, h1, sizeOf, typeInfo, hei, hez, add_plain', SV.den, Ce.den]
theorem Nx.lidx {o : Oper} {t e : TypeId} {x i : Operand} {l p n c sz by_ q b : Nat} {kk : IntKind} {iv : Int} (ho : o.op = .indexAddr t x i) (hx : ev env x = some (.c (.locs l p n c))) (hb : lookB bnd l = some b) (hi : ev env i = some (.c (.v (.int kk iv)))) (ht : g.P.underlying t = some (.slice e)) (he : elemI g.P e = some (sz, by_)) (hd : dstOk g.n o.dst = true) (h0 : 0 ≤ iv) (h1 : iv < n) (hq : p + iv.toNat * sz = q)
    (hk : Nx g (putE o.dst (.c (.v (.pointer (some ⟨b, q, none⟩)))) env) mem bnd L N) : Nx g env mem bnd L (OneC g o N Q) := by
  subst hq
  intro β a w hr
  have h := lidx_run hr ho hx hi ht he h0 h1 w
  have e : (SV.c (.loc l (p + iv.toNat * sz))).den β = .pointer (some ⟨b, p + iv.toNat * sz, none⟩) := by simp only [SV.den, Ce.den, hr.bnd l b hb]
  rw [e] at h
  exact wp_value h (hk β _ w (hr.put o.dst (.c (.v (.pointer (some ⟨b, p + iv.toNat * sz, none⟩)))) hd))

/-- A string of bytes that an assertion lets see. -/
abbrev u8s (l : List UInt8) : List Value := l.map fun b => .int .u8 b.toNat
theorem Nx.bstr (nm : Nat) {o : Oper} {src dst e : TypeId} {x : Operand} {A : Option Addr} {n c : Nat} {S : SP} {L' : Res} {l : List UInt8}
    (ho : o.op = .convert src dst x) (hx : ev env x = some (.c (.v (.slice A n c)))) (hs : g.P.underlying src = some (.slice e)) (he : g.P.underlying e = some (.int .u8)) (hdt : g.P.underlying dst = some .string) (hd : dstOk g.n o.dst = true)
    (hp : takeR nm L = some (S, L')) (hse : Sees S A n 1 (u8s l)) (hn : 0 < n)
    (hk : Nx g (putE o.dst (sv l) env) mem bnd L N) : Nx g env mem bnd L (OneC g o N Q) := by
  intro β a w hr
  obtain ⟨hlen, hrd⟩ : Rd (hw w) A n 1 (u8s l) := by
    obtain ⟨r, h, x1, x2, x3, r1, h1', h2', y1, y2, y3, y4, y5, y6⟩ := hr.picked (takeR_pick hp)
    exact (hse r1 h1' (PH.dj_mono x3 y1 y2) y5).mono (PH.un_le (PH.le_trans y1 x1) (PH.le_trans y2 x2))
  obtain ⟨b, off, cs, tt, fr, rfl, hb, hc⟩ := hrd hn
  have e1 : a.eval x = .slice (some ⟨b, off, none⟩) n c := hr.ev hx
  have hln : l.length = n := by simpa using hlen
  have hl : (loadCells ⟨b, off, none⟩ n).run g.P w = .ok ((l.map fun b => (b.toNat : Int)).map (Value.int .u8)).toArray w := by
    have := run_loadCells_list (P := g.P) w ⟨b, off, none⟩ (u8s l) (fun j v hv => by
      have hj : j < (u8s l).length := (List.getElem?_eq_some_iff.1 hv).1
      rw [add_plain', cell_of_row w _ _ _ _ _ hb, hc j (by simp at hj ⊢; omega)]
      exact hv)
    simp only [List.length_map, hln] at this
    rw [this]
    simp
  have hrun : (execOp a.eval o).run g.P w = .ok (.value ((sv l).den β)) w := by
    simp only [execOp, ho, e1]
    rw [Sem.run_bind, run_convert_bytes_string w src dst e _ n c hs he hdt, run_bytesToString w _ n c _ hl]
    have : ∀ (l : List UInt8) (s : ByteArray), (l.map fun b => (b.toNat : Int)).foldl (fun r n => r.push (UInt8.ofNat n.toNat)) s = s ++ ⟨l.toArray⟩ := by
      intro l
      induction l with
      | nil => intro s; apply ByteArray.ext; simp
      | cons x r ih =>
        intro s
        rw [List.map_cons, List.foldl_cons, ih]
        apply ByteArray.ext
        simp
    rw [this]
    have e0 : ByteArray.empty ++ (⟨l.toArray⟩ : ByteArray) = ⟨l.toArray⟩ := by apply ByteArray.ext; simp
    rw [e0]
    rfl
  exact wp_value hrun (hk β _ w (hr.put o.dst (sv l) hd))
end

section
variable {g : Cx} {env : Env} {mem : Mem} {bnd : Bnd} {L : Res} {N : Act → World → Prop} {Q : Exit → Act → World → Prop} {dst : Option Tmp} {ty : TypeId} {pos : String} {af : Array Edge} {gd : Option (Nat × Bool)}
theorem atIndex {t : TypeId} {x j : Operand} (h : Nx g env mem bnd L (OneC g ⟨dst, .index t x j, ty, pos, af, gd⟩ N Q)) : Nx g env mem bnd L (OneC g ⟨dst, .index t x j, ty, pos, af, gd⟩ N Q) := h
theorem atAdd {t tt : TypeId} {x y : Operand} (h : Nx g env mem bnd L (OneC g ⟨dst, .binOp .add t x y tt, ty, pos, af, gd⟩ N Q)) : Nx g env mem bnd L (OneC g ⟨dst, .binOp .add t x y tt, ty, pos, af, gd⟩ N Q) := h
theorem atSlice {t : TypeId} {x : Operand} {lo hi mx : Option Operand} (h : Nx g env mem bnd L (OneC g ⟨dst, .slice t x lo hi mx, ty, pos, af, gd⟩ N Q)) : Nx g env mem bnd L (OneC g ⟨dst, .slice t x lo hi mx, ty, pos, af, gd⟩ N Q) := h
theorem atConv {s d : TypeId} {x : Operand} (h : Nx g env mem bnd L (OneC g ⟨dst, .convert s d x, ty, pos, af, gd⟩ N Q)) : Nx g env mem bnd L (OneC g ⟨dst, .convert s d x, ty, pos, af, gd⟩ N Q) := h
theorem atEsc {X : Type} {E : X → Env} {M : Mem} {B : X → Bnd} (h : ∀ b : X, Nx g (E b) M (B b) L N) : ∀ b : X, Nx g (E b) M (B b) L N := h
theorem atRem {t tt : TypeId} {x y : Operand} (h : Nx g env mem bnd L (OneC g ⟨dst, .binOp .rem t x y tt, ty, pos, af, gd⟩ N Q)) : Nx g env mem bnd L (OneC g ⟨dst, .binOp .rem t x y tt, ty, pos, af, gd⟩ N Q) := h
theorem atQuo {t tt : TypeId} {x y : Operand} (h : Nx g env mem bnd L (OneC g ⟨dst, .binOp .quo t x y tt, ty, pos, af, gd⟩ N Q)) : Nx g env mem bnd L (OneC g ⟨dst, .binOp .quo t x y tt, ty, pos, af, gd⟩ N Q) := h
theorem atHoIndex {T : World → Prop} {t : TypeId} {x j : Operand} (h : Nx g env mem bnd L (HoC g T ⟨dst, .index t x j, ty, pos, af, gd⟩ N)) : Nx g env mem bnd L (HoC g T ⟨dst, .index t x j, ty, pos, af, gd⟩ N) := h
theorem atHoSlice {T : World → Prop} {t : TypeId} {x : Operand} {lo hi mx : Option Operand} (h : Nx g env mem bnd L (HoC g T ⟨dst, .slice t x lo hi mx, ty, pos, af, gd⟩ N)) : Nx g env mem bnd L (HoC g T ⟨dst, .slice t x lo hi mx, ty, pos, af, gd⟩ N) := h
theorem atHoAdd {T : World → Prop} {t tt : TypeId} {x y : Operand} (h : Nx g env mem bnd L (HoC g T ⟨dst, .binOp .add t x y tt, ty, pos, af, gd⟩ N)) : Nx g env mem bnd L (HoC g T ⟨dst, .binOp .add t x y tt, ty, pos, af, gd⟩ N) := h
end
end Go.Proofs.YtkfnbpbhcnekiaaGreatDoor

/- Rules: whatever the evaluator knows to reckon; calls through interfaces; functions without a body. -/
namespace Go.Proofs.YtkfnbpbhcnekiaaGreatDoor
open Go.RowKit
section
variable {g : Cx} {β : Nat → Nat} {env : Env} {mem : Mem} {bnd : Bnd} {L : Res} {a : Act} {w : World} {N : Act → World → Prop} {Q : Exit → Act → World → Prop}
theorem Rel.toG (hr : Rel g β env mem bnd L a w) (w' : World) : RelG { g with F := [], os := w'.os, tape := w'.tape, output := w'.output } β ⟨env, [], [], 0, 0⟩ [] a w' :=
  RelG.mk' hr.defers hr.size hr.env rfl rfl rfl (by simpa [memSP, gmSP] using SatW.nil w')
theorem Nx.px {o : Oper} {x : SV} (hd : dstOk g.n o.dst = true) (hx : outV (pureX g.P env [] [] o.op) = some x) (hk : Nx g (putE o.dst x env) mem bnd L N) : Nx g env mem bnd L (OneC g o N Q) :=
  Nx.val hd (fun _ _ _ hr w' => outV_ok (pureX_ok (hr.toG w') o) hx) hk
theorem Nx.inv (ns ns' : List Nat) {o : Oper} {f : Nat} {us : List SV} {args : List Value} {Pre : List SP} {Post : Value → List SP → Prop} {L' : Res}
    (hc : calleeG g.P env o = some (f, us)) (ha : ∀ β, us.map (SV.den β) = args) (hd : dstOk g.n o.dst = true)
    (h : FnOk g.P f args Pre Post) (hp : pick ns L = some (Pre, L'))
    (hk : ∀ v Qs, Post v Qs → Nx g (putE o.dst (ofV v) env) mem bnd (ns'.zip Qs ++ L') N) : Nx g env mem bnd L (OneC g o N Q) := by
  intro β a w hr
  have hrun : (execOp a.eval o).run g.P w = .ok (.enter f args.toArray) w := by
    rw [calleeG_ok (hr.toG w) hc, ha, h.1]
  have hc := h.2 _ w (hr.picked hp)
  show o.wp g.P a w N Q
  unfold Oper.wp
  rw [hrun]
  refine hc.mono ?_
  rintro e w' ⟨v, Qs, rfl, h1, h2, h3, h4, h5⟩
  have hR := (hr.unpicked (ns := ns') h5 h2 h3 h4).put o.dst (ofV v) hd
  rw [ofV_den] at hR
  exact hk v Qs h1 β _ _ hR
theorem Nx.ext {o : Oper} {f : Nat} {us : List SV} {v : Value} (hc : calleeG g.P env o = some (f, us)) (hd : dstOk g.n o.dst = true) (hrun : ∀ β w, (callFunc f (us.map (SV.den β)).toArray).run g.P w = .ok (.value v) w)
    (hk : Nx g (putE o.dst (ofV v) env) mem bnd L N) : Nx g env mem bnd L (OneC g o N Q) := by
  intro β a w hr
  have h : (execOp a.eval o).run g.P w = .ok (.value v) w := by rw [calleeG_ok (hr.toG w) hc, hrun]
  refine wp_value h (hk β _ _ ?_)
  have := hr.put o.dst (ofV v) hd
  rwa [ofV_den] at this
end
section
variable {g : Cx} {env : Env} {mem : Mem} {bnd : Bnd} {L : Res} {N : Act → World → Prop} {Q : Exit → Act → World → Prop} {dst : Option Tmp} {ty : TypeId} {pos : String} {af : Array Edge} {gd : Option (Nat × Bool)}
theorem atTA {x : Operand} {s t : TypeId} {ok : Bool} (h : Nx g env mem bnd L (OneC g ⟨dst, .typeAssert x s t ok, ty, pos, af, gd⟩ N Q)) : Nx g env mem bnd L (OneC g ⟨dst, .typeAssert x s t ok, ty, pos, af, gd⟩ N Q) := h
theorem atInv {r : Operand} {n : String} {ars : Array Operand} {ts : Array TypeId} (h : Nx g env mem bnd L (OneC g ⟨dst, .call ⟨.invoke r n, ars, ts⟩, ty, pos, af, gd⟩ N Q)) : Nx g env mem bnd L (OneC g ⟨dst, .call ⟨.invoke r n, ars, ts⟩, ty, pos, af, gd⟩ N Q) := h
theorem atBin {op : BinOp} {t tt : TypeId} {x y : Operand} (h : Nx g env mem bnd L (OneC g ⟨dst, .binOp op t x y tt, ty, pos, af, gd⟩ N Q)) : Nx g env mem bnd L (OneC g ⟨dst, .binOp op t x y tt, ty, pos, af, gd⟩ N Q) := h
theorem atExt {x : Operand} {i : Nat} (h : Nx g env mem bnd L (OneC g ⟨dst, .extract x i, ty, pos, af, gd⟩ N Q)) : Nx g env mem bnd L (OneC g ⟨dst, .extract x i, ty, pos, af, gd⟩ N Q) := h
end
end Go.Proofs.YtkfnbpbhcnekiaaGreatDoor

/- Plain laws: numbers as words. -/
namespace Go.Proofs.YtkfnbpbhcnekiaaGreatDoor
open Go.Lib
abbrev Str := List UInt8

def isDig (c : UInt8) : Prop := 48 ≤ c.toNat ∧ c.toNat ≤ 57
def digStep (a : Nat) (c : UInt8) : Nat := a * 10 + (c.toNat - 48)
def valFrom (acc : Nat) (d : Str) : Nat := d.foldl digStep acc
theorem valFrom_cons (a : Nat) (c : UInt8) (r : Str) : valFrom a (c :: r) = valFrom (a * 10 + (c.toNat - 48)) r := by
  unfold valFrom; rw [List.foldl_cons, digStep]
abbrev val (d : Str) : Nat := valFrom 0 d
theorem valFrom_nil (a : Nat) : valFrom a [] = a := rfl
theorem valFrom_append (a : Nat) (x y : Str) : valFrom a (x ++ y) = valFrom (valFrom a x) y := by
  unfold valFrom; rw [List.foldl_append]
theorem val_snoc (x : Str) (c : UInt8) : val (x ++ [c]) = val x * 10 + (c.toNat - 48) := by
  rw [val, valFrom_append, valFrom_cons, valFrom_nil]
theorem le_valFrom (a : Nat) (x : Str) : a ≤ valFrom a x := by
  induction x generalizing a with
  | nil => exact Nat.le_refl _
  | cons c x ih =>
    rw [valFrom_cons]
    have := ih (a * 10 + (c.toNat - 48))
    omega
theorem valFrom_take (x : Str) (k : Nat) (a : Nat) : valFrom a (x.take k) ≤ valFrom a x := by
  conv => rhs; rw [← List.take_append_drop k x, valFrom_append]
  exact le_valFrom _ _

theorem dig_ofNat {u : Nat} (h : u < 10) : (UInt8.ofNat (48 + u)).toNat = 48 + u := by
  rw [UInt8.toNat_ofNat']; omega
theorem dig_eta {c : UInt8} (h : isDig c) : UInt8.ofNat (48 + (c.toNat - 48)) = c := by
  have : 48 + (c.toNat - 48) = c.toNat := by have := h.1; omega
  rw [this, UInt8.ofNat_toNat]

theorem decDigits_small {u : Nat} (h : u < 10) : decDigits u = [UInt8.ofNat (48 + u)] := by rw [decDigits, dif_pos h]
theorem decDigits_big {u : Nat} (h : ¬ u < 10) : decDigits u = decDigits (u / 10) ++ [UInt8.ofNat (48 + u % 10)] := by rw [decDigits, dif_neg h]
theorem decDigits_ne (u : Nat) : decDigits u ≠ [] := by
  by_cases h : u < 10
  · rw [decDigits_small h]; simp
  · rw [decDigits_big h]; simp
theorem decDigits_dig (u : Nat) : ∀ c ∈ decDigits u, isDig c := by
  induction u using Nat.strongRecOn with
  | _ u ih =>
    by_cases h : u < 10
    · rw [decDigits_small h]
      intro c hc
      rw [List.mem_singleton] at hc
      subst hc
      unfold isDig
      rw [dig_ofNat h]; omega
    · rw [decDigits_big h]
      intro c hc
      rcases List.mem_append.1 hc with hc | hc
      · exact ih _ (by omega) c hc
      · rw [List.mem_singleton] at hc
        subst hc
        unfold isDig
        rw [dig_ofNat (by omega)]; omega
theorem val_decDigits (u : Nat) : val (decDigits u) = u := by
  induction u using Nat.strongRecOn with
  | _ u ih =>
    by_cases h : u < 10
    · rw [decDigits_small h]
      rw [val, valFrom_cons, dig_ofNat h]
      unfold valFrom
      rw [List.foldl_nil]; omega
    · rw [decDigits_big h, val_snoc, ih _ (by omega), dig_ofNat (by omega)]; omega
/-- No nought ahead, but of the nought itself. -/
def lead (d : Str) : Prop := 1 < d.length → d[0]? ≠ some 48
theorem decDigits_lead (u : Nat) : lead (decDigits u) ∧ (0 < u → (decDigits u)[0]? ≠ some 48) := by
  induction u using Nat.strongRecOn with
  | _ u ih =>
    by_cases h : u < 10
    · rw [decDigits_small h]
      refine ⟨fun hl => by simp at hl, fun h0 he => ?_⟩
      simp only [List.getElem?_cons_zero, Option.some.injEq] at he
      have := congrArg UInt8.toNat he
      rw [dig_ofNat h] at this
      have e : (48 : UInt8).toNat = 48 := rfl
      omega
    · have h2 := (ih (u / 10) (by omega)).2 (by omega)
      have h3 := List.length_pos_iff.2 (decDigits_ne (u / 10))
      rw [decDigits_big h]
      have e : (decDigits (u / 10) ++ [UInt8.ofNat (48 + u % 10)])[0]? = (decDigits (u / 10))[0]? := List.getElem?_append_left h3
      exact ⟨fun _ => by rw [e]; exact h2, fun _ => by rw [e]; exact h2⟩
theorem val_pos {d : Str} (hd : ∀ c ∈ d, isDig c) (h0 : d ≠ []) (h : d[0]? ≠ some 48) : 0 < val d := by
  cases d with
  | nil => exact absurd rfl h0
  | cons c r =>
    have hc := hd c List.mem_cons_self
    have : c ≠ 48 := fun e => h (by rw [e]; rfl)
    have h2 : c.toNat ≠ 48 := fun e => this (UInt8.toNat_inj.1 e)
    have := le_valFrom (0 * 10 + (c.toNat - 48)) r
    rw [val, valFrom_cons]
    have := hc.1
    omega
theorem snoc_cases (d : Str) : d = [] ∨ ∃ x c, d = x ++ [c] := by
  rcases List.eq_nil_or_concat d with h | ⟨x, c, h⟩
  · exact .inl h
  · exact .inr ⟨x, c, by rw [h, List.concat_eq_append]⟩
theorem decDigits_val : ∀ (n : Nat) (d : Str), d.length = n → (∀ c ∈ d, isDig c) → d ≠ [] → lead d → decDigits (val d) = d := by
  intro n
  induction n with
  | zero => intro d hl _ h0; exact absurd (List.eq_nil_of_length_eq_zero hl) h0
  | succ n ih =>
    intro d hl hd h0 hlead
    rcases snoc_cases d with rfl | ⟨x, c, rfl⟩
    · exact absurd rfl h0
    · have hc := hd c (by simp)
      have hc1 := hc.1
      have hc2 := hc.2
      rw [val_snoc]
      by_cases hx : x = []
      · subst hx
        have e : val [] = 0 := rfl
        rw [e, List.nil_append, Nat.zero_mul, Nat.zero_add, decDigits_small (by omega), dig_eta hc]
      · have hxl := List.length_pos_iff.2 hx
        have hh : x[0]? ≠ some 48 := by
          have := hlead (by simp; omega)
          rwa [List.getElem?_append_left hxl] at this
        have hp := val_pos (fun a ha => hd a (List.mem_append_left _ ha)) hx hh
        rw [decDigits_big (by omega), show (val x * 10 + (c.toNat - 48)) / 10 = val x by omega, show (val x * 10 + (c.toNat - 48)) % 10 = c.toNat - 48 by omega,
          ih x (by simp at hl; omega) (fun a ha => hd a (List.mem_append_left _ ha)) hx (fun _ => hh), dig_eta hc]

theorem parseUintM_val {M : Nat} (hM : M ≤ 18446744073709551615) : ∀ (d : Str) (a : Nat), (∀ c ∈ d, isDig c) → valFrom a d ≤ M → parseUintM M a d = .ok (valFrom a d)
  | [], a, _, _ => rfl
  | c :: r, a, hd, hv => by
    have hc := hd c List.mem_cons_self
    have h1 : a * 10 + (c.toNat - 48) ≤ valFrom (a * 10 + (c.toNat - 48)) r := le_valFrom _ _
    rw [valFrom_cons] at hv ⊢
    have h2 := hv
    rw [parseUintM, if_pos (show 48 ≤ c.toNat ∧ c.toNat ≤ 57 from hc), if_neg (by omega), if_neg (by omega)]
    exact parseUintM_val hM r _ (fun x hx => hd x (List.mem_cons_of_mem _ hx)) hv

def I64n (v : Int) : Prop := -9223372036854775808 ≤ v ∧ v ≤ 9223372036854775807
/-- The number of a word, that is written as it would be printed. -/
def numOf (s : Str) : Option Int :=
  match parseIntB 64 s with
  | .ok v => if itoa v = s then some v else none
  | _ => none
theorem itoa_pos {v : Int} (h : 0 ≤ v) : itoa v = decDigits v.toNat := by rw [itoa, if_neg (by omega)]
theorem itoa_neg {v : Int} (h : v < 0) : itoa v = 45 :: decDigits v.natAbs := by rw [itoa, if_pos h]
theorem itoa_ne (v : Int) : itoa v ≠ [] := by
  by_cases h : v < 0
  · rw [itoa_neg h]; simp
  · rw [itoa_pos (by omega)]; exact decDigits_ne _
theorem parse_itoa {v : Int} (h : I64n v) : parseIntB 64 (itoa v) = .ok v := by
  unfold I64n at h
  by_cases hn : v < 0
  · rw [itoa_neg hn]
    have e : (45 : UInt8).toNat = 45 := rfl
    have hv := val_decDigits v.natAbs
    have hp : parseUintB 64 (decDigits v.natAbs) = .ok v.natAbs := by
      rw [parseUintB, if_neg (decDigits_ne _), parseUintM_val (by omega) _ _ (decDigits_dig _) (by rw [show valFrom 0 (decDigits v.natAbs) = v.natAbs from hv]; omega), show valFrom 0 (decDigits v.natAbs) = v.natAbs from hv]
    have e63 : (2 : Nat) ^ (64 - 1) = 9223372036854775808 := rfl
    simp only [parseIntB, e, or_true, if_true, hp]
    rw [e63, if_neg (by simp), if_neg (by omega)]
    congr 1
    omega
  · rw [itoa_pos (by omega)]
    have hv := val_decDigits v.toNat
    have hp : parseUintB 64 (decDigits v.toNat) = .ok v.toNat := by
      rw [parseUintB, if_neg (decDigits_ne _), parseUintM_val (by omega) _ _ (decDigits_dig _) (by rw [show valFrom 0 (decDigits v.toNat) = v.toNat from hv]; omega), show valFrom 0 (decDigits v.toNat) = v.toNat from hv]
    cases hd : decDigits v.toNat with
    | nil => exact absurd hd (decDigits_ne _)
    | cons c r =>
      have hc : isDig c := decDigits_dig v.toNat c (by rw [hd]; exact List.mem_cons_self)
      have h1 : ¬ (c.toNat = 43 ∨ c.toNat = 45) := by have := hc.1; omega
      have h2 : ¬ c.toNat = 45 := by have := hc.1; omega
      rw [hd] at hp
      have e63 : (2 : Nat) ^ (64 - 1) = 9223372036854775808 := rfl
      simp only [parseIntB, if_neg h1, hp]
      rw [e63, if_neg (fun x => by omega), if_neg (fun x => h2 x.1), if_neg h2]
      congr 1
      omega
theorem numOf_itoa {v : Int} (h : I64n v) : numOf (itoa v) = some v := by
  unfold numOf; rw [parse_itoa h]; simp
theorem parse_bound {s : Str} {v : Int} (h : parseIntB 64 s = .ok v) : I64n v := by
  unfold I64n
  cases s with
  | nil => simp [parseIntB] at h
  | cons c r =>
    simp only [parseIntB] at h
    split at h
    · cases h
    · cases h
    · rename_i u hu
      split at h
      · cases h
      · split at h
        · cases h
        · rename_i h1 h2
          have e63 : (2 : Nat) ^ (64 - 1) = 9223372036854775808 := rfl
          rw [e63] at h1 h2
          injection h with h
          by_cases hc : c.toNat = 45
          · rw [if_pos hc] at h
            have : ¬ 9223372036854775808 < u := fun x => h2 ⟨hc, x⟩
            omega
          · rw [if_neg hc] at h
            have : ¬ 9223372036854775808 ≤ u := fun x => h1 ⟨hc, x⟩
            omega
theorem numOf_some {s : Str} {v : Int} (h : numOf s = some v) : itoa v = s ∧ I64n v := by
  unfold numOf at h
  split at h
  · rename_i u hu
    split at h
    · cases h; rename_i he; exact ⟨he, parse_bound hu⟩
    · cases h
  · cases h
theorem numOf_iff {s : Str} {v : Int} : numOf s = some v ↔ itoa v = s ∧ I64n v :=
  ⟨numOf_some, fun ⟨h1, h2⟩ => by rw [← h1]; exact numOf_itoa h2⟩
theorem numOf_none {s : Str} (h : ∀ v, I64n v → itoa v ≠ s) : numOf s = none := by
  cases hn : numOf s with
  | none => rfl
  | some v => exact absurd (numOf_some hn).1 (h v (numOf_some hn).2)
end Go.Proofs.YtkfnbpbhcnekiaaGreatDoor

/- Plain laws: how the document reads a number. -/
namespace Go.Proofs.YtkfnbpbhcnekiaaGreatDoor
open Go.Lib

theorem decDigits_len : ∀ (k u : Nat), 0 < k → u < 10 ^ k → (decDigits u).length ≤ k
  | 0, _, h, _ => absurd h (by omega)
  | 1, u, _, h => by rw [decDigits_small (by simpa using h)]; simp
  | k + 2, u, _, h => by
    by_cases h0 : u < 10
    · rw [decDigits_small h0]; simp
    · rw [decDigits_big h0, List.length_append]
      have := decDigits_len (k + 1) (u / 10) (by omega) (by rw [Nat.pow_succ] at h; omega)
      simp; omega
/-- A minus ahead? -/
def minusB (s : Str) : Bool := decide (s[0]? = some 45)
def magn (s : Str) : Str := if minusB s then s.drop 1 else s
theorem magn_itoa (v : Int) : minusB (itoa v) = decide (v < 0) ∧ magn (itoa v) = decDigits v.natAbs := by
  by_cases h : v < 0
  · rw [itoa_neg h]
    simp [minusB, magn, h]
  · rw [itoa_pos (by omega)]
    have hne := decDigits_ne v.toNat
    have h1 : (decDigits v.toNat)[0]? ≠ some 45 := by
      cases hd : decDigits v.toNat with
      | nil => exact absurd hd hne
      | cons c r =>
        intro he
        simp only [List.getElem?_cons_zero, Option.some.injEq] at he
        subst he
        have := decDigits_dig v.toNat 45 (by rw [hd]; exact List.mem_cons_self)
        have := this.1
        have e : (45 : UInt8).toNat = 45 := rfl
        omega
    have e : v.toNat = v.natAbs := by omega
    simp [minusB, magn, h, h1]
    rw [e]
structure NumF (s : Str) (v : Int) : Prop where
  d : magn s = decDigits v.natAbs
  neg : minusB s = decide (v < 0)
  b : I64n v
theorem NumF.of {s : Str} {v : Int} (h1 : I64n v) (h2 : itoa v = s) : NumF s v := by
  subst h2
  exact ⟨(magn_itoa v).2, (magn_itoa v).1, h1⟩
theorem none_of {s : Str} (h : ∀ v, NumF s v → False) : numOf s = none := numOf_none fun v h1 h2 => h v (.of h1 h2)
theorem num_bad1 {s : Str} (h : (magn s).length = 0 ∨ 19 < (magn s).length) : numOf s = none := none_of fun v hv => by
  have h1 := hv.d
  have h2 := hv.b
  unfold I64n at h2
  have := decDigits_len 19 v.natAbs (by omega) (by omega)
  have h3 := List.length_pos_iff.2 (decDigits_ne v.natAbs)
  rw [h1] at h
  omega
theorem num_bad2 {s : Str} (h1 : 1 < (magn s).length) (h2 : (magn s)[0]? = some 48) : numOf s = none := none_of fun v hv => by
  rw [hv.d] at h1 h2
  exact (decDigits_lead v.natAbs).1 h1 h2
theorem num_bad3 {s : Str} (h1 : minusB s = true) (h2 : magn s = [48]) : numOf s = none := none_of fun v hv => by
  have h3 := hv.d
  have h4 := hv.neg
  rw [h1] at h4
  have h5 : v < 0 := by simpa using h4.symm
  rw [h2] at h3
  have h6 := val_decDigits v.natAbs
  rw [← h3] at h6
  have : val [48] = 0 := by decide
  omega
theorem num_bad4 {s : Str} {c : UInt8} (h1 : c ∈ magn s) (h2 : ¬ isDig c) : numOf s = none := none_of fun v hv => by
  rw [hv.d] at h1
  exact h2 (decDigits_dig _ _ h1)
theorem num_bad5 {s : Str} {k : Nat} (h : 9223372036854775808 < val ((magn s).take k)) : numOf s = none := none_of fun v hv => by
  have h1 : val ((magn s).take k) ≤ val (magn s) := valFrom_take (magn s) k 0
  have h2 := val_decDigits v.natAbs
  rw [hv.d] at h h1
  have := hv.b
  unfold I64n at this
  omega
theorem num_bad6 {s : Str} (h1 : minusB s = false) (h : 9223372036854775808 ≤ val (magn s)) : numOf s = none := none_of fun v hv => by
  have h2 := val_decDigits v.natAbs
  have h4 := hv.neg
  rw [h1] at h4
  have h5 : ¬ v < 0 := by simpa using h4.symm
  rw [hv.d] at h
  have := hv.b
  unfold I64n at this
  omega
theorem magn_minus {s : Str} (h : minusB s = true) : s = 45 :: magn s := by
  unfold magn
  rw [if_pos h]
  cases s with
  | nil => simp [minusB] at h
  | cons c r =>
    have : c = 45 := by simpa [minusB] using h
    subst this
    rfl
theorem magn_plain {s : Str} (h : minusB s = false) : magn s = s := by unfold magn; rw [h]; rfl
theorem num_neg {s : Str} (h : minusB s = true) (hd : ∀ c ∈ magn s, isDig c) (h0 : magn s ≠ []) (hl : lead (magn s)) (hn : magn s ≠ [48]) (hv : val (magn s) ≤ 9223372036854775808) : numOf s = some (-(val (magn s) : Int)) := by
  rw [numOf_iff]
  have e := decDigits_val _ _ rfl hd h0 hl
  have hp : 0 < val (magn s) := by
    rcases Nat.eq_zero_or_pos (val (magn s)) with h1 | h1
    · rw [h1] at e
      exact absurd (by rw [← e]; rw [decDigits_small (by omega)]; rfl) hn
    · exact h1
  refine ⟨?_, ⟨by omega, by omega⟩⟩
  rw [itoa_neg (by omega), show (-(val (magn s) : Int)).natAbs = val (magn s) by omega, e]
  exact (magn_minus h).symm
theorem num_pos {s : Str} (h : minusB s = false) (hd : ∀ c ∈ magn s, isDig c) (h0 : magn s ≠ []) (hl : lead (magn s)) (hv : val (magn s) < 9223372036854775808) : numOf s = some (val (magn s) : Int) := by
  rw [numOf_iff]
  have e := decDigits_val _ _ rfl hd h0 hl
  refine ⟨?_, ⟨by omega, by omega⟩⟩
  rw [itoa_pos (by omega), show ((val (magn s) : Int)).toNat = val (magn s) by omega, e]
  exact magn_plain h

/-! ### Splitting and joining -/
def splitC (c : UInt8) : Str → List Str
  | [] => [[]]
  | x :: r => if x = c then [] :: splitC c r else match splitC c r with
    | [] => [[x]]
    | w :: ws => (x :: w) :: ws
theorem splitC_ne (c : UInt8) (s : Str) : splitC c s ≠ [] := by
  cases s with
  | nil => simp [splitC]
  | cons x r =>
    simp only [splitC]
    split
    · simp
    · split <;> simp
/-- What stands ahead of the first c, and behind it. -/
def pairC (c : UInt8) : Str → Option (Str × Str)
  | [] => none
  | x :: r => if x = c then some ([], r) else match pairC c r with
    | some (a, b) => some (x :: a, b)
    | none => none
theorem pairC_none {c : UInt8} : ∀ {s : Str}, pairC c s = none ↔ c ∉ s
  | [] => by simp [pairC]
  | x :: r => by
    simp only [pairC]
    split
    · rename_i h; subst h; simp
    · rename_i h
      have ih := pairC_none (c := c) (s := r)
      cases hr : pairC c r with
      | none =>
        have : c ∉ r := ih.1 hr
        simp [this]; exact fun e => h e.symm
      | some p =>
        have : c ∈ r := by
          by_cases hm : c ∈ r
          · exact hm
          · rw [ih.2 hm] at hr; cases hr
        simp [this]
theorem pairC_some {c : UInt8} : ∀ {s a b : Str}, pairC c s = some (a, b) ↔ s = a ++ c :: b ∧ c ∉ a
  | [], a, b => by simp [pairC]
  | x :: r, a, b => by
    simp only [pairC]
    split
    · rename_i h; subst h
      constructor
      · intro h; cases h; simp
      · rintro ⟨h1, h2⟩
        cases a with
        | nil => simp at h1; simp [h1]
        | cons y a => simp at h1 h2; exact absurd h1.1 h2.1
    · rename_i h
      have ih := fun a b => pairC_some (c := c) (s := r) (a := a) (b := b)
      cases a with
      | nil =>
        constructor
        · intro h; split at h <;> simp at h
        · rintro ⟨h1, _⟩; simp at h1; exact absurd h1.1 h
      | cons y a =>
        constructor
        · intro hh
          split at hh
          · rename_i p q hpq
            simp only [Option.some.injEq, Prod.mk.injEq, List.cons.injEq] at hh
            obtain ⟨⟨rfl, rfl⟩, rfl⟩ := hh
            obtain ⟨h1, h2⟩ := (ih _ _).1 hpq
            exact ⟨by simp [h1], by simp only [List.mem_cons, not_or]; exact ⟨fun e => h e.symm, h2⟩⟩
          · cases hh
        · rintro ⟨h1, h2⟩
          simp only [List.cons_append, List.cons.injEq] at h1
          simp only [List.mem_cons, not_or] at h2
          obtain ⟨rfl, h1⟩ := h1
          rw [(ih a b).2 ⟨h1, h2.2⟩]
theorem splitC_no {c : UInt8} : ∀ {s : Str}, c ∉ s → splitC c s = [s]
  | [], _ => rfl
  | x :: r, h => by
    simp only [List.mem_cons, not_or] at h
    rw [splitC, if_neg (fun e => h.1 e.symm), splitC_no h.2]
theorem splitC_append {c : UInt8} : ∀ {a : Str} (b : Str), c ∉ a → splitC c (a ++ c :: b) = a :: splitC c b
  | [], b, _ => by simp [splitC]
  | x :: a, b, h => by
    simp only [List.mem_cons, not_or] at h
    rw [List.cons_append, splitC, if_neg (fun e => h.1 e.symm), splitC_append b h.2]
theorem splitC_no_mem {c : UInt8} : ∀ {s : Str}, ∀ w ∈ splitC c s, c ∉ w
  | [], w, h => by simp [splitC] at h; subst h; simp
  | x :: r, w, h => by
    have ih := splitC_no_mem (c := c) (s := r)
    simp only [splitC] at h
    split at h
    · rcases List.mem_cons.1 h with rfl | h
      · simp
      · exact ih w h
    · rename_i hx
      split at h
      · simp at h; subst h; simp; exact fun e => hx e.symm
      · rename_i u us hu
        rw [hu] at ih
        rcases List.mem_cons.1 h with rfl | h
        · simp only [List.mem_cons, not_or]
          exact ⟨fun e => hx e.symm, ih u List.mem_cons_self⟩
        · exact ih w (List.mem_cons_of_mem _ h)
/-- Words with one sign between them. -/
def joinC (c : UInt8) : List Str → Str
  | [] => []
  | [w] => w
  | w :: v :: r => w ++ c :: joinC c (v :: r)
theorem joinC_cons (c : UInt8) (w : Str) {r : List Str} (h : r ≠ []) : joinC c (w :: r) = w ++ c :: joinC c r := by
  cases r with
  | nil => exact absurd rfl h
  | cons v r => rfl
theorem joinC_split (c : UInt8) : ∀ s : Str, joinC c (splitC c s) = s
  | [] => rfl
  | x :: r => by
    have ih := joinC_split c r
    simp only [splitC]
    split
    · rename_i h; subst h
      rw [joinC_cons _ _ (splitC_ne _ _), ih]; rfl
    · split
      · rename_i h; exact absurd h (splitC_ne _ _)
      · rename_i w ws h
        rw [h] at ih
        cases ws with
        | nil => show x :: w = x :: r; rw [← ih]; rfl
        | cons v ws =>
          rw [joinC_cons _ _ (by simp)] at ih ⊢
          rw [← ih]; rfl
theorem split_joinC {c : UInt8} : ∀ {l : List Str}, l ≠ [] → (∀ w ∈ l, c ∉ w) → splitC c (joinC c l) = l
  | [], h, _ => absurd rfl h
  | [w], _, h => splitC_no (h w (by simp))
  | w :: v :: r, _, h => by
    rw [joinC_cons _ _ (by simp), splitC_append _ (h w (by simp)), split_joinC (by simp) (fun u hu => h u (List.mem_cons_of_mem _ hu))]
theorem joinC_inter (c : UInt8) : ∀ l : List Str, [c].intercalate l = joinC c l
  | [] => rfl
  | [w] => by simp [List.intercalate, joinC]
  | w :: v :: r => by
    have ih := joinC_inter c (v :: r)
    simp only [List.intercalate, List.intersperse_cons_cons, List.flatten_cons] at ih ⊢
    rw [ih]
    simp [joinC]
end Go.Proofs.YtkfnbpbhcnekiaaGreatDoor

/- Plain laws: the library's splitting and cutting at one sign. -/
namespace Go.Proofs.YtkfnbpbhcnekiaaGreatDoor
open Go.Lib

theorem index_pair (c : UInt8) : ∀ s : Str, index s [c] = match pairC c s with | some (a, _) => (a.length : Int) | none => -1
  | [] => rfl
  | x :: r => by
    have ih := index_pair c r
    by_cases h : x = c
    · subst h
      simp [index, pairC]
    · have hp : ([c] : Str).isPrefixOf (x :: r) = false := by
        show (c == x && ([] : Str).isPrefixOf r) = false
        rw [beq_eq_false_iff_ne.2 (fun e => h e.symm), Bool.false_and]
      rw [index, pairC, hp, if_neg h, ih]
      simp only [Bool.false_eq_true, if_false]
      cases hr : pairC c r with
      | none => rfl
      | some p =>
        obtain ⟨a, b⟩ := p
        have : ((a.length : Int) == -1) = false := by rw [beq_eq_false_iff_ne]; omega
        simp [this]
theorem splitK_eq (c : UInt8) : ∀ (k : Nat) (s : Str), s.count c = k → splitK [c] 0 k s = splitC c s
  | 0, s, h => by
    have : c ∉ s := List.count_eq_zero.1 h
    rw [splitC_no this]; rfl
  | k + 1, s, h => by
    have hm : c ∈ s := List.count_pos_iff.1 (by omega)
    cases hp : pairC c s with
    | none => exact absurd hm (pairC_none.1 hp)
    | some p =>
      obtain ⟨a, b⟩ := p
      obtain ⟨h1, h2⟩ := pairC_some.1 hp
      have hi := index_pair c s
      rw [hp] at hi
      have hne : ((index s [c]) == -1) = false := by rw [hi, beq_eq_false_iff_ne]; simp only; omega
      rw [splitK, hne, hi]
      subst h1
      have hc : b.count c = k := by
        rw [List.count_append, List.count_cons_self, List.count_eq_zero.2 h2] at h
        omega
      simp only [Bool.false_eq_true, if_false, Int.toNat_natCast, Nat.add_zero, List.length_singleton]
      rw [splitC_append b h2, List.take_left, show a ++ c :: b = (a ++ [c]) ++ b by simp, List.drop_left' (by simp), splitK_eq c k b hc]
theorem split_lib (c : UInt8) (s : ByteArray) : (splitB ⟨#[c]⟩ 0 (countB s ⟨#[c]⟩) s).map (·.data.toList) = splitC c s.data.toList := by
  rw [splitB_data]
  exact splitK_eq c _ _ (count_one c s.data.toList).symm
theorem cut_lib (c : UInt8) (s : Str) : cut s [c] = match pairC c s with | some (a, b) => (a, b, true) | none => (s, [], false) := by
  have hi := index_pair c s
  unfold cut
  rw [hi]
  cases hp : pairC c s with
  | none => simp
  | some p =>
    obtain ⟨a, b⟩ := p
    obtain ⟨h1, h2⟩ := pairC_some.1 hp
    subst h1
    simp only [List.length_singleton]
    rw [if_pos (by omega), Int.toNat_natCast, List.take_left, show a ++ c :: b = (a ++ [c]) ++ b by simp, List.drop_left' (by simp)]
end Go.Proofs.YtkfnbpbhcnekiaaGreatDoor

/- Plain laws: lines of a script as texts. -/
namespace Go.Proofs.YtkfnbpbhcnekiaaGreatDoor
open Go.Lib

structure Way where
  kind : Int
  tries : Int
  time : Int
  deriving DecidableEq
structure Ev where
  key : Int
  val : Int
  deriving DecidableEq
/-- A line: the deed, who, the ring, a number, a time, a way, others, events. -/
structure Ln where
  deed : Int
  who : Int
  ring : Int
  n : Int
  at_ : Int
  way : Way
  after : List Int
  evs : List Ev
  deriving DecidableEq
def Ln.zero : Ln := ⟨0, 0, 0, 0, 0, ⟨0, 0, 0⟩, [], []⟩
structure Ln.wf (o : Ln) : Prop where
  deed : I64n o.deed
  who : I64n o.who
  ring : I64n o.ring
  n : I64n o.n
  at_ : I64n o.at_
  kind : I64n o.way.kind
  tries : I64n o.way.tries
  time : I64n o.way.time
  after : ∀ x ∈ o.after, I64n x
  evs : ∀ x ∈ o.evs, I64n x.key ∧ I64n x.val

def wordL : List Str := [[114, 105, 110, 103],
  [112, 114, 111, 100, 117, 99, 101, 114],
  [99, 111, 110, 115, 117, 109, 101, 114],
  [112, 111, 111, 108],
  [112, 111, 108, 108, 101, 114],
  [99, 104, 111, 111, 115, 101, 114],
  [115, 101, 110, 100],
  [111, 102, 102, 101, 114],
  [112, 111, 108, 108],
  [114, 101, 99, 101, 105, 118, 101],
  [115, 101, 108, 101, 99, 116],
  [97, 108, 101, 114, 116],
  [99, 108, 101, 97, 114],
  [100, 114, 97, 105, 110],
  [114, 101, 109, 111, 118, 101],
  [116, 105, 99, 107],
  [112, 105, 99, 107]]
/-- What a deed's line names behind the command, a letter each. -/
def shapeL : List Str := [[110, 107], [114, 119], [114, 119, 110, 97], [114, 119, 110, 97], [114, 119, 97], [97], [104, 101], [104, 101], [104, 110], [104], [104, 110], [104], [104], [104], [104], [116], [110]]
def word (d : Nat) : Str := wordL.getD d []
def shape (d : Nat) : Str := shapeL.getD d []
def kindL : List Str := [[115, 112, 105, 110], [121, 105, 101, 108, 100], [98, 108, 111, 99, 107], [116, 105, 109, 101, 100]]
def ringL : List Str := [[115, 105, 110, 103, 108, 101], [109, 117, 108, 116, 105]]
def ringName (r : Int) : Str := if r = 0 then ringL.getD 0 [] else ringL.getD 1 []
def kindName (k : Int) : Str := if 0 ≤ k ∧ k ≤ 3 then kindL.getD k.toNat [] else [110, 111, 110, 101]
def yieldW : Str := [121, 105, 101, 108, 100, 58]
def timedW : Str := [116, 105, 109, 101, 100, 58]
def wayW (w : Way) : Str := if w.kind = 1 then yieldW ++ itoa w.tries else if w.kind = 3 then timedW ++ itoa w.time else kindName w.kind
def evW (x : Ev) : Str := itoa x.key ++ 58 :: itoa x.val

def fieldW (o : Ln) (c : UInt8) : List Str :=
  if c = 110 then [itoa o.n] else if c = 107 then [ringName o.ring] else if c = 114 then [itoa o.ring] else if c = 119 then [wayW o.way]
  else if c = 104 then [itoa o.who] else if c = 116 then [itoa o.at_] else if c = 97 then o.after.map itoa else if c = 101 then o.evs.map evW else []
def lineW (o : Ln) : List Str := word o.deed.toNat :: (shape o.deed.toNat).flatMap (fieldW o)
/-- A line as a text, or the number of what is wrong with it. -/
def printA (o : Ln) : Except Int Str :=
  if o.deed < 0 ∨ 16 < o.deed then .error 1
  else if (107 ∈ shape o.deed.toNat ∧ (o.ring < 0 ∨ 1 < o.ring)) ∨ (119 ∈ shape o.deed.toNat ∧ (o.way.kind < 0 ∨ 3 < o.way.kind)) then .error 1
  else if (97 ∈ shape o.deed.toNat ∧ 64 < o.after.length) ∨ (101 ∈ shape o.deed.toNat ∧ 64 < o.evs.length) then .error 8
  else .ok (joinC 32 (lineW o))

def readWay (s : Str) : Option Way :=
  if s = kindL.getD 0 [] then some ⟨0, 0, 0⟩ else if s = kindL.getD 2 [] then some ⟨2, 0, 0⟩ else match pairC 58 s with
  | none => none
  | some (a, b) => match numOf b with
    | none => none
    | some n => if a = kindL.getD 1 [] then some ⟨1, n, 0⟩ else if a = kindL.getD 3 [] then some ⟨3, 0, n⟩ else none
def readEv (s : Str) : Option Ev :=
  match pairC 58 s with
  | none => none
  | some (a, b) => match numOf a, numOf b with
    | some x, some y => some ⟨x, y⟩
    | _, _ => none
def readK (s : Str) : Option Int := if s = ringL.getD 0 [] then some 0 else if s = ringL.getD 1 [] then some 1 else none
/-- A word's number into a field. -/
def putN (o : Ln) (c : UInt8) (n : Int) : Ln := if c = 110 then { o with n := n } else if c = 114 then { o with ring := n } else if c = 104 then { o with who := n } else { o with at_ := n }
def readF : Ln → List Str → Str → Option Ln
  | o, ws, [] => if ws = [] then some o else none
  | o, ws, c :: f =>
    if c = 97 then (if 64 < ws.length then none else (ws.mapM numOf).map fun l => { o with after := l })
    else if c = 101 then (if 64 < ws.length then none else (ws.mapM readEv).map fun l => { o with evs := l })
    else match ws with
      | [] => none
      | s :: ws =>
        if c = 107 then (match readK s with | none => none | some k => readF { o with ring := k } ws f)
        else if c = 119 then (match readWay s with | none => none | some w => readF { o with way := w } ws f)
        else match numOf s with | none => none | some n => readF (putN o c n) ws f
def deedOf (w : Str) : Option Nat := wordL.findIdx? (fun x => decide (x = w))
/-- The line of a text, or the number of what is wrong with it. -/
def parseA (s : Str) : Except Int Ln :=
  if 4000 < s.length then .error 7 else match splitC 32 s with
  | [] => .error 3
  | w :: ws => match deedOf w with
    | none => .error 3
    | some d => match readF { Ln.zero with deed := d } ws (shape d) with
      | none => .error 6
      | some o => .ok o
/-- A line with just what it names. -/
def plainA (o : Ln) : Ln :=
  let f := shape o.deed.toNat
  { deed := o.deed, who := if 104 ∈ f then o.who else 0, ring := if 114 ∈ f ∨ 107 ∈ f then o.ring else 0, n := if 110 ∈ f then o.n else 0, at_ := if 116 ∈ f then o.at_ else 0,
    way := if 119 ∈ f then ⟨o.way.kind, if o.way.kind = 1 then o.way.tries else 0, if o.way.kind = 3 then o.way.time else 0⟩ else ⟨0, 0, 0⟩,
    after := if 97 ∈ f then o.after else [], evs := if 101 ∈ f then o.evs else [] }

/-! ### What is printed is read as it was -/
theorem itoa_mem {v : Int} {c : UInt8} (h : c ∈ itoa v) : c = 45 ∨ isDig c := by
  by_cases hn : v < 0
  · rw [itoa_neg hn] at h
    rcases List.mem_cons.1 h with h | h
    · exact .inl h
    · exact .inr (decDigits_dig _ _ h)
  · rw [itoa_pos (by omega)] at h
    exact .inr (decDigits_dig _ _ h)
theorem itoa_no {v : Int} {c : UInt8} (h1 : c ≠ 45) (h2 : ¬ isDig c) : c ∉ itoa v := fun h => (itoa_mem h).elim h1 h2
theorem no32 (v : Int) : (32 : UInt8) ∉ itoa v := itoa_no (by decide) (by unfold isDig; decide)
theorem no58 (v : Int) : (58 : UInt8) ∉ itoa v := itoa_no (by decide) (by unfold isDig; decide)
theorem no10 (v : Int) : (10 : UInt8) ∉ itoa v := itoa_no (by decide) (by unfold isDig; decide)
theorem pair_of {a : Str} (b : Str) (h : (58 : UInt8) ∉ a) : pairC 58 (a ++ 58 :: b) = some (a, b) := pairC_some.2 ⟨rfl, h⟩
theorem readEv_evW {x : Ev} (h : I64n x.key ∧ I64n x.val) : readEv (evW x) = some x := by
  unfold readEv evW
  rw [pair_of _ (no58 _)]
  simp only [numOf_itoa h.1, numOf_itoa h.2]
theorem readWay_wayW {w : Way} (hk : 0 ≤ w.kind ∧ w.kind ≤ 3) (h1 : I64n w.tries) (h2 : I64n w.time) : readWay (wayW w) = some ⟨w.kind, if w.kind = 1 then w.tries else 0, if w.kind = 3 then w.time else 0⟩ := by
  obtain ⟨k, t, u⟩ := w
  simp only at hk h1 h2 ⊢
  have : k = 0 ∨ k = 1 ∨ k = 2 ∨ k = 3 := by omega
  rcases this with rfl | rfl | rfl | rfl
  · rfl
  · have hp : pairC 58 (yieldW ++ itoa t) = some (kindL.getD 1 [], itoa t) := pair_of (a := kindL.getD 1 []) _ (by decide)
    have e : wayW ⟨1, t, u⟩ = yieldW ++ itoa t := rfl
    have n1 : yieldW ++ itoa t ≠ kindL.getD 0 [] := by simp [yieldW, kindL]
    have n2 : yieldW ++ itoa t ≠ kindL.getD 2 [] := by simp [yieldW, kindL]
    rw [e, readWay, if_neg n1, if_neg n2, hp]
    simp only [numOf_itoa h1]
    rfl
  · rfl
  · have hp : pairC 58 (timedW ++ itoa u) = some (kindL.getD 3 [], itoa u) := pair_of (a := kindL.getD 3 []) _ (by decide)
    have e : wayW ⟨3, t, u⟩ = timedW ++ itoa u := rfl
    have n1 : timedW ++ itoa u ≠ kindL.getD 0 [] := by simp [timedW, kindL]
    have n2 : timedW ++ itoa u ≠ kindL.getD 2 [] := by simp [timedW, kindL]
    rw [e, readWay, if_neg n1, if_neg n2, hp]
    simp only [numOf_itoa h2]
    rfl
theorem mapM_inv {α : Type} {f : α → Str} {g : Str → Option α} : ∀ {l : List α}, (∀ x ∈ l, g (f x) = some x) → (l.map f).mapM g = some l
  | [], _ => rfl
  | x :: l, h => by
    rw [List.map_cons, List.mapM_cons, h x List.mem_cons_self, mapM_inv fun y hy => h y (List.mem_cons_of_mem _ hy)]
    rfl
theorem mapM_back {α : Type} {f : α → Str} {g : Str → Option α} (h : ∀ s x, g s = some x → f x = s) : ∀ {ws : List Str} {l : List α}, ws.mapM g = some l → l.map f = ws
  | [], l, hl => by simp at hl; subst hl; rfl
  | s :: ws, l, hl => by
    rw [List.mapM_cons] at hl
    simp only [Option.bind_eq_bind, Option.bind_eq_some_iff, Option.pure_def, Option.some.injEq] at hl
    obtain ⟨x, hx, r, hr, rfl⟩ := hl
    rw [List.map_cons, h s x hx, mapM_back h hr]
theorem mapM_len {α : Type} {g : Str → Option α} : ∀ {ws : List Str} {l : List α}, ws.mapM g = some l → l.length = ws.length
  | [], l, hl => by simp at hl; subst hl; rfl
  | s :: ws, l, hl => by
    rw [List.mapM_cons] at hl
    simp only [Option.bind_eq_bind, Option.bind_eq_some_iff, Option.pure_def, Option.some.injEq] at hl
    obtain ⟨x, hx, r, hr, rfl⟩ := hl
    simp [mapM_len hr]
theorem mapM_all {α : Type} {g : Str → Option α} {p : α → Prop} (h : ∀ s x, g s = some x → p x) : ∀ {ws : List Str} {l : List α}, ws.mapM g = some l → ∀ x ∈ l, p x
  | [], l, hl => by simp at hl; subst hl; simp
  | s :: ws, l, hl => by
    rw [List.mapM_cons] at hl
    simp only [Option.bind_eq_bind, Option.bind_eq_some_iff, Option.pure_def, Option.some.injEq] at hl
    obtain ⟨x, hx, r, hr, rfl⟩ := hl
    intro y hy
    rcases List.mem_cons.1 hy with rfl | hy
    · exact h s _ hx
    · exact mapM_all h hr y hy
theorem deed_nat {d : Int} (h : ¬ (d < 0 ∨ 16 < d)) : ∃ k : Nat, k < 17 ∧ d = k := ⟨d.toNat, by omega, by omega⟩
theorem deedOf_word : ∀ k < 17, deedOf (word k) = some k := by decide
theorem word_deed {w : Str} {k : Nat} (h : deedOf w = some k) : k < 17 ∧ word k = w := by
  unfold deedOf at h
  obtain ⟨h1, h2, _⟩ := List.findIdx?_eq_some_iff_getElem.1 h
  refine ⟨h1, ?_⟩
  have : wordL[k] = w := by simpa using h2
  rw [word, List.getD_eq_getElem?_getD, List.getElem?_eq_getElem h1, this]; rfl
theorem word_no : ∀ k < 17, (32 : UInt8) ∉ word k ∧ (10 : UInt8) ∉ word k ∧ (35 : UInt8) ∉ word k ∧ word k ≠ [] ∧ (word k).length ≤ 8 := by decide

theorem wayW_no {w : Way} {c : UInt8} (h1 : c ≠ 45) (h2 : ¬ isDig c) (h3 : ∀ x ∈ yieldW ++ timedW ++ [110, 111, 110, 101] ++ kindL.flatten, c ≠ x) : c ∉ wayW w := by
  intro h
  unfold wayW at h
  split at h
  · rcases List.mem_append.1 h with h | h
    · exact h3 c (by simp [h]) rfl
    · exact itoa_no h1 h2 h
  · split at h
    · rcases List.mem_append.1 h with h | h
      · exact h3 c (by simp [h]) rfl
      · exact itoa_no h1 h2 h
    · unfold kindName at h
      split at h
      · rename_i hk
        have : w.kind.toNat = 0 ∨ w.kind.toNat = 1 ∨ w.kind.toNat = 2 ∨ w.kind.toNat = 3 := by omega
        refine h3 c (List.mem_append_right _ ?_) rfl
        rcases this with e | e | e | e <;> rw [e] at h <;> revert h <;> simp [kindL] <;> grind
      · refine h3 c ?_ rfl
        simp only [List.mem_append]
        exact .inl (.inr h)
theorem evW_no {x : Ev} {c : UInt8} (h1 : c ≠ 45) (h2 : ¬ isDig c) (h3 : c ≠ 58) : c ∉ evW x := by
  unfold evW
  simp only [List.mem_append, List.mem_cons, not_or]
  exact ⟨itoa_no h1 h2, h3, itoa_no h1 h2⟩
theorem fieldW_no {o : Ln} {f c : UInt8} (h1 : c ≠ 45) (h2 : ¬ isDig c) (h3 : c ≠ 58) (h4 : ∀ x ∈ yieldW ++ timedW ++ [110, 111, 110, 101] ++ kindL.flatten, c ≠ x) (h5 : ∀ x ∈ ringL.flatten, c ≠ x) : ∀ w ∈ fieldW o f, c ∉ w := by
  intro w hw
  unfold fieldW at hw
  split at hw
  · rw [List.mem_singleton] at hw; subst hw; exact itoa_no h1 h2
  split at hw
  · rw [List.mem_singleton] at hw; subst hw
    intro h
    refine h5 c ?_ rfl
    unfold ringName at h
    split at h
    · simp [ringL] at h ⊢; grind
    · simp [ringL] at h ⊢; grind
  split at hw
  · rw [List.mem_singleton] at hw; subst hw; exact itoa_no h1 h2
  split at hw
  · rw [List.mem_singleton] at hw; subst hw; exact wayW_no h1 h2 h4
  split at hw
  · rw [List.mem_singleton] at hw; subst hw; exact itoa_no h1 h2
  split at hw
  · rw [List.mem_singleton] at hw; subst hw; exact itoa_no h1 h2
  split at hw
  · obtain ⟨x, _, rfl⟩ := List.mem_map.1 hw; exact itoa_no h1 h2
  split at hw
  · obtain ⟨x, _, rfl⟩ := List.mem_map.1 hw; exact evW_no h1 h2 h3
  · cases hw
theorem lineW_no32 {o : Ln} (hd : o.deed.toNat < 17) : ∀ w ∈ lineW o, (32 : UInt8) ∉ w := by
  intro w hw
  rcases List.mem_cons.1 hw with rfl | hw
  · exact (word_no _ hd).1
  · obtain ⟨f, _, hf⟩ := List.mem_flatMap.1 hw
    exact fieldW_no (by decide) (by unfold isDig; decide) (by decide) (by decide) (by decide) w hf
theorem lineW_no10 {o : Ln} (hd : o.deed.toNat < 17) : ∀ w ∈ lineW o, (10 : UInt8) ∉ w := by
  intro w hw
  rcases List.mem_cons.1 hw with rfl | hw
  · exact (word_no _ hd).2.1
  · obtain ⟨f, _, hf⟩ := List.mem_flatMap.1 hw
    exact fieldW_no (by decide) (by unfold isDig; decide) (by decide) (by decide) (by decide) w hf

theorem readF_a (o : Ln) (ws : List Str) (f : Str) : readF o ws (97 :: f) = if 64 < ws.length then none else (ws.mapM numOf).map fun l => { o with after := l } := by cases ws <;> rfl
theorem readF_e (o : Ln) (ws : List Str) (f : Str) : readF o ws (101 :: f) = if 64 < ws.length then none else (ws.mapM readEv).map fun l => { o with evs := l } := by cases ws <;> rfl
/-- Each field that is printed is read. -/
theorem readF_fields {o : Ln} (hw : o.wf) (hk : 107 ∈ shape o.deed.toNat → o.ring = 0 ∨ o.ring = 1) (hy : 119 ∈ shape o.deed.toNat → 0 ≤ o.way.kind ∧ o.way.kind ≤ 3) (ha : 97 ∈ shape o.deed.toNat → o.after.length ≤ 64) (he : 101 ∈ shape o.deed.toNat → o.evs.length ≤ 64)
    {k : Nat} (hd : k < 17) (hk0 : o.deed = k) : readF { Ln.zero with deed := o.deed } ((shape k).flatMap (fieldW o)) (shape k) = some (plainA o) := by
  have e : o.deed.toNat = k := by omega
  rw [e] at hk hy ha he
  unfold plainA
  rw [e]
  have hn := numOf_itoa hw.n
  have hr := numOf_itoa hw.ring
  have hh := numOf_itoa hw.who
  have ht := numOf_itoa hw.at_
  have hA : (o.after.map itoa).mapM numOf = some o.after := mapM_inv fun x hx => numOf_itoa (hw.after x hx)
  have hE : (o.evs.map evW).mapM readEv = some o.evs := mapM_inv fun x hx => readEv_evW (hw.evs x hx)
  have hK : ∀ r : Int, (r = 0 ∨ r = 1) → readK (ringName r) = some r := by
    intro r hr
    rcases hr with rfl | rfl <;> rfl
  clear hd
  match k with
  | 0 =>
    have := hK _ (hk (by decide))
    simp [shape, shapeL, fieldW, readF, hn, this, putN, Ln.zero]
  | 1 =>
    have := readWay_wayW (hy (by decide)) hw.tries hw.time
    simp [shape, shapeL, fieldW, readF, hr, this, putN, Ln.zero]
  | 2 =>
    have := readWay_wayW (hy (by decide)) hw.tries hw.time
    have h3 : ¬ 64 < o.after.length := by have := ha (by decide); omega
    simp [shape, shapeL, fieldW, readF_a, readF, hr, hn, this, putN, Ln.zero, h3, hA]
  | 3 =>
    have := readWay_wayW (hy (by decide)) hw.tries hw.time
    have h3 : ¬ 64 < o.after.length := by have := ha (by decide); omega
    simp [shape, shapeL, fieldW, readF_a, readF, hr, hn, this, putN, Ln.zero, h3, hA]
  | 4 =>
    have := readWay_wayW (hy (by decide)) hw.tries hw.time
    have h3 : ¬ 64 < o.after.length := by have := ha (by decide); omega
    simp [shape, shapeL, fieldW, readF_a, readF, hr, hn, this, putN, Ln.zero, h3, hA]
  | 5 =>
    have h3 : ¬ 64 < o.after.length := by have := ha (by decide); omega
    simp [shape, shapeL, fieldW, readF_a, readF, putN, Ln.zero, h3, hA]
  | 6 =>
    have h3 : ¬ 64 < o.evs.length := by have := he (by decide); omega
    simp [shape, shapeL, fieldW, readF_e, readF, hh, putN, Ln.zero, h3, hE]
  | 7 =>
    have h3 : ¬ 64 < o.evs.length := by have := he (by decide); omega
    simp [shape, shapeL, fieldW, readF_e, readF, hh, putN, Ln.zero, h3, hE]
  | 8 => simp [shape, shapeL, fieldW, readF, hh, hn, putN, Ln.zero]
  | 9 => simp [shape, shapeL, fieldW, readF, hh, putN, Ln.zero]
  | 10 => simp [shape, shapeL, fieldW, readF, hh, hn, putN, Ln.zero]
  | 11 => simp [shape, shapeL, fieldW, readF, hh, putN, Ln.zero]
  | 12 => simp [shape, shapeL, fieldW, readF, hh, putN, Ln.zero]
  | 13 => simp [shape, shapeL, fieldW, readF, hh, putN, Ln.zero]
  | 14 => simp [shape, shapeL, fieldW, readF, hh, putN, Ln.zero]
  | 15 => simp [shape, shapeL, fieldW, readF, ht, putN, Ln.zero]
  | 16 => simp [shape, shapeL, fieldW, readF, hn, putN, Ln.zero]
  | k + 17 => simp [shape, shapeL, readF, Ln.zero]
end Go.Proofs.YtkfnbpbhcnekiaaGreatDoor

/- Digits and Number of the document's answer. -/
namespace Go.Proofs.YtkfnbpbhcnekiaaGreatDoor
open Go.RowKit Go.Lib
attribute [local irreducible] Nx Ar BrM
set_option maxRecDepth 20000

structure DgX where
  m : Int
  d : Str
  A : Option Addr
  c : Nat
structure DgI (n : Int) (x : DgX) : Prop where
  e : decDigits n.natAbs = decDigits x.m.natAbs ++ x.d.reverse
  b : I64n x.m
  len : x.d.length ≤ 20
theorem dg_step {n m : Int} {d : Str} (h : decDigits n.natAbs = decDigits m.natAbs ++ d.reverse) (h0 : ¬ m.natAbs < 10) :
    decDigits n.natAbs = decDigits (m.tdiv 10).natAbs ++ (d ++ [UInt8.ofNat (48 + m.natAbs % 10)]).reverse := by
  have e : (m.tdiv 10).natAbs = m.natAbs / 10 := by rw [Int.natAbs_tdiv]; rfl
  rw [e, h, decDigits_big h0]
  simp
theorem dg_last {n m : Int} {d : Str} (h : decDigits n.natAbs = decDigits m.natAbs ++ d.reverse) (h0 : m.natAbs < 10) :
    decDigits n.natAbs = (d ++ [UInt8.ofNat (48 + m.natAbs % 10)]).reverse := by
  rw [h, decDigits_small h0, Nat.mod_eq_of_lt h0]
  simp

theorem u8s_snoc (l : Str) (c : UInt8) {v : Int} (h : (c.toNat : Int) = v) : u8s (l ++ [c]) = u8s l ++ [.int .u8 v] := by subst h; simp [u8s]
theorem drop_rev {d : Str} {j : Nat} (h : j < d.length) : (d.drop j).reverse = (d.drop (j + 1)).reverse ++ [d[j]] := by
  rw [List.drop_eq_getElem_cons h]; simp
theorem one_of_drop {d : Str} {j : Nat} (h : j < d.length) : ((u8s d).drop (j * 1)).take ((j + 1 - j) * 1) = u8s [d[j]] := by
  have h2 : j + 1 - j = 1 := by omega
  rw [h2, Nat.mul_one, Nat.mul_one]
  have : j < (u8s d).length := by simpa using h
  rw [List.drop_eq_getElem_cons this]
  simp [u8s]

set_option maxHeartbeats 4000000 in
theorem Digits_ok (n : Int) (hn : I64n n) : FnOk Tryz.prog 21 [.int .i64 n] [] (fun v Q => v = str (itoa n) ∧ Q = []) := by
  have hn' := hn
  unfold I64n at hn'
  have hlen := decDigits_len 20 n.natAbs (by omega) (by omega)
  refine FnOk.start Tryz.func21 rfl rfl rfl rfl fun F os tape output => ?_
  refine go 200 ?_
  conv => whnf
  repeat' (first
    | ((with_reducible refine atBr ?_); (first | refine BrM.t rfl ?_ | refine BrM.f rfl ?_ | refine BrM.dec (fun _ => ?_) (fun _ => ?_) | refine BrM.mk (fun _ => ?_) (fun _ => ?_)) <;> conv => whnf)
    | ((with_reducible refine atAr ?_); refine Ar.i64 (by omega) (by omega) ?_; conv => whnf)
    | (fail)
    | ((with_reducible refine atOps ?_); refine go 200 ?_; conv => whnf)
    | ((with_reducible refine atPlan ?_); refine Nx.runP (n := 200) rfl (by repeat (first | exact subB.nil _ | refine subB.cons rfl ?_)) ?_; conv => whnf)
    | ((with_reducible refine atAftL ?_); refine Nx.late ?_)
    | ((fail_if_success (with_reducible refine atRet ?_)); (fail_if_success (with_reducible refine atLoop ?_)); (fail_if_success (with_reducible refine atIn ?_)); (fail_if_success (with_reducible refine atDrawn ?_)); (fail_if_success (with_reducible refine atEnd ?_)); (with_reducible refine atRun ?_); refine go 200 ?_; conv => whnf))
  refine Nx.give 1 (ownS 5 none 0 0 1 []) (own_nil _ _ _ _) ?_
  repeat' (first
    | ((with_reducible refine atBr ?_); (first | refine BrM.t rfl ?_ | refine BrM.f rfl ?_ | refine BrM.dec (fun _ => ?_) (fun _ => ?_) | refine BrM.mk (fun _ => ?_) (fun _ => ?_)) <;> conv => whnf)
    | ((with_reducible refine atAr ?_); refine Ar.i64 (by omega) (by omega) ?_; conv => whnf)
    | (fail)
    | ((with_reducible refine atOps ?_); refine go 200 ?_; conv => whnf)
    | ((with_reducible refine atPlan ?_); refine Nx.runP (n := 200) rfl (by repeat (first | exact subB.nil _ | refine subB.cons rfl ?_)) ?_; conv => whnf)
    | ((with_reducible refine atAftL ?_); refine Nx.late ?_)
    | ((fail_if_success (with_reducible refine atRet ?_)); (fail_if_success (with_reducible refine atLoop ?_)); (fail_if_success (with_reducible refine atIn ?_)); (fail_if_success (with_reducible refine atDrawn ?_)); (fail_if_success (with_reducible refine atEnd ?_)); (with_reducible refine atRun ?_); refine go 200 ?_; conv => whnf))
  refine Nx.loop (X := DgX) (DgI n) (fun x => x.m.natAbs)
    (fun x => [(0, iv x.m), (3, bv (decide (n < 0))), (4, sl x.A x.d.length x.c)]) (fun _ => []) [] (fun x => [(1, ownS 5 x.A x.d.length x.c 1 (u8s x.d))])
    ⟨n, [], none, 0⟩ ⟨by simp, hn, by simp⟩ ?_ ?_ ?_ ?_ ?_
  · repeat (first | exact subE.nil _ | refine subE.cons rfl rfl ?_ | refine subE.cons' rfl (fun _ => rfl) ?_)
  · repeat (first | exact subM.nil _ | refine subM.cons rfl rfl rfl ?_)
  · repeat (first | exact subB.nil _ | refine subB.cons rfl ?_)
  · repeat (first | exact subR.nil _ | refine subR.cons rfl rfl ?_)
  intro x hx ih
  have hb := hx.b
  unfold I64n at hb
  have hxl := hx.len
  obtain ⟨r, hr⟩ : ∃ r : Nat, r = x.m.natAbs % 10 := ⟨_, rfl⟩
  obtain ⟨q, hq⟩ : ∃ q : Int, q = x.m.tdiv 10 := ⟨_, rfl⟩
  have hm : x.m.tmod 10 = (if x.m < 0 then -(r : Int) else (r : Int)) := by
    subst hr
    split
    · obtain ⟨k, hk⟩ : ∃ k : Nat, x.m = -(k : Int) := ⟨x.m.natAbs, by omega⟩
      rw [hk, Int.neg_tmod]; simp; rfl
    · obtain ⟨k, hk⟩ : ∃ k : Nat, x.m = (k : Int) := ⟨x.m.natAbs, by omega⟩
      rw [hk]; simp; rfl
  have hd : q.natAbs = x.m.natAbs / 10 := by rw [hq, Int.natAbs_tdiv]; rfl
  have hqr : inR .i64 q := ⟨by omega, by omega⟩
  have hq2 : IntKind.i64.wrap (x.m.tdiv 10) = q := by rw [← hq]; exact inR_wrap hqr
  have hdig : ((UInt8.ofNat (48 + x.m.natAbs % 10)).toNat : Int) = 48 + (r : Int) := by rw [dig_ofNat (by omega)]; omega
  have hstep := fun h0 => dg_step hx.e (h0 : ¬ x.m.natAbs < 10)
  have hlast := fun h0 => dg_last hx.e (h0 : x.m.natAbs < 10)
  rw [← hq] at hstep
  obtain ⟨d', hd'⟩ : ∃ d' : Str, d' = x.d ++ [UInt8.ofNat (48 + x.m.natAbs % 10)] := ⟨_, rfl⟩
  rw [← hd'] at hstep hlast
  have hdl : d'.length = x.d.length + 1 := by rw [hd', List.length_append]; rfl
  have hdu : u8s d' = u8s x.d ++ [.int .u8 (48 + (r : Int))] := by rw [hd', u8s_snoc _ _ hdig]
  have hr10 : r < 10 := by omega
  clear hr hq hd'
  refine go 200 ?_
  conv => whnf
  refine Nx.divI rfl (.inl ⟨rfl, hm⟩) rfl rfl (by decide) rfl ?_
  refine go 3 ?_
  conv => whnf
  refine Nx.joinR (E := [(0, iv x.m), (3, bv (decide (n < 0))), (4, sl x.A x.d.length x.c), (5, iv r)]) (M := []) (B := []) (R := [(1, ownS 5 x.A x.d.length x.c 1 (u8s x.d))]) (fun K => ?_) ?_
  · by_cases h0 : x.m < 0
    · rw [if_pos h0]
      by_cases hr0 : r = 0
      · subst hr0
        repeat' (first
          | ((with_reducible refine Nx.weak K ?_ ?_ ?_ ?_) <;> (first | exact subM.nil _ | exact subB.nil _ | exact subR.nil _ | ((repeat (first | exact subE.nil _ | refine subE.cons rfl rfl ?_ | refine subE.cons' rfl (fun _ => rfl) ?_ | (refine subE.cons rfl ?_ ?_; · (simp; done)))); done) | ((repeat (first | exact subM.nil _ | refine subM.cons rfl rfl rfl ?_)); done) | ((repeat (first | exact subB.nil _ | refine subB.cons rfl ?_)); done) | ((repeat (first | exact subR.nil _ | refine subR.cons rfl rfl ?_)); done) | omega | (dsimp only; omega) | skip))
          | ((with_reducible refine atBr ?_); refine BrM.not (by omega) ?_; conv => whnf)
          | ((with_reducible refine atBr ?_); (first | refine BrM.t rfl ?_ | refine BrM.f rfl ?_ | refine BrM.dec (fun _ => ?_) (fun _ => ?_) | refine BrM.mk (fun _ => ?_) (fun _ => ?_)) <;> conv => whnf)
          | ((with_reducible refine atAr ?_); refine Ar.i64 (by omega) (by omega) ?_; conv => whnf)
          | ((with_reducible refine atOps ?_); refine goR 200 ?_; conv => whnf)
          | ((with_reducible refine atPlan ?_); refine Nx.runP (n := 200) rfl (by repeat (first | exact subB.nil _ | refine subB.cons rfl ?_)) ?_; conv => whnf)
          | ((with_reducible refine atAftL ?_); refine Nx.late ?_)
          | ((fail_if_success (with_reducible refine atRet ?_)); (fail_if_success (with_reducible refine atLoop ?_)); (fail_if_success (with_reducible refine atIn ?_)); (fail_if_success (with_reducible refine atDrawn ?_)); (fail_if_success (with_reducible refine atEnd ?_)); (with_reducible refine atRun ?_); refine goR 1 ?_; conv => whnf))
      · repeat' (first
          | ((with_reducible refine Nx.weak K ?_ ?_ ?_ ?_) <;> (first | exact subM.nil _ | exact subB.nil _ | exact subR.nil _ | ((repeat (first | exact subE.nil _ | refine subE.cons rfl rfl ?_ | refine subE.cons' rfl (fun _ => rfl) ?_ | (refine subE.cons rfl ?_ ?_; · (simp; done)))); done) | ((repeat (first | exact subM.nil _ | refine subM.cons rfl rfl rfl ?_)); done) | ((repeat (first | exact subB.nil _ | refine subB.cons rfl ?_)); done) | ((repeat (first | exact subR.nil _ | refine subR.cons rfl rfl ?_)); done) | omega | (dsimp only; omega) | skip))
          | ((with_reducible refine atBr ?_); refine BrM.yes (by omega) ?_; conv => whnf)
          | ((with_reducible refine atAr ?_); refine Ar.to (k := .i64) ((r : Int)) (by omega) ⟨by omega, by omega⟩ ?_; conv => whnf)
          | ((with_reducible refine atBr ?_); (first | refine BrM.t rfl ?_ | refine BrM.f rfl ?_ | refine BrM.dec (fun _ => ?_) (fun _ => ?_) | refine BrM.mk (fun _ => ?_) (fun _ => ?_)) <;> conv => whnf)
          | ((with_reducible refine atAr ?_); refine Ar.i64 (by omega) (by omega) ?_; conv => whnf)
          | ((with_reducible refine atOps ?_); refine goR 200 ?_; conv => whnf)
          | ((with_reducible refine atPlan ?_); refine Nx.runP (n := 200) rfl (by repeat (first | exact subB.nil _ | refine subB.cons rfl ?_)) ?_; conv => whnf)
          | ((with_reducible refine atAftL ?_); refine Nx.late ?_)
          | ((fail_if_success (with_reducible refine atRet ?_)); (fail_if_success (with_reducible refine atLoop ?_)); (fail_if_success (with_reducible refine atIn ?_)); (fail_if_success (with_reducible refine atDrawn ?_)); (fail_if_success (with_reducible refine atEnd ?_)); (with_reducible refine atRun ?_); refine goR 1 ?_; conv => whnf))
    · rw [if_neg h0]
      repeat' (first
        | ((with_reducible refine Nx.weak K ?_ ?_ ?_ ?_) <;> (first | exact subM.nil _ | exact subB.nil _ | exact subR.nil _ | ((repeat (first | exact subE.nil _ | refine subE.cons rfl rfl ?_ | refine subE.cons' rfl (fun _ => rfl) ?_ | (refine subE.cons rfl ?_ ?_; · (simp; done)))); done) | ((repeat (first | exact subM.nil _ | refine subM.cons rfl rfl rfl ?_)); done) | ((repeat (first | exact subB.nil _ | refine subB.cons rfl ?_)); done) | ((repeat (first | exact subR.nil _ | refine subR.cons rfl rfl ?_)); done) | omega | (dsimp only; omega) | skip))
        | ((with_reducible refine atBr ?_); refine BrM.not (by omega) ?_; conv => whnf)
        | ((with_reducible refine atBr ?_); (first | refine BrM.t rfl ?_ | refine BrM.f rfl ?_ | refine BrM.dec (fun _ => ?_) (fun _ => ?_) | refine BrM.mk (fun _ => ?_) (fun _ => ?_)) <;> conv => whnf)
        | ((with_reducible refine atAr ?_); refine Ar.i64 (by omega) (by omega) ?_; conv => whnf)
        | ((with_reducible refine atOps ?_); refine goR 200 ?_; conv => whnf)
        | ((with_reducible refine atPlan ?_); refine Nx.runP (n := 200) rfl (by repeat (first | exact subB.nil _ | refine subB.cons rfl ?_)) ?_; conv => whnf)
        | ((with_reducible refine atAftL ?_); refine Nx.late ?_)
        | ((fail_if_success (with_reducible refine atRet ?_)); (fail_if_success (with_reducible refine atLoop ?_)); (fail_if_success (with_reducible refine atIn ?_)); (fail_if_success (with_reducible refine atDrawn ?_)); (fail_if_success (with_reducible refine atEnd ?_)); (with_reducible refine atRun ?_); refine goR 1 ?_; conv => whnf))
  by_cases hq0 : q = 0
  · repeat' (first
      | ((with_reducible refine atBr ?_); refine BrM.yes (by omega) ?_; conv => whnf)
      | ((with_reducible refine atBr ?_); (first | refine BrM.t rfl ?_ | refine BrM.f rfl ?_ | refine BrM.dec (fun _ => ?_) (fun _ => ?_) | refine BrM.mk (fun _ => ?_) (fun _ => ?_)) <;> conv => whnf)
      | ((with_reducible refine atAr ?_); refine Ar.i64 (by omega) (by omega) ?_; conv => whnf)
      | ((with_reducible refine atQuo ?_); refine Nx.divI rfl (.inr ⟨rfl, hq2⟩) rfl rfl (by decide) rfl ?_)
      | ((with_reducible refine atAr ?_); refine Ar.ok (k := .u8) ⟨by omega, by omega⟩ ?_; conv => whnf)
      | ((with_reducible refine atApp ?_); refine Nx.append 1 (sz := 1) (by_ := 1) (news := [.int .u8 (48+(r:Int))]) rfl rfl rfl rfl rfl Tryz.underlying66 rfl rfl rfl rfl rfl (by unfold maxLen; omega) (by omega) fun A' c'' => ?_)
      | ((with_reducible refine atOps ?_); refine go 200 ?_; conv => whnf)
      | ((with_reducible refine atPlan ?_); refine Nx.runP (n := 200) rfl (by repeat (first | exact subB.nil _ | refine subB.cons rfl ?_)) ?_; conv => whnf)
      | ((with_reducible refine atAftL ?_); refine Nx.late ?_)
      | ((fail_if_success (with_reducible refine atRet ?_)); (fail_if_success (with_reducible refine atLoop ?_)); (fail_if_success (with_reducible refine atIn ?_)); (fail_if_success (with_reducible refine atDrawn ?_)); (fail_if_success (with_reducible refine atEnd ?_)); (with_reducible refine atRun ?_); refine go 200 ?_; conv => whnf))
    rw [← hdu, ← hdl]
    have hdl2 : d'.length ≤ 21 := by omega
    have hd2 := hlast (by omega)
    refine Nx.loop (X := Nat) (fun j => j ≤ d'.length) (fun j => j)
      (fun j => [(3, bv (decide (n < 0))), (4, sl A' d'.length c''), (6, sv (d'.drop j).reverse), (7, iv ((j : Int) - 1))]) (fun _ => []) [] (fun _ => [(1, ownS 5 A' d'.length c'' 1 (u8s d'))])
      d'.length (Nat.le_refl _) ?_ ?_ ?_ ?_ ?_
    · refine .cons rfl rfl (.cons rfl rfl (.cons rfl (by simp) (.cons rfl rfl (.nil _))))
    · repeat (first | exact subM.nil _ | refine subM.cons rfl rfl rfl ?_)
    · repeat (first | exact subB.nil _ | refine subB.cons rfl ?_)
    · repeat (first | exact subR.nil _ | refine subR.cons rfl rfl ?_)
    intro j hj ih2
    refine Nx.fact 1 (p := d'.length ≤ c'') rfl (fun r h hs => (ownS_fit hs).1) fun hfit => ?_
    rcases j with _ | j
    · have hlr : (List.drop 0 d').reverse = decDigits n.natAbs := by rw [List.drop_zero, hd2]
      rw [hlr]
      by_cases hneg : n < 0
      · repeat' (first
          | ((with_reducible refine atBr ?_); refine BrM.not (by omega) ?_; conv => whnf)
          | ((with_reducible refine atBr ?_); refine BrM.yes (by omega) ?_; conv => whnf)
          | ((with_reducible refine atBr ?_); (first | refine BrM.t rfl ?_ | refine BrM.f rfl ?_ | refine BrM.dec (fun _ => ?_) (fun _ => ?_) | refine BrM.mk (fun _ => ?_) (fun _ => ?_)) <;> conv => whnf)
          | ((with_reducible refine atAr ?_); refine Ar.i64 (by omega) (by omega) ?_; conv => whnf)
          | ((with_reducible refine atAdd ?_); refine Nx.cat rfl rfl rfl rfl ((by simp; omega)) ?_)
          | ((with_reducible refine atRet ?_); refine Nx.ret [] Tryz.func21 rfl rfl ?_; (exact ⟨by rw [itoa_neg hneg]; rfl, rfl⟩))
          | ((with_reducible refine atOps ?_); refine go 200 ?_; conv => whnf)
          | ((with_reducible refine atPlan ?_); refine Nx.runP (n := 200) rfl (by repeat (first | exact subB.nil _ | refine subB.cons rfl ?_)) ?_; conv => whnf)
          | ((with_reducible refine atAftL ?_); refine Nx.late ?_)
          | ((fail_if_success (with_reducible refine atRet ?_)); (fail_if_success (with_reducible refine atLoop ?_)); (fail_if_success (with_reducible refine atIn ?_)); (fail_if_success (with_reducible refine atDrawn ?_)); (fail_if_success (with_reducible refine atEnd ?_)); (with_reducible refine atRun ?_); refine go 200 ?_; conv => whnf))
      · repeat' (first
          | ((with_reducible refine atBr ?_); refine BrM.not (by omega) ?_; conv => whnf)
          | ((with_reducible refine atBr ?_); refine BrM.yes (by omega) ?_; conv => whnf)
          | ((with_reducible refine atBr ?_); (first | refine BrM.t rfl ?_ | refine BrM.f rfl ?_ | refine BrM.dec (fun _ => ?_) (fun _ => ?_) | refine BrM.mk (fun _ => ?_) (fun _ => ?_)) <;> conv => whnf)
          | ((with_reducible refine atAr ?_); refine Ar.i64 (by omega) (by omega) ?_; conv => whnf)
          | ((with_reducible refine atRet ?_); refine Nx.ret [] Tryz.func21 rfl rfl ?_; (exact ⟨by rw [itoa_pos (by omega), show n.toNat = n.natAbs by omega]; rfl, rfl⟩))
          | ((with_reducible refine atOps ?_); refine go 200 ?_; conv => whnf)
          | ((with_reducible refine atPlan ?_); refine Nx.runP (n := 200) rfl (by repeat (first | exact subB.nil _ | refine subB.cons rfl ?_)) ?_; conv => whnf)
          | ((with_reducible refine atAftL ?_); refine Nx.late ?_)
          | ((fail_if_success (with_reducible refine atRet ?_)); (fail_if_success (with_reducible refine atLoop ?_)); (fail_if_success (with_reducible refine atIn ?_)); (fail_if_success (with_reducible refine atDrawn ?_)); (fail_if_success (with_reducible refine atEnd ?_)); (with_reducible refine atRun ?_); refine go 200 ?_; conv => whnf))
    · have e1 : ((j + 1 : Nat) : Int) - 1 = (j : Int) := by omega
      rw [e1]
      repeat' (first
        | ((with_reducible refine atBr ?_); refine BrM.yes (by omega) ?_; conv => whnf)
        | ((with_reducible refine atBr ?_); (first | refine BrM.t rfl ?_ | refine BrM.f rfl ?_ | refine BrM.dec (fun _ => ?_) (fun _ => ?_) | refine BrM.mk (fun _ => ?_) (fun _ => ?_)) <;> conv => whnf)
        | ((with_reducible refine atAr ?_); refine Ar.i64 (by omega) (by omega) ?_; conv => whnf)
        | ((with_reducible refine atSlice ?_); refine Nx.reslice (l := j) (h := (j+1)) (m := c'') rfl rfl Tryz.underlying66 rfl rfl (rfl) (rfl) (rfl) (by simp) (by omega) (by omega) (by omega) ?_)
        | ((with_reducible refine atConv ?_); refine Nx.bstr 1 rfl rfl Tryz.underlying66 Tryz.underlying5 Tryz.underlying9 rfl rfl ((one_of_drop hj ▸ Sees.part (ownS_sees _ _ _ _ _ _) (by omega) (by omega) (by omega))) (by omega) ?_)
        | ((with_reducible refine atAdd ?_); refine Nx.cat rfl rfl rfl rfl ((by simp; omega)) ?_)
        | ((with_reducible refine atOps ?_); refine go 200 ?_; conv => whnf)
        | ((with_reducible refine atPlan ?_); refine Nx.runP (n := 200) rfl (by repeat (first | exact subB.nil _ | refine subB.cons rfl ?_)) ?_; conv => whnf)
        | ((with_reducible refine atAftL ?_); refine Nx.late ?_)
        | ((fail_if_success (with_reducible refine atRet ?_)); (fail_if_success (with_reducible refine atLoop ?_)); (fail_if_success (with_reducible refine atIn ?_)); (fail_if_success (with_reducible refine atDrawn ?_)); (fail_if_success (with_reducible refine atEnd ?_)); (with_reducible refine atRun ?_); refine go 200 ?_; conv => whnf))
      refine (ih2 j (by omega) (by omega)).weak ?_ ?_ ?_ ?_
      · refine .cons rfl rfl (.cons rfl rfl (.cons rfl (by rw [drop_rev hj]) (.cons rfl rfl (.nil _))))
      · repeat (first | exact subM.nil _ | refine subM.cons rfl rfl rfl ?_)
      · repeat (first | exact subB.nil _ | refine subB.cons rfl ?_)
      · repeat (first | exact subR.nil _ | refine subR.cons rfl rfl ?_)
  · repeat' (first
      | ((with_reducible refine atBr ?_); refine BrM.not (by omega) ?_; conv => whnf)
      | ((with_reducible refine atBr ?_); (first | refine BrM.t rfl ?_ | refine BrM.f rfl ?_ | refine BrM.dec (fun _ => ?_) (fun _ => ?_) | refine BrM.mk (fun _ => ?_) (fun _ => ?_)) <;> conv => whnf)
      | ((with_reducible refine atAr ?_); refine Ar.i64 (by omega) (by omega) ?_; conv => whnf)
      | ((with_reducible refine atQuo ?_); refine Nx.divI rfl (.inr ⟨rfl, hq2⟩) rfl rfl (by decide) rfl ?_)
      | ((with_reducible refine atAr ?_); refine Ar.ok (k := .u8) ⟨by omega, by omega⟩ ?_; conv => whnf)
      | ((with_reducible refine atApp ?_); refine Nx.append 1 (sz := 1) (by_ := 1) (news := [.int .u8 (48+(r:Int))]) rfl rfl rfl rfl rfl Tryz.underlying66 rfl rfl rfl rfl rfl (by unfold maxLen; omega) (by omega) fun A' c'' => ?_)
      | ((with_reducible refine atOps ?_); refine go 200 ?_; conv => whnf)
      | ((with_reducible refine atPlan ?_); refine Nx.runP (n := 200) rfl (by repeat (first | exact subB.nil _ | refine subB.cons rfl ?_)) ?_; conv => whnf)
      | ((with_reducible refine atAftL ?_); refine Nx.late ?_)
      | ((fail_if_success (with_reducible refine atRet ?_)); (fail_if_success (with_reducible refine atLoop ?_)); (fail_if_success (with_reducible refine atIn ?_)); (fail_if_success (with_reducible refine atDrawn ?_)); (fail_if_success (with_reducible refine atEnd ?_)); (with_reducible refine atRun ?_); refine go 200 ?_; conv => whnf))
    rw [← hdu, ← hdl]
    have hl2 := congrArg List.length (hstep (by omega))
    rw [List.length_append, List.length_reverse] at hl2
    refine (ih ⟨q, d', A', c''⟩ ⟨hstep (by omega), hqr, by show d'.length ≤ 20; omega⟩ (by show q.natAbs < _; omega)).weak ?_ ?_ ?_ ?_
    · repeat (first | exact subE.nil _ | refine subE.cons rfl rfl ?_ | refine subE.cons' rfl (fun _ => rfl) ?_)
    · repeat (first | exact subM.nil _ | refine subM.cons rfl rfl rfl ?_)
    · repeat (first | exact subB.nil _ | refine subB.cons rfl ?_)
    · repeat (first | exact subR.nil _ | refine subR.cons rfl rfl ?_)
end Go.Proofs.YtkfnbpbhcnekiaaGreatDoor

/- Number of the document's answer. -/
namespace Go.Proofs.YtkfnbpbhcnekiaaGreatDoor
open Go.RowKit Go.Lib
attribute [local irreducible] Nx Ar BrM
set_option maxRecDepth 20000

def numV (s : Str) : Value := match numOf s with | some v => .tuple #[.int .i64 v, .bool true] | none => .tuple #[.int .i64 0, .bool false]
theorem byteAt_nat {l : Str} {k : Nat} (h : k < l.length) : byteAt l k = (l[k]).toNat := by
  unfold byteAt
  rw [Int.toNat_natCast, List.getD_eq_getElem?_getD, List.getElem?_eq_getElem h]; rfl
theorem byteAt_zero {l : Str} (h : 0 < l.length) : byteAt l 0 = (l[0]).toNat := byteAt_nat (k := 0) h
theorem byte_eq {c : UInt8} {n : Nat} (hn : n < 256) : (c.toNat : Int) = n ↔ c = UInt8.ofNat n := by
  constructor
  · intro h
    have : c.toNat = n := by omega
    rw [← this, UInt8.ofNat_toNat]
  · intro h; subst h
    rw [UInt8.toNat_ofNat']; omega
theorem byteAt_range (l : Str) (i : Int) : 0 ≤ byteAt l i ∧ byteAt l i ≤ 255 := by
  unfold byteAt
  have := (l.getD i.toNat 0).toNat_lt
  omega
theorem take_dig {d : Str} {k : Nat} (hk : k < d.length) (h : ∀ c ∈ d.take k, isDig c) (hd : isDig d[k]) : ∀ c ∈ d.take (k + 1), isDig c := by
  intro c hc
  rw [List.take_succ_eq_append_getElem hk] at hc
  rcases List.mem_append.1 hc with hc | hc
  · exact h c hc
  · rw [List.mem_singleton] at hc; subst hc; exact hd
theorem val_take {d : Str} {k : Nat} (hk : k < d.length) : val (d.take (k + 1)) = val (d.take k) * 10 + (d[k].toNat - 48) := by
  rw [List.take_succ_eq_append_getElem hk, val_snoc]
theorem toList_eq {a b : Str} (h : ByteArray.toList ⟨a.toArray⟩ = ByteArray.toList ⟨b.toArray⟩) : a = b := by rwa [toList_str, toList_str] at h

structure NbI (d : Str) (x : Nat × Nat) : Prop where
  k : x.1 ≤ d.length
  dig : ∀ c ∈ d.take x.1, isDig c
  v : x.2 = val (d.take x.1)
  b : x.2 ≤ 9223372036854775808

set_option maxHeartbeats 8000000 in
theorem Number_ok (s : Str) (hs : s.length ≤ 9223372036854775807) : FnOk Tryz.prog 22 [str s] [] (fun v Q => v = numV s ∧ Q = []) := by
  have hsz : (⟨s.toArray⟩ : ByteArray).size = s.length := by simp [ByteArray.size]
  refine FnOk.start Tryz.func22 rfl rfl rfl rfl fun F os tape output => ?_
  refine go 15 ?_
  conv => whnf
  obtain ⟨d, hd⟩ : ∃ d, d = magn s := ⟨_, rfl⟩
  obtain ⟨mb, hmb⟩ : ∃ mb, mb = minusB s := ⟨_, rfl⟩
  have hdl : d.length ≤ s.length := by rw [hd]; unfold magn; split <;> simp
  refine Nx.joinR (E := [(2, iv 0), (3, bv false), (4, bv mb), (5, sv d)]) (M := []) (B := []) (R := []) (fun K => ?_) ?_
  · by_cases h0 : 0 < s.length
    · by_cases h1 : byteAt s 0 = 45
      · have hm : minusB s = true := by
          have := (byte_eq (n := 45) (by omega)).1 (by rw [← byteAt_zero h0]; exact h1)
          unfold minusB
          rw [List.getElem?_eq_getElem h0, this]
          rfl
        have hdd : d = (s.take ((⟨s.toArray⟩ : ByteArray).size : Int).toNat).drop (1 : Int).toNat := by
          rw [hd, hsz, Int.toNat_natCast, List.take_length]; unfold magn; rw [hm]; rfl
        rw [hmb, hm, hdd] at K
        repeat' (first
          | ((with_reducible refine Nx.weak K ?_ ?_ ?_ ?_) <;> (first | exact subM.nil _ | exact subB.nil _ | exact subR.nil _ | ((repeat (first | exact subE.nil _ | refine subE.cons rfl rfl ?_ | refine subE.cons' rfl (fun _ => rfl) ?_ | (refine subE.cons rfl ?_ ?_; · (simp; done)))); done) | ((repeat (first | exact subM.nil _ | refine subM.cons rfl rfl rfl ?_)); done) | ((repeat (first | exact subB.nil _ | refine subB.cons rfl ?_)); done) | ((repeat (first | exact subR.nil _ | refine subR.cons rfl rfl ?_)); done) | omega | (dsimp only; omega) | skip))
          | ((with_reducible refine atBr ?_); refine BrM.yes (by omega) ?_; conv => whnf)
          | ((with_reducible refine atBr ?_); (first | refine BrM.t rfl ?_ | refine BrM.f rfl ?_ | refine BrM.dec (fun _ => ?_) (fun _ => ?_) | refine BrM.mk (fun _ => ?_) (fun _ => ?_)) <;> conv => whnf)
          | ((with_reducible refine atAr ?_); refine Ar.i64 (by omega) (by omega) ?_; conv => whnf)
          | ((with_reducible refine atIndex ?_); refine Nx.sidx rfl rfl rfl Tryz.underlying9 rfl (by omega) (by omega) ?_)
          | ((with_reducible refine atSlice ?_); refine Nx.ssl rfl rfl Tryz.underlying9 rfl rfl rfl (by omega) (by omega) (by omega) ?_)
          | ((with_reducible refine atOps ?_); refine goR 200 ?_; conv => whnf)
          | ((with_reducible refine atPlan ?_); refine Nx.runP (n := 200) rfl (by repeat (first | exact subB.nil _ | refine subB.cons rfl ?_)) ?_; conv => whnf)
          | ((with_reducible refine atAftL ?_); refine Nx.late ?_)
          | ((fail_if_success (with_reducible refine atRet ?_)); (fail_if_success (with_reducible refine atLoop ?_)); (fail_if_success (with_reducible refine atIn ?_)); (fail_if_success (with_reducible refine atDrawn ?_)); (fail_if_success (with_reducible refine atEnd ?_)); (with_reducible refine atRun ?_); refine goR 1 ?_; conv => whnf))
      · have hm : minusB s = false := by
          unfold minusB
          rw [List.getElem?_eq_getElem h0]
          simp only [Option.some.injEq, decide_eq_false_iff_not]
          intro e
          exact h1 (by rw [byteAt_zero h0, e]; rfl)
        have hdd : d = s := by rw [hd]; exact magn_plain hm
        rw [hmb, hm, hdd] at K
        repeat' (first
          | ((with_reducible refine Nx.weak K ?_ ?_ ?_ ?_) <;> (first | exact subM.nil _ | exact subB.nil _ | exact subR.nil _ | ((repeat (first | exact subE.nil _ | refine subE.cons rfl rfl ?_ | refine subE.cons' rfl (fun _ => rfl) ?_ | (refine subE.cons rfl ?_ ?_; · (simp; done)))); done) | ((repeat (first | exact subM.nil _ | refine subM.cons rfl rfl rfl ?_)); done) | ((repeat (first | exact subB.nil _ | refine subB.cons rfl ?_)); done) | ((repeat (first | exact subR.nil _ | refine subR.cons rfl rfl ?_)); done) | omega | (dsimp only; omega) | skip))
          | ((with_reducible refine atBr ?_); refine BrM.yes (by omega) ?_; conv => whnf)
          | ((with_reducible refine atBr ?_); refine BrM.not (by omega) ?_; conv => whnf)
          | ((with_reducible refine atBr ?_); (first | refine BrM.t rfl ?_ | refine BrM.f rfl ?_ | refine BrM.dec (fun _ => ?_) (fun _ => ?_) | refine BrM.mk (fun _ => ?_) (fun _ => ?_)) <;> conv => whnf)
          | ((with_reducible refine atAr ?_); refine Ar.i64 (by omega) (by omega) ?_; conv => whnf)
          | ((with_reducible refine atIndex ?_); refine Nx.sidx rfl rfl rfl Tryz.underlying9 rfl (by omega) (by omega) ?_)
          | ((with_reducible refine atOps ?_); refine goR 200 ?_; conv => whnf)
          | ((with_reducible refine atPlan ?_); refine Nx.runP (n := 200) rfl (by repeat (first | exact subB.nil _ | refine subB.cons rfl ?_)) ?_; conv => whnf)
          | ((with_reducible refine atAftL ?_); refine Nx.late ?_)
          | ((fail_if_success (with_reducible refine atRet ?_)); (fail_if_success (with_reducible refine atLoop ?_)); (fail_if_success (with_reducible refine atIn ?_)); (fail_if_success (with_reducible refine atDrawn ?_)); (fail_if_success (with_reducible refine atEnd ?_)); (with_reducible refine atRun ?_); refine goR 1 ?_; conv => whnf))
    · have hs0 : s = [] := List.eq_nil_of_length_eq_zero (by omega)
      have hm : minusB s = false := by rw [hs0]; rfl
      have hdd : d = s := by rw [hd]; exact magn_plain hm
      rw [hmb, hm, hdd] at K
      repeat' (first
        | ((with_reducible refine Nx.weak K ?_ ?_ ?_ ?_) <;> (first | exact subM.nil _ | exact subB.nil _ | exact subR.nil _ | ((repeat (first | exact subE.nil _ | refine subE.cons rfl rfl ?_ | refine subE.cons' rfl (fun _ => rfl) ?_ | (refine subE.cons rfl ?_ ?_; · (simp; done)))); done) | ((repeat (first | exact subM.nil _ | refine subM.cons rfl rfl rfl ?_)); done) | ((repeat (first | exact subB.nil _ | refine subB.cons rfl ?_)); done) | ((repeat (first | exact subR.nil _ | refine subR.cons rfl rfl ?_)); done) | omega | (dsimp only; omega) | skip))
        | ((with_reducible refine atBr ?_); refine BrM.not (by omega) ?_; conv => whnf)
        | ((with_reducible refine atBr ?_); (first | refine BrM.t rfl ?_ | refine BrM.f rfl ?_ | refine BrM.dec (fun _ => ?_) (fun _ => ?_) | refine BrM.mk (fun _ => ?_) (fun _ => ?_)) <;> conv => whnf)
        | ((with_reducible refine atAr ?_); refine Ar.i64 (by omega) (by omega) ?_; conv => whnf)
        | ((with_reducible refine atOps ?_); refine goR 200 ?_; conv => whnf)
        | ((with_reducible refine atPlan ?_); refine Nx.runP (n := 200) rfl (by repeat (first | exact subB.nil _ | refine subB.cons rfl ?_)) ?_; conv => whnf)
        | ((with_reducible refine atAftL ?_); refine Nx.late ?_)
        | ((fail_if_success (with_reducible refine atRet ?_)); (fail_if_success (with_reducible refine atLoop ?_)); (fail_if_success (with_reducible refine atIn ?_)); (fail_if_success (with_reducible refine atDrawn ?_)); (fail_if_success (with_reducible refine atEnd ?_)); (with_reducible refine atRun ?_); refine goR 1 ?_; conv => whnf))
  have hdz : (⟨d.toArray⟩ : ByteArray).size = d.length := by simp [ByteArray.size]
  have bad1 : d.length = 0 ∨ 19 < d.length → numOf s = none := fun h => num_bad1 (hd ▸ h)
  have bad2 : 1 < d.length → byteAt d 0 = 48 → numOf s = none := fun h1 h2 => num_bad2 (hd ▸ h1) (by
    rw [← hd, List.getElem?_eq_getElem (by omega : 0 < d.length)]
    congr 1
    exact (byte_eq (n := 48) (by omega)).1 (by rw [← byteAt_zero (by omega)]; exact h2))
  have bad3 : mb = true → d = [48] → numOf s = none := fun h1 h2 => num_bad3 (hmb ▸ h1) (hd ▸ h2)
  have bad4 : ∀ k, k < d.length → (byteAt d k < 48 ∨ 57 < byteAt d k) → numOf s = none := fun k hk h => by
    subst hd
    refine num_bad4 (List.getElem_mem hk) ?_
    rw [byteAt_nat hk] at h
    unfold isDig
    omega
  have bad5 : ∀ k, 9223372036854775808 < val (d.take k) → numOf s = none := fun k h => num_bad5 (k := k) (hd ▸ h)
  have bad6 : mb = false → 9223372036854775808 ≤ val d → numOf s = none := fun h1 h2 => num_bad6 (hmb ▸ h1) (hd ▸ h2)
  have neg : mb = true → (∀ c ∈ d, isDig c) → d ≠ [] → lead d → d ≠ [48] → val d ≤ 9223372036854775808 → numOf s = some (-(val d : Int)) := fun h1 h2 h3 h4 h5 h6 => hd ▸ num_neg (hmb ▸ h1) (hd ▸ h2) (hd ▸ h3) (hd ▸ h4) (hd ▸ h5) (hd ▸ h6)
  have pos : mb = false → (∀ c ∈ d, isDig c) → d ≠ [] → lead d → val d < 9223372036854775808 → numOf s = some (val d : Int) := fun h1 h2 h3 h4 h6 => hd ▸ num_pos (hmb ▸ h1) (hd ▸ h2) (hd ▸ h3) (hd ▸ h4) (hd ▸ h6)
  have fail : numOf s = none → numV s = .tuple #[.int .i64 0, .bool false] := fun h => by unfold numV; rw [h]
  have good : ∀ v, numOf s = some v → numV s = .tuple #[.int .i64 v, .bool true] := fun v h => by unfold numV; rw [h]
  clear hd hmb
  have lead_of : ¬ (1 < d.length ∧ byteAt d 0 = 48) → lead d := fun h hl he => by
    rw [List.getElem?_eq_getElem (by omega : 0 < d.length)] at he
    injection he with he
    exact h ⟨hl, by rw [byteAt_zero (by omega), he]; rfl⟩
  have not3 : ¬ (ByteArray.toList ⟨d.toArray⟩ = ByteArray.toList ⟨#[48]⟩) → d ≠ [48] := fun h e => h (by rw [e])
  refine go 1 ?_
  conv => whnf
  refine Nx.joinX (X := (PLift (d ≠ [] ∧ d.length ≤ 19 ∧ lead d ∧ (mb = true → d ≠ [48])))) (E := fun x => [(2, iv 0), (3, bv false), (4, bv mb), (5, sv d)]) (M := fun x => []) (B := []) (R := fun x => []) (fun K => ?_) ?_
  · have ne0 : ¬ d.length = 0 → d ≠ [] := fun h e => h (by rw [e]; rfl)
    repeat' (first
      | ((with_reducible refine Nx.weak K ?_ ?_ ?_ ?_) <;> (first | exact subM.nil _ | exact subB.nil _ | exact subR.nil _ | ((repeat (first | exact subE.nil _ | refine subE.cons rfl rfl ?_ | refine subE.cons' rfl (fun _ => rfl) ?_ | (refine subE.cons rfl ?_ ?_; · (simp; done)))); done) | ((repeat (first | exact subM.nil _ | refine subM.cons rfl rfl rfl ?_)); done) | ((repeat (first | exact subB.nil _ | refine subB.cons rfl ?_)); done) | ((repeat (first | exact subR.nil _ | refine subR.cons rfl rfl ?_)); done) | omega | (dsimp only; omega) | skip))
      | ((with_reducible refine Nx.weak (K ?_) ?_ ?_ ?_ ?_) <;> (first | exact ⟨⟨ne0 (by omega), by omega, lead_of (by first | (rintro ⟨h1, h2⟩; omega) | (rintro ⟨h1, h2⟩; contradiction)), by first | (intro h; exact absurd (h.symm.trans (show mb = false by assumption)) (by decide)) | (intro _; exact not3 (by assumption))⟩⟩ | (first | exact subM.nil _ | exact subB.nil _ | exact subR.nil _ | ((repeat (first | exact subE.nil _ | refine subE.cons rfl rfl ?_ | refine subE.cons' rfl (fun _ => rfl) ?_ | (refine subE.cons rfl ?_ ?_; · (simp; done)))); done) | ((repeat (first | exact subM.nil _ | refine subM.cons rfl rfl rfl ?_)); done) | ((repeat (first | exact subB.nil _ | refine subB.cons rfl ?_)); done) | ((repeat (first | exact subR.nil _ | refine subR.cons rfl rfl ?_)); done) | omega | (dsimp only; omega)) | skip))
      | ((with_reducible refine atBr ?_); (first | refine BrM.t rfl ?_ | refine BrM.f rfl ?_ | refine BrM.dec (fun _ => ?_) (fun _ => ?_) | refine BrM.mk (fun _ => ?_) (fun _ => ?_)) <;> conv => whnf)
      | ((with_reducible refine atAr ?_); refine Ar.i64 (by omega) (by omega) ?_; conv => whnf)
      | ((with_reducible refine atIndex ?_); refine Nx.sidx rfl rfl rfl Tryz.underlying9 rfl (by omega) (by omega) ?_)
      | ((with_reducible refine atRet ?_); refine Nx.ret [] Tryz.func22 rfl rfl ?_; (refine ⟨?_, rfl⟩; rw [fail (by first | exact bad1 (by omega) | exact bad2 (by omega) (by assumption) | exact bad3 (by assumption) (toList_eq (by assumption)))]; rfl))
      | ((with_reducible refine atOps ?_); refine goR 200 ?_; conv => whnf)
      | ((with_reducible refine atPlan ?_); refine Nx.runP (n := 200) rfl (by repeat (first | exact subB.nil _ | refine subB.cons rfl ?_)) ?_; conv => whnf)
      | ((with_reducible refine atAftL ?_); refine Nx.late ?_)
      | ((fail_if_success (with_reducible refine atRet ?_)); (fail_if_success (with_reducible refine atLoop ?_)); (fail_if_success (with_reducible refine atIn ?_)); (fail_if_success (with_reducible refine atDrawn ?_)); (fail_if_success (with_reducible refine atEnd ?_)); (with_reducible refine atRun ?_); refine goR 1 ?_; conv => whnf))
  rintro ⟨hd0, hd19, hlead, h48⟩
  repeat' (first
    | ((with_reducible refine atBr ?_); (first | refine BrM.t rfl ?_ | refine BrM.f rfl ?_ | refine BrM.dec (fun _ => ?_) (fun _ => ?_) | refine BrM.mk (fun _ => ?_) (fun _ => ?_)) <;> conv => whnf)
    | ((with_reducible refine atAr ?_); refine Ar.i64 (by omega) (by omega) ?_; conv => whnf)
    | (fail)
    | ((with_reducible refine atOps ?_); refine go 200 ?_; conv => whnf)
    | ((with_reducible refine atPlan ?_); refine Nx.runP (n := 200) rfl (by repeat (first | exact subB.nil _ | refine subB.cons rfl ?_)) ?_; conv => whnf)
    | ((with_reducible refine atAftL ?_); refine Nx.late ?_)
    | ((fail_if_success (with_reducible refine atRet ?_)); (fail_if_success (with_reducible refine atLoop ?_)); (fail_if_success (with_reducible refine atIn ?_)); (fail_if_success (with_reducible refine atDrawn ?_)); (fail_if_success (with_reducible refine atEnd ?_)); (with_reducible refine atRun ?_); refine go 200 ?_; conv => whnf))
  refine Nx.loop (X := Nat × Nat) (NbI d) (fun x => d.length - x.1)
    (fun x => [(2, iv 0), (3, bv false), (4, bv mb), (5, sv d), (6, iv (-(x.2 : Int))), (7, iv x.1)]) (fun _ => []) [] (fun x => [])
    (0, 0) ⟨Nat.zero_le _, by simp, rfl, by omega⟩ ?_ ?_ ?_ ?_ ?_
  · repeat (first | exact subE.nil _ | refine subE.cons rfl rfl ?_ | refine subE.cons' rfl (fun _ => rfl) ?_)
  · repeat (first | exact subM.nil _ | refine subM.cons rfl rfl rfl ?_)
  · repeat (first | exact subB.nil _ | refine subB.cons rfl ?_)
  · repeat (first | exact subR.nil _ | refine subR.cons rfl rfl ?_)
  intro x hx ih
  obtain ⟨k, u⟩ := x
  have hk := hx.k
  have hdg := hx.dig
  have hv := hx.v
  have hb := hx.b
  simp only at hk hdg hv hb
  by_cases hlt : k < d.length
  · have hr := byteAt_range d k
    have hbad := bad4 k hlt
    have hval := val_take hlt
    rw [← hv] at hval
    have hbb := byteAt_nat hlt
    have h5 := bad5 (k + 1)
    rw [hval] at h5
    have hdgs := take_dig hlt hdg
    have hig : isDig d[k] ↔ 48 ≤ byteAt d k ∧ byteAt d k ≤ 57 := by rw [hbb]; unfold isDig; omega
    obtain ⟨b, hbe⟩ : ∃ b, b = byteAt d k := ⟨_, rfl⟩
    rw [← hbe] at hr hbad hbb hig
    obtain ⟨c, hc⟩ : ∃ c, c = d[k].toNat - 48 := ⟨_, rfl⟩
    rw [← hc] at hval h5
    have hbc : 48 ≤ b → b = c + 48 := fun h => by omega
    have nx : 48 ≤ b → b ≤ 57 → ¬ 9223372036854775808 < u * 10 + c → NbI d (k + 1, u * 10 + c) := fun h1 h2 h3 => ⟨hlt, hdgs (hig.2 ⟨h1, h2⟩), hval.symm, by show u * 10 + c ≤ _; omega⟩
    clear hx
    repeat' (first
      | ((with_reducible refine atBr ?_); refine BrM.not (by omega) ?_; conv => whnf)
      | ((with_reducible refine atBr ?_); refine BrM.yes (by omega) ?_; conv => whnf)
      | ((with_reducible refine atAr ?_); refine Ar.to (k := .i64) ((-((u*10+c:Nat):Int))) (by omega) ⟨by omega, by omega⟩ ?_; conv => whnf)
      | ((with_reducible refine atAr ?_); refine Ar.to (k := .i64) (((k+1:Nat):Int)) (by omega) ⟨by omega, by omega⟩ ?_; conv => whnf)
      | ((with_reducible refine atBr ?_); (first | refine BrM.t rfl ?_ | refine BrM.f rfl ?_ | refine BrM.dec (fun _ => ?_) (fun _ => ?_) | refine BrM.mk (fun _ => ?_) (fun _ => ?_)) <;> conv => whnf)
      | ((with_reducible refine atAr ?_); refine Ar.i64 (by omega) (by omega) ?_; conv => whnf)
      | ((with_reducible refine atIndex ?_); refine Nx.sidx rfl rfl rfl Tryz.underlying9 rfl (by omega) (by omega) ?_)
      | (rw [← hbe])
      | ((with_reducible refine atAr ?_); refine Ar.ok (k := .u8) ⟨by omega, by omega⟩ ?_; conv => whnf)
      | ((with_reducible refine atRet ?_); refine Nx.ret [] Tryz.func22 rfl rfl ?_; (refine ⟨?_, rfl⟩; rw [fail (by first | exact hbad (by omega) | exact h5 (by omega))]; rfl))
      | ((with_reducible refine atIn ?_); refine Nx.weak ((ih (k + 1, u * 10 + c) (nx (by omega) (by omega) (by omega)) (by show d.length - (k + 1) < d.length - k; omega))) ?_ ?_ ?_ ?_ <;> (first | exact subM.nil _ | exact subB.nil _ | exact subR.nil _ | ((repeat (first | exact subE.nil _ | refine subE.cons rfl rfl ?_ | refine subE.cons' rfl (fun _ => rfl) ?_ | (refine subE.cons rfl ?_ ?_; · (simp; done)))); done) | ((repeat (first | exact subM.nil _ | refine subM.cons rfl rfl rfl ?_)); done) | ((repeat (first | exact subB.nil _ | refine subB.cons rfl ?_)); done) | ((repeat (first | exact subR.nil _ | refine subR.cons rfl rfl ?_)); done) | omega | (dsimp only; omega) | (skip) | skip))
      | ((with_reducible refine atOps ?_); refine go 200 ?_; conv => whnf)
      | ((with_reducible refine atPlan ?_); refine Nx.runP (n := 200) rfl (by repeat (first | exact subB.nil _ | refine subB.cons rfl ?_)) ?_; conv => whnf)
      | ((with_reducible refine atAftL ?_); refine Nx.late ?_)
      | ((fail_if_success (with_reducible refine atRet ?_)); (fail_if_success (with_reducible refine atLoop ?_)); (fail_if_success (with_reducible refine atIn ?_)); (fail_if_success (with_reducible refine atDrawn ?_)); (fail_if_success (with_reducible refine atEnd ?_)); (with_reducible refine atRun ?_); refine go 200 ?_; conv => whnf))
    all_goals trace_state
  · have hkl : k = d.length := by omega
    subst hkl
    rw [List.take_length] at hdg hv
    have key : (mb = true → numOf s = some (-(u : Int))) ∧ (mb = false → (9223372036854775808 ≤ u → numOf s = none) ∧ (u < 9223372036854775808 → numOf s = some (u : Int))) := by
      refine ⟨fun h => ?_, fun h => ⟨fun h2 => bad6 h (by omega), fun h2 => ?_⟩⟩
      · rw [hv]; exact neg h hdg hd0 hlead (h48 h) (by omega)
      · rw [hv]; exact pos h hdg hd0 hlead (by omega)
    clear hx ih
    repeat' (first
      | ((with_reducible refine atBr ?_); refine BrM.not (by omega) ?_; conv => whnf)
      | ((with_reducible refine atBr ?_); refine BrM.yes (by omega) ?_; conv => whnf)
      | ((with_reducible refine atAr ?_); refine Ar.to (k := .i64) ((u:Int)) (by omega) ⟨by omega, by omega⟩ ?_; conv => whnf)
      | ((with_reducible refine atBr ?_); (first | refine BrM.t rfl ?_ | refine BrM.f rfl ?_ | refine BrM.dec (fun _ => ?_) (fun _ => ?_) | refine BrM.mk (fun _ => ?_) (fun _ => ?_)) <;> conv => whnf)
      | ((with_reducible refine atAr ?_); refine Ar.i64 (by omega) (by omega) ?_; conv => whnf)
      | ((with_reducible refine atRet ?_); refine Nx.ret [] Tryz.func22 rfl rfl ?_; (refine ⟨?_, rfl⟩; first | (rw [fail ((key.2 (by assumption)).1 (by omega))]; rfl) | (rw [good _ (key.1 (by assumption))]; rfl) | (rw [good _ ((key.2 (by assumption)).2 (by omega))]; rfl)))
      | ((with_reducible refine atOps ?_); refine go 200 ?_; conv => whnf)
      | ((with_reducible refine atPlan ?_); refine Nx.runP (n := 200) rfl (by repeat (first | exact subB.nil _ | refine subB.cons rfl ?_)) ?_; conv => whnf)
      | ((with_reducible refine atAftL ?_); refine Nx.late ?_)
      | ((fail_if_success (with_reducible refine atRet ?_)); (fail_if_success (with_reducible refine atLoop ?_)); (fail_if_success (with_reducible refine atIn ?_)); (fail_if_success (with_reducible refine atDrawn ?_)); (fail_if_success (with_reducible refine atEnd ?_)); (with_reducible refine atRun ?_); refine go 200 ?_; conv => whnf))
end Go.Proofs.YtkfnbpbhcnekiaaGreatDoor

/-
  DERIVED: THE SHELF's CONTRACTS AT THIS DUMP, IN PLAIN WORDS (tools/lay-plain.mjs out of 'TryzShelf.lean', which tools/lay-shelf.mjs wrote): THE SAME DECLARATIONS UNDER THE SAME NAMES: 'import', 'namespace', 'open', 'def', 'theorem' AND NOTHING ELSE: no command of the shelf's: FOR A HAND-IN. Each laying: the table of numbers ('.._ren') and one theorem, a field a fact of the dump's own or the kernel's comparison; each contract: ONE APPLICATION.
-/
namespace Go.Proofs
open Go.Shelf
def Tryz.lays156_ren : Go.Shelf.Ren := ⟨fun | 156 => 32 | 165 => 55 | 166 => 56 | 169 => 57 | 240 => 72 | 241 => 73 | 276 => 84 | 277 => 85 | n => n, fun | 31 => 56 | 9 => 9 | 3 => 3 | 4 => 4 | 0 => 0 | 20 => 20 | 72 => 106 | 76 => 108 | 70 => 104 | 37 => 66 | 75 => 32 | 127 => 130 | 164 => 153 | 5 => 5 | 80 => 93 | n => n, fun | n => n⟩
theorem Tryz.lays156 : Go.Proofs.Lays.n156 Tryz.prog Tryz.lays156_ren := {
  mixed := by kernel_rfl
  f156 := Tryz.func32.trans (congrArg some (by kernel_rfl))
  f165 := Tryz.func55.trans (congrArg some (by kernel_rfl))
  f166 := Tryz.func56.trans (congrArg some (by kernel_rfl))
  f169 := Tryz.func57.trans (congrArg some (by kernel_rfl))
  f240 := Tryz.func72.trans (congrArg some (by kernel_rfl))
  f241 := Tryz.func73.trans (congrArg some (by kernel_rfl))
  f276 := Tryz.func84.trans (congrArg some (by kernel_rfl))
  f277 := Tryz.func85.trans (congrArg some (by kernel_rfl))
  t0 := Tryz.underlying0
  a0 := Tryz.isAgg0
  z0 := Tryz.sizeOf0
  v0 := Tryz.zeroValue0
  t3 := Tryz.underlying3
  a3 := Tryz.isAgg3
  z3 := Tryz.sizeOf3
  v3 := Tryz.zeroValue3
  t4 := Tryz.underlying4
  a4 := Tryz.isAgg4
  z4 := Tryz.sizeOf4
  v4 := Tryz.zeroValue4
  t9 := Tryz.underlying9
  a9 := Tryz.isAgg9
  z9 := Tryz.sizeOf9
  v9 := Tryz.zeroValue9
  t20 := Tryz.underlying20
  a20 := Tryz.isAgg20
  z20 := Tryz.sizeOf20
  v20 := Tryz.zeroValue20
  t31 := Tryz.underlying56
  a31 := Tryz.isAgg56
  z31 := Tryz.sizeOf56
  v31 := Tryz.zeroValue56
  t37 := Tryz.underlying66
  a37 := Tryz.isAgg66
  z37 := Tryz.sizeOf66
  v37 := Tryz.zeroValue66
  t70 := Tryz.underlying104
  a70 := Tryz.isAgg104
  z70 := Tryz.sizeOf104
  v70 := Tryz.zeroValue104
  t72 := Tryz.underlying106
  a72 := Tryz.isAgg106
  z72 := Tryz.sizeOf106
  v72 := Tryz.zeroValue106
  t75 := Tryz.underlying32
  a75 := Tryz.isAgg32
  z75 := Tryz.sizeOf32
  v75 := Tryz.zeroValue32
  t76 := Tryz.underlying108
  a76 := Tryz.isAgg108
  z76 := Tryz.sizeOf108
  v76 := Tryz.zeroValue108
  t127 := Tryz.underlying130
  a127 := Tryz.isAgg130
  z127 := Tryz.sizeOf130
  v127 := Tryz.zeroValue130
  t164 := Tryz.underlying153
  a164 := Tryz.isAgg153
  z164 := Tryz.sizeOf153
  v164 := Tryz.zeroValue153 }
theorem Tryz.Builder_Extra_156 : Builder.Extra Tryz.prog Tryz.lays156_ren := {
  sizeBuilder := by kernel_rfl
  liesBuilder := by kernel_rfl
  t5 := Tryz.underlying5
  a5 := Tryz.isAgg5
  z5 := Tryz.sizeOf5
  v5 := Tryz.zeroValue5
  infoByte := by kernel_rfl
  cellsByte := by kernel_rfl
  sizeByte := by kernel_rfl
  neB5 := by decide }
open Go.RowKit in
/-- No element: the empty string; the world is as it was. (Whatever the slice's address and capacity: a nil slice too.) (LAID: no walk: one application.) -/
theorem Tryz.strings_Join_none (a : Option Addr) (c : Nat) (sep : ByteArray) (w : World) :
    Calls Tryz.prog 32 #[.slice a 0 c, .string sep] w fun e w' => e = .returned (.string ⟨#[]⟩) ∧ w' = w := Any.strings_Join_none Tryz.lays156 Tryz.Builder_Extra_156 a c sep w
open Go.RowKit in
/-- strings.Join: "Join concatenates the elements of its first argument to create a single string. The separator string sep is placed between elements in the resulting string.": HOWEVER MANY ELEMENTS. Below the heap's end the world is as it was. (LAID: no walk: one application.) -/
theorem Tryz.strings_Join (bk o c : Nat) (xs : List ByteArray) (sep : ByteArray) (w : World) (hcells : ∀ (j : Nat) x, xs[j]? = some x → w.cell? ⟨bk, o + j, none⟩ = some (.string x)) (hbk : bk < w.heap.size) (hN : xs.length ≤ 140737488355328) (hcap : xs.length ≤ c) (hlen : (Lib.join (xs.map (·.data.toList)) sep.data.toList).length ≤ 140737488355328) :
    Calls Tryz.prog 32 #[.slice (some ⟨bk, o, none⟩) xs.length c, .string sep] w fun e w' => e = .returned (.string ⟨(Lib.join (xs.map (·.data.toList)) sep.data.toList).toArray⟩) ∧ Below w.heap.size w w' := Any.strings_Join Tryz.lays156 Tryz.Builder_Extra_156 bk o c xs sep w hcells hbk hN hcap hlen
def Tryz.laysM173_ren : Go.Shelf.Ren := ⟨fun | 173 => 53 | 246 => 71 | 283 => 80 | 284 => 81 | 285 => 82 | 286 => 83 | 129 => 93 | 317 => 92 | 318 => 94 | 319 => 95 | 320 => 96 | 337 => 107 | 338 => 108 | n => n, fun | 2 => 2 | 3 => 3 | 9 => 9 | 4 => 4 | 171 => 147 | 0 => 0 | 53 => 148 | 37 => 66 | 5 => 5 | 173 => 151 | 212 => 163 | 51 => 164 | 20 => 20 | 213 => 165 | 46 => 167 | 232 => 187 | 233 => 188 | n => n, fun | 17 => 3 | 18 => 9 | 19 => 10 | n => n⟩
theorem Tryz.laysM173 : Go.Proofs.LaysM.n173 Tryz.prog Tryz.laysM173_ren := {
  mixed := by kernel_rfl
  f129 := Tryz.func93.trans (congrArg some (by kernel_rfl))
  f173 := Tryz.func53.trans (congrArg some (by kernel_rfl))
  f246 := Tryz.func71.trans (congrArg some (by kernel_rfl))
  f283 := Tryz.func80.trans (congrArg some (by kernel_rfl))
  f284 := Tryz.func81.trans (congrArg some (by kernel_rfl))
  f285 := Tryz.func82.trans (congrArg some (by kernel_rfl))
  f286 := Tryz.func83.trans (congrArg some (by kernel_rfl))
  f317 := Tryz.func92.trans (congrArg some (by kernel_rfl))
  f318 := Tryz.func94.trans (congrArg some (by kernel_rfl))
  f319 := Tryz.func95.trans (congrArg some (by kernel_rfl))
  f320 := Tryz.func96.trans (congrArg some (by kernel_rfl))
  f337 := Tryz.func107.trans (congrArg some (by kernel_rfl))
  f338 := Tryz.func108.trans (congrArg some (by kernel_rfl))
  t0 := Tryz.underlying0
  a0 := Tryz.isAgg0
  z0 := Tryz.sizeOf0
  v0 := Tryz.zeroValue0
  t2 := Tryz.underlying2
  a2 := Tryz.isAgg2
  z2 := Tryz.sizeOf2
  v2 := Tryz.zeroValue2
  t3 := Tryz.underlying3
  a3 := Tryz.isAgg3
  z3 := Tryz.sizeOf3
  v3 := Tryz.zeroValue3
  t4 := Tryz.underlying4
  a4 := Tryz.isAgg4
  z4 := Tryz.sizeOf4
  v4 := Tryz.zeroValue4
  t5 := Tryz.underlying5
  a5 := Tryz.isAgg5
  z5 := Tryz.sizeOf5
  v5 := Tryz.zeroValue5
  t9 := Tryz.underlying9
  a9 := Tryz.isAgg9
  z9 := Tryz.sizeOf9
  v9 := Tryz.zeroValue9
  t20 := Tryz.underlying20
  a20 := Tryz.isAgg20
  z20 := Tryz.sizeOf20
  v20 := Tryz.zeroValue20
  t37 := Tryz.underlying66
  a37 := Tryz.isAgg66
  z37 := Tryz.sizeOf66
  v37 := Tryz.zeroValue66
  t46 := Tryz.underlying167
  a46 := Tryz.isAgg167
  z46 := Tryz.sizeOf167
  v46 := Tryz.zeroValue167
  t51 := Tryz.underlying164
  a51 := Tryz.isAgg164
  z51 := Tryz.sizeOf164
  v51 := Tryz.zeroValue164
  t53 := Tryz.underlying148
  a53 := Tryz.isAgg148
  z53 := Tryz.sizeOf148
  v53 := Tryz.zeroValue148
  t171 := Tryz.underlying147
  a171 := Tryz.isAgg147
  z171 := Tryz.sizeOf147
  v171 := Tryz.zeroValue147
  t173 := Tryz.underlying151
  a173 := Tryz.isAgg151
  z173 := Tryz.sizeOf151
  v173 := Tryz.zeroValue151
  t212 := Tryz.underlying163
  a212 := Tryz.isAgg163
  z212 := Tryz.sizeOf163
  v212 := Tryz.zeroValue163
  t213 := Tryz.underlying165
  a213 := Tryz.isAgg165
  z213 := Tryz.sizeOf165
  t232 := Tryz.underlying187
  a232 := Tryz.isAgg187
  z232 := Tryz.sizeOf187
  v232 := Tryz.zeroValue187
  t233 := Tryz.underlying188
  a233 := Tryz.isAgg188
  z233 := Tryz.sizeOf188
  v233 := Tryz.zeroValue188
  g17 := by kernel_rfl
  g18 := by kernel_rfl
  g19 := by kernel_rfl
  i0 := by kernel_rfl
  i2 := by kernel_rfl
  i3 := by kernel_rfl
  i4 := by kernel_rfl
  i5 := by kernel_rfl
  i9 := by kernel_rfl
  i20 := by kernel_rfl
  i37 := by kernel_rfl
  i46 := by kernel_rfl
  i51 := by kernel_rfl
  i53 := by kernel_rfl
  i171 := by kernel_rfl
  i173 := by kernel_rfl
  i212 := by kernel_rfl
  i232 := by kernel_rfl
  i233 := by kernel_rfl
  m17 := by kernel_rfl
  m18 := by kernel_rfl
  m19 := by kernel_rfl }
open Go.RowKit Go.Sort Go.Lib in
/-- strconv.FormatInt: "FormatInt returns the string representation of i in the given base": AT BASE 10: i's decimal numeral, for every int64. (LAID: no walk: one application.) -/
theorem Tryz.strconv_FormatInt_10 (n : Int) (h0 : -9223372036854775808 ≤ n) (h1 : n ≤ 9223372036854775807) (w : World) (htab : Lib.TabIs Tryz.prog w "internal/strconv.uint64pow10" .u64 Lib.pow10Tab) :
    Calls Tryz.prog 53 #[.int .i64 n, .int .i64 10] w fun e w' => e = .returned (.string ⟨(Lib.itoa n).toArray⟩) ∧ ∃ k os, w' = grow (w.drewN k) os := Any.strconv_FormatInt_10 Tryz.laysM173 n h0 h1 w htab
def Tryz.laysC174_ren : Go.Shelf.Ren := ⟨fun | 174 => 78 | 247 => 90 | 245 => 91 | 287 => 102 | 279 => 103 | 280 => 104 | 281 => 105 | 282 => 106 | 321 => 111 | 322 => 112 | 316 => 113 | 171 => 115 | 205 => 114 | 243 => 116 | 246 => 71 | 283 => 80 | 284 => 81 | 285 => 82 | 286 => 83 | 129 => 93 | 317 => 92 | 318 => 94 | 319 => 95 | 320 => 96 | 337 => 107 | 338 => 108 | n => n, fun | 9 => 9 | 3 => 3 | 2 => 2 | 75 => 32 | 85 => 144 | 4 => 4 | 167 => 169 | 5 => 5 | 53 => 148 | 175 => 170 | 46 => 167 | 168 => 172 | 37 => 66 | 0 => 0 | 210 => 185 | 21 => 21 | 127 => 130 | 145 => 191 | 143 => 189 | 171 => 147 | 173 => 151 | 212 => 163 | 51 => 164 | 20 => 20 | 213 => 165 | 232 => 187 | 233 => 188 | 80 => 93 | n => n, fun | 15 => 7 | 16 => 8 | 17 => 3 | 18 => 9 | 19 => 10 | n => n⟩
theorem Tryz.laysC174 : Go.Proofs.LaysC.n174 Tryz.prog Tryz.laysC174_ren := {
  mixed := by kernel_rfl
  f129 := Tryz.func93.trans (congrArg some (by kernel_rfl))
  f171 := Tryz.func115.trans (congrArg some (by kernel_rfl))
  f174 := Tryz.func78.trans (congrArg some (by kernel_rfl))
  f205 := Tryz.func114.trans (congrArg some (by kernel_rfl))
  f243 := Tryz.func116.trans (congrArg some (by kernel_rfl))
  f245 := Tryz.func91.trans (congrArg some (by kernel_rfl))
  f246 := Tryz.func71.trans (congrArg some (by kernel_rfl))
  f247 := Tryz.func90.trans (congrArg some (by kernel_rfl))
  f279 := Tryz.func103.trans (congrArg some (by kernel_rfl))
  f280 := Tryz.func104.trans (congrArg some (by kernel_rfl))
  f281 := Tryz.func105.trans (congrArg some (by kernel_rfl))
  f282 := Tryz.func106.trans (congrArg some (by kernel_rfl))
  f283 := Tryz.func80.trans (congrArg some (by kernel_rfl))
  f284 := Tryz.func81.trans (congrArg some (by kernel_rfl))
  f285 := Tryz.func82.trans (congrArg some (by kernel_rfl))
  f286 := Tryz.func83.trans (congrArg some (by kernel_rfl))
  f287 := Tryz.func102.trans (congrArg some (by kernel_rfl))
  f316 := Tryz.func113.trans (congrArg some (by kernel_rfl))
  f317 := Tryz.func92.trans (congrArg some (by kernel_rfl))
  f318 := Tryz.func94.trans (congrArg some (by kernel_rfl))
  f319 := Tryz.func95.trans (congrArg some (by kernel_rfl))
  f320 := Tryz.func96.trans (congrArg some (by kernel_rfl))
  f321 := Tryz.func111.trans (congrArg some (by kernel_rfl))
  f322 := Tryz.func112.trans (congrArg some (by kernel_rfl))
  f337 := Tryz.func107.trans (congrArg some (by kernel_rfl))
  f338 := Tryz.func108.trans (congrArg some (by kernel_rfl))
  t0 := Tryz.underlying0
  a0 := Tryz.isAgg0
  z0 := Tryz.sizeOf0
  v0 := Tryz.zeroValue0
  t2 := Tryz.underlying2
  a2 := Tryz.isAgg2
  z2 := Tryz.sizeOf2
  v2 := Tryz.zeroValue2
  t3 := Tryz.underlying3
  a3 := Tryz.isAgg3
  z3 := Tryz.sizeOf3
  v3 := Tryz.zeroValue3
  t4 := Tryz.underlying4
  a4 := Tryz.isAgg4
  z4 := Tryz.sizeOf4
  v4 := Tryz.zeroValue4
  t5 := Tryz.underlying5
  a5 := Tryz.isAgg5
  z5 := Tryz.sizeOf5
  v5 := Tryz.zeroValue5
  t9 := Tryz.underlying9
  a9 := Tryz.isAgg9
  z9 := Tryz.sizeOf9
  v9 := Tryz.zeroValue9
  t20 := Tryz.underlying20
  a20 := Tryz.isAgg20
  z20 := Tryz.sizeOf20
  v20 := Tryz.zeroValue20
  t21 := Tryz.underlying21
  a21 := Tryz.isAgg21
  z21 := Tryz.sizeOf21
  v21 := Tryz.zeroValue21
  t37 := Tryz.underlying66
  a37 := Tryz.isAgg66
  z37 := Tryz.sizeOf66
  v37 := Tryz.zeroValue66
  t46 := Tryz.underlying167
  a46 := Tryz.isAgg167
  z46 := Tryz.sizeOf167
  v46 := Tryz.zeroValue167
  t51 := Tryz.underlying164
  a51 := Tryz.isAgg164
  z51 := Tryz.sizeOf164
  v51 := Tryz.zeroValue164
  t53 := Tryz.underlying148
  a53 := Tryz.isAgg148
  z53 := Tryz.sizeOf148
  v53 := Tryz.zeroValue148
  t75 := Tryz.underlying32
  a75 := Tryz.isAgg32
  z75 := Tryz.sizeOf32
  v75 := Tryz.zeroValue32
  t85 := Tryz.underlying144
  a85 := Tryz.isAgg144
  z85 := Tryz.sizeOf144
  v85 := Tryz.zeroValue144
  t127 := Tryz.underlying130
  a127 := Tryz.isAgg130
  z127 := Tryz.sizeOf130
  v127 := Tryz.zeroValue130
  t143 := Tryz.underlying189
  a143 := Tryz.isAgg189
  z143 := Tryz.sizeOf189
  v143 := Tryz.zeroValue189
  t145 := Tryz.underlying191
  a145 := Tryz.isAgg191
  z145 := Tryz.sizeOf191
  v145 := Tryz.zeroValue191
  t167 := Tryz.underlying169
  a167 := Tryz.isAgg169
  z167 := Tryz.sizeOf169
  v167 := Tryz.zeroValue169
  t168 := Tryz.underlying172
  a168 := Tryz.isAgg172
  z168 := Tryz.sizeOf172
  v168 := Tryz.zeroValue172
  t171 := Tryz.underlying147
  a171 := Tryz.isAgg147
  z171 := Tryz.sizeOf147
  v171 := Tryz.zeroValue147
  t173 := Tryz.underlying151
  a173 := Tryz.isAgg151
  z173 := Tryz.sizeOf151
  v173 := Tryz.zeroValue151
  t175 := Tryz.underlying170
  a175 := Tryz.isAgg170
  z175 := Tryz.sizeOf170
  v175 := Tryz.zeroValue170
  t210 := Tryz.underlying185
  a210 := Tryz.isAgg185
  z210 := Tryz.sizeOf185
  v210 := Tryz.zeroValue185
  t212 := Tryz.underlying163
  a212 := Tryz.isAgg163
  z212 := Tryz.sizeOf163
  v212 := Tryz.zeroValue163
  t213 := Tryz.underlying165
  a213 := Tryz.isAgg165
  z213 := Tryz.sizeOf165
  t232 := Tryz.underlying187
  a232 := Tryz.isAgg187
  z232 := Tryz.sizeOf187
  v232 := Tryz.zeroValue187
  t233 := Tryz.underlying188
  a233 := Tryz.isAgg188
  z233 := Tryz.sizeOf188
  v233 := Tryz.zeroValue188
  g15 := by kernel_rfl
  g16 := by kernel_rfl
  g17 := by kernel_rfl
  g18 := by kernel_rfl
  g19 := by kernel_rfl
  t80 := Tryz.underlying93
  a80 := Tryz.isAgg93
  z80 := Tryz.sizeOf93
  v80 := Tryz.zeroValue93
  i0 := by kernel_rfl
  i2 := by kernel_rfl
  i3 := by kernel_rfl
  i4 := by kernel_rfl
  i5 := by kernel_rfl
  i9 := by kernel_rfl
  i20 := by kernel_rfl
  i21 := by kernel_rfl
  i37 := by kernel_rfl
  i46 := by kernel_rfl
  i51 := by kernel_rfl
  i53 := by kernel_rfl
  i75 := by kernel_rfl
  i80 := by kernel_rfl
  i85 := by kernel_rfl
  i127 := by kernel_rfl
  i143 := by kernel_rfl
  i145 := by kernel_rfl
  i167 := by kernel_rfl
  i168 := by kernel_rfl
  i171 := by kernel_rfl
  i173 := by kernel_rfl
  i175 := by kernel_rfl
  i210 := by kernel_rfl
  i212 := by kernel_rfl
  i232 := by kernel_rfl
  i233 := by kernel_rfl
  m15 := by kernel_rfl
  m16 := by kernel_rfl
  m17 := by kernel_rfl
  m18 := by kernel_rfl
  m19 := by kernel_rfl
  c0 := by kernel_rfl
  c2 := by kernel_rfl
  c3 := by kernel_rfl
  c4 := by kernel_rfl
  c5 := by kernel_rfl
  c9 := by kernel_rfl
  c20 := by kernel_rfl
  c21 := by kernel_rfl
  c37 := by kernel_rfl
  c46 := by kernel_rfl
  c51 := by kernel_rfl
  c53 := by kernel_rfl
  c75 := by kernel_rfl
  c80 := by kernel_rfl
  c85 := by kernel_rfl
  c127 := by kernel_rfl
  c143 := by kernel_rfl
  c145 := by kernel_rfl
  c167 := by kernel_rfl
  c168 := by kernel_rfl
  c171 := by kernel_rfl
  c173 := by kernel_rfl
  c175 := by kernel_rfl
  c210 := by kernel_rfl
  c212 := by kernel_rfl
  c213 := by kernel_rfl
  c232 := by kernel_rfl
  c233 := by kernel_rfl }
open Go.RowKit in
/-- strconv.ParseInt(s, 10, 64), AT EVERY STRING THAT SPELLS AN int64 ('Lib.parseIntB 64 s.data.toList = .ok v'): v, AND NO ERROR. (LAID: no walk: one application.) -/
theorem Tryz.strconv_ParseInt_10_at64_ok (s : ByteArray) (hmax : s.size ≤ 9223372036854775806) (v : Int) (h : Lib.parseIntB 64 s.data.toList = .ok v) (w : World) :
    Calls Tryz.prog 78 #[.string s, .int .i64 10, .int .i64 64] w fun e w' => e = .returned (.tuple #[.int .i64 v, .nilIface]) ∧ (w' = w ∨ ∃ t, w' = Lib.bytesWorld w 5 t) := Any.strconv_ParseInt_10_at64_ok Tryz.laysC174 s hmax v h w
open Go.RowKit in
/-- strconv.ParseInt(s, 10, 64), AT EVERY STRING THAT IS NO DECIMAL NUMERAL: 0, AND AN ERROR THAT IS NOT nil: a *NumError in a new block N: {Func: "ParseInt", Num: s's bytes, Err: what the variable ErrSyntax holds}. Of what was there nothing has turned. (LAID: no walk: one application.) -/
theorem Tryz.strconv_ParseInt_10_at64_syntax (s : ByteArray) (hlim : s.size ≤ 281474976710656) (h : Lib.parseIntB 64 s.data.toList = Lib.parseIntB 64 []) (ev : Value) (w : World) (hv : w.cell? ⟨7, 0, none⟩ = some ev) (hev : ev = .nilIface ∨ ∃ te pe, ev = .iface te pe) :
    Calls Tryz.prog 78 #[.string s, .int .i64 10, .int .i64 64] w fun e w' => ∃ N, e = .returned (.tuple #[.int .i64 (0), .iface 172 (.pointer (some ⟨N, 0, none⟩))]) ∧ w.heap.size ≤ N ∧ w'.heap[N]? = some (.cells #[.string ⟨#[80, 97, 114, 115, 101, 73, 110, 116]⟩, .string s, ev] 185 (0, 0)) ∧ Below w.heap.size w w' := Any.strconv_ParseInt_10_at64_syntax Tryz.laysC174 s hlim (h.trans rfl) ev w hv hev
open Go.RowKit in
/-- strconv.ParseInt(s, 10, 64), AT EVERY NUMERAL THAT NO int64 HOLDS: THE GREATEST OR THE LEAST int64, BY THE SIGN ('Lib.intSat 64'), AND AN ERROR THAT IS NOT nil: a *NumError in a new block N: {Func: "ParseInt", Num: s's bytes, Err: what the variable ErrRange holds}. Of what was there nothing has turned. (LAID: no walk: one application.) -/
theorem Tryz.strconv_ParseInt_10_at64_range (s : ByteArray) (hlim : s.size ≤ 281474976710656) (h : Lib.parseIntB 64 s.data.toList = .range) (ev : Value) (w : World) (hv : w.cell? ⟨8, 0, none⟩ = some ev) (hev : ev = .nilIface ∨ ∃ te pe, ev = .iface te pe) :
    Calls Tryz.prog 78 #[.string s, .int .i64 10, .int .i64 64] w fun e w' => ∃ N, e = .returned (.tuple #[.int .i64 (Lib.intSat 64 s.data.toList), .iface 172 (.pointer (some ⟨N, 0, none⟩))]) ∧ w.heap.size ≤ N ∧ w'.heap[N]? = some (.cells #[.string ⟨#[80, 97, 114, 115, 101, 73, 110, 116]⟩, .string s, ev] 185 (0, 0)) ∧ Below w.heap.size w w' := Any.strconv_ParseInt_10_at64_range Tryz.laysC174 s hlim h ev w hv hev
def Tryz.lays145_ren : Go.Shelf.Ren := ⟨fun | 145 => 62 | 220 => 77 | 219 => 89 | 217 => 98 | 225 => 99 | 224 => 100 | 267 => 101 | 266 => 109 | 314 => 110 | n => n, fun | 9 => 9 | 4 => 4 | 59 => 118 | 3 => 3 | 5 => 5 | 46 => 167 | 146 => 180 | 51 => 164 | n => n, fun | 1 => 4 | n => n⟩
theorem Tryz.lays145 : Go.Proofs.Lays.n145 Tryz.prog Tryz.lays145_ren := {
  mixed := by kernel_rfl
  f145 := Tryz.func62.trans (congrArg some (by kernel_rfl))
  f217 := Tryz.func98.trans (congrArg some (by kernel_rfl))
  f219 := Tryz.func89.trans (congrArg some (by kernel_rfl))
  f220 := Tryz.func77.trans (congrArg some (by kernel_rfl))
  f224 := Tryz.func100.trans (congrArg some (by kernel_rfl))
  f225 := Tryz.func99.trans (congrArg some (by kernel_rfl))
  f266 := Tryz.func109.trans (congrArg some (by kernel_rfl))
  f267 := Tryz.func101.trans (congrArg some (by kernel_rfl))
  f314 := Tryz.func110.trans (congrArg some (by kernel_rfl))
  t3 := Tryz.underlying3
  a3 := Tryz.isAgg3
  z3 := Tryz.sizeOf3
  v3 := Tryz.zeroValue3
  t4 := Tryz.underlying4
  a4 := Tryz.isAgg4
  z4 := Tryz.sizeOf4
  v4 := Tryz.zeroValue4
  t5 := Tryz.underlying5
  a5 := Tryz.isAgg5
  z5 := Tryz.sizeOf5
  v5 := Tryz.zeroValue5
  t9 := Tryz.underlying9
  a9 := Tryz.isAgg9
  z9 := Tryz.sizeOf9
  v9 := Tryz.zeroValue9
  t46 := Tryz.underlying167
  a46 := Tryz.isAgg167
  z46 := Tryz.sizeOf167
  v46 := Tryz.zeroValue167
  t51 := Tryz.underlying164
  a51 := Tryz.isAgg164
  z51 := Tryz.sizeOf164
  v51 := Tryz.zeroValue164
  t59 := Tryz.underlying118
  a59 := Tryz.isAgg118
  z59 := Tryz.sizeOf118
  v59 := Tryz.zeroValue118
  t146 := Tryz.underlying180
  a146 := Tryz.isAgg180
  z146 := Tryz.sizeOf180
  v146 := Tryz.zeroValue180
  g1 := by kernel_rfl }
open Go.RowKit Go.Lib in
/-- strings.Cut: "Cut slices s around the first instance of sep, returning the text before and after sep. The found result reports whether sep appears in s. If sep does not appear in s, cut returns s, "", false.": IT RETURNS 'Lib.cut s sep'; the world is as it was but for the count of draws. (LAID: no walk: one application.) -/
theorem Tryz.strings_Cut (s sep : ByteArray) (m : Int) (w : World) (hs : s.size < 4294967281) (hm : w.cell? ⟨4, 0, none⟩ = some (.int .i64 m)) :
    Calls Tryz.prog 62 #[.string s, .string sep] w fun e w' => e = .returned (.tuple #[.string ⟨(Lib.cut s.data.toList sep.data.toList).1.toArray⟩, .string ⟨(Lib.cut s.data.toList sep.data.toList).2.1.toArray⟩, .bool (Lib.cut s.data.toList sep.data.toList).2.2]) ∧ ∃ n, w' = w.drewN n := Any.strings_Cut Tryz.lays145 s sep m w hs hm
def Tryz.lays99_ren : Go.Shelf.Ren := ⟨fun | 99 => 51 | 206 => 68 | n => n, fun | 9 => 9 | 4 => 4 | 3 => 3 | n => n, fun | n => n⟩
theorem Tryz.lays99 : Go.Proofs.Lays.n99 Tryz.prog Tryz.lays99_ren := {
  mixed := by kernel_rfl
  f99 := Tryz.func51.trans (congrArg some (by kernel_rfl))
  f206 := Tryz.func68.trans (congrArg some (by kernel_rfl))
  t3 := Tryz.underlying3
  a3 := Tryz.isAgg3
  z3 := Tryz.sizeOf3
  v3 := Tryz.zeroValue3
  t4 := Tryz.underlying4
  a4 := Tryz.isAgg4
  z4 := Tryz.sizeOf4
  v4 := Tryz.zeroValue4
  t9 := Tryz.underlying9
  a9 := Tryz.isAgg9
  z9 := Tryz.sizeOf9
  v9 := Tryz.zeroValue9 }
open Go.RowKit Go.Lib in
/-- strings.HasPrefix: "HasPrefix reports whether the string s begins with prefix.": IT RETURNS 'Lib.hasPrefix s prefix'; the world is as it was. (LAID: no walk: one application.) -/
theorem Tryz.strings_HasPrefix (s p : ByteArray) (w : World) :
    Calls Tryz.prog 51 #[.string s, .string p] w fun e w' => e = .returned (.bool (Lib.hasPrefix s.data.toList p.data.toList)) ∧ w' = w := Any.strings_HasPrefix Tryz.lays99 s p w
def Tryz.lays146_ren : Go.Shelf.Ren := ⟨fun | 146 => 40 | 221 => 61 | 268 => 74 | 138 => 75 | 143 => 76 | 195 => 86 | 197 => 87 | 218 => 88 | 219 => 89 | 260 => 97 | 217 => 98 | 225 => 99 | 224 => 100 | 267 => 101 | 266 => 109 | 314 => 110 | n => n, fun | 9 => 9 | 31 => 56 | 3 => 3 | 4 => 4 | 0 => 0 | 105 => 157 | 21 => 21 | 5 => 5 | 46 => 167 | 119 => 176 | 139 => 179 | 138 => 178 | 146 => 180 | 51 => 164 | n => n, fun | 1 => 4 | 3 => 5 | 4 => 6 | n => n⟩
theorem Tryz.lays146 : Go.Proofs.Lays.n146 Tryz.prog Tryz.lays146_ren := {
  mixed := by kernel_rfl
  f138 := Tryz.func75.trans (congrArg some (by kernel_rfl))
  f143 := Tryz.func76.trans (congrArg some (by kernel_rfl))
  f146 := Tryz.func40.trans (congrArg some (by kernel_rfl))
  f195 := Tryz.func86.trans (congrArg some (by kernel_rfl))
  f197 := Tryz.func87.trans (congrArg some (by kernel_rfl))
  f217 := Tryz.func98.trans (congrArg some (by kernel_rfl))
  f218 := Tryz.func88.trans (congrArg some (by kernel_rfl))
  f219 := Tryz.func89.trans (congrArg some (by kernel_rfl))
  f221 := Tryz.func61.trans (congrArg some (by kernel_rfl))
  f224 := Tryz.func100.trans (congrArg some (by kernel_rfl))
  f225 := Tryz.func99.trans (congrArg some (by kernel_rfl))
  f260 := Tryz.func97.trans (congrArg some (by kernel_rfl))
  f266 := Tryz.func109.trans (congrArg some (by kernel_rfl))
  f267 := Tryz.func101.trans (congrArg some (by kernel_rfl))
  f268 := Tryz.func74.trans (congrArg some (by kernel_rfl))
  f314 := Tryz.func110.trans (congrArg some (by kernel_rfl))
  t0 := Tryz.underlying0
  a0 := Tryz.isAgg0
  z0 := Tryz.sizeOf0
  v0 := Tryz.zeroValue0
  t3 := Tryz.underlying3
  a3 := Tryz.isAgg3
  z3 := Tryz.sizeOf3
  v3 := Tryz.zeroValue3
  t4 := Tryz.underlying4
  a4 := Tryz.isAgg4
  z4 := Tryz.sizeOf4
  v4 := Tryz.zeroValue4
  t5 := Tryz.underlying5
  a5 := Tryz.isAgg5
  z5 := Tryz.sizeOf5
  v5 := Tryz.zeroValue5
  t9 := Tryz.underlying9
  a9 := Tryz.isAgg9
  z9 := Tryz.sizeOf9
  v9 := Tryz.zeroValue9
  t21 := Tryz.underlying21
  a21 := Tryz.isAgg21
  z21 := Tryz.sizeOf21
  v21 := Tryz.zeroValue21
  t31 := Tryz.underlying56
  a31 := Tryz.isAgg56
  z31 := Tryz.sizeOf56
  v31 := Tryz.zeroValue56
  t46 := Tryz.underlying167
  a46 := Tryz.isAgg167
  z46 := Tryz.sizeOf167
  v46 := Tryz.zeroValue167
  t51 := Tryz.underlying164
  a51 := Tryz.isAgg164
  z51 := Tryz.sizeOf164
  v51 := Tryz.zeroValue164
  t105 := Tryz.underlying157
  a105 := Tryz.isAgg157
  z105 := Tryz.sizeOf157
  v105 := Tryz.zeroValue157
  t119 := Tryz.underlying176
  a119 := Tryz.isAgg176
  z119 := Tryz.sizeOf176
  t138 := Tryz.underlying178
  a138 := Tryz.isAgg178
  z138 := Tryz.sizeOf178
  v138 := Tryz.zeroValue178
  t139 := Tryz.underlying179
  a139 := Tryz.isAgg179
  z139 := Tryz.sizeOf179
  v139 := Tryz.zeroValue179
  t146 := Tryz.underlying180
  a146 := Tryz.isAgg180
  z146 := Tryz.sizeOf180
  v146 := Tryz.zeroValue180
  g1 := by kernel_rfl
  g3 := by kernel_rfl
  g4 := by kernel_rfl }
open Go.RowKit Go.Lib in
/-- strings.Split. (LAID: no walk: one application.) -/
theorem Tryz.strings_Split (s sep : ByteArray) (m : Int) (w : World) (hs : s.size < 4294967281) (hm : w.cell? ⟨4, 0, none⟩ = some (.int .i64 m)) (h1 : 1 ≤ sep.size) :
    Calls Tryz.prog 40 #[.string s, .string sep] w fun e w' =>
      e = .returned (.slice (some ⟨w.heap.size, 0, none⟩) (Lib.countB s sep + 1) (Lib.countB s sep + 1)) ∧ w' = w.alloc (.cells ((Lib.splitB sep 0 (Lib.countB s sep) s).map Value.string).toArray 9) := Any.strings_Split Tryz.lays146 (by kernel_rfl) s sep m w hs hm h1
end Go.Proofs

/- What the package-level variables hold; the library's functions as contracts. -/
namespace Go.Proofs.YtkfnbpbhcnekiaaGreatDoor
open Go.RowKit Go.Lib
attribute [local irreducible] Nx Ar BrM
set_option maxRecDepth 20000

abbrev strs (l : List Str) : List Value := l.map str
/-- A variable's cells. -/
def cellsAt (m : PH) (b : Nat) (vs : List Value) : Prop := ∃ cs t fr, m b = some (.cells cs t fr) ∧ ∀ j, j < vs.length → cs[j]? = vs[j]?
structure Glo (m : PH) : Prop where
  words : cellsAt m 0 (strs wordL)
  kinds : cellsAt m 1 (strs ringL)
  names : cellsAt m 2 (strs kindL)
  pow : ∃ t fr, m 3 = some (.cells (pow10Tab.map fun z => Value.int .u64 z).toArray t fr)
  max : ∃ n, cellsAt m 4 [.int .i64 n]
  syn : ∃ te pe, cellsAt m 7 [.iface te pe]
  rng : ∃ te pe, cellsAt m 8 [.iface te pe]
theorem cellsAt.cell {m : PH} {b : Nat} {vs : List Value} (h : cellsAt m b vs) {w : World} (hm : m.le (hw w)) {j : Nat} (hj : j < vs.length) : w.cell? ⟨b, j, none⟩ = some vs[j] := by
  obtain ⟨cs, t, fr, h1, h2⟩ := h
  rw [cell_of_row w _ _ _ _ _ (hm _ _ h1), h2 j hj, List.getElem?_eq_getElem hj]
theorem cellsAt.sees {m : PH} {b : Nat} {vs : List Value} (h : cellsAt m b vs) {j : Nat} (hj : j < vs.length) : SeesAt (roAll m) b j [vs[j]] := by
  intro r h' d hs
  obtain ⟨cs, t, fr, h1, h2⟩ := h
  refine ⟨cs, t, fr, PH.le_un_left r h' _ _ ((show m.le r from hs) _ _ h1), fun i hi => ?_⟩
  have : i = 0 := by simpa using hi
  subst this
  rw [Nat.add_zero, h2 j hj, List.getElem?_eq_getElem hj]
  rfl
theorem Glo.tab {m : PH} (hG : Glo m) {w : World} (hm : m.le (hw w)) : Lib.TabIs Tryz.prog w "internal/strconv.uint64pow10" .u64 Lib.pow10Tab := by
  obtain ⟨t, fr, h⟩ := hG.pow
  have h1 : Tryz.prog.globalNamed "internal/strconv.uint64pow10" = some 3 := by kernel_rfl
  unfold Lib.TabIs World.var?
  rw [h1]
  have h2 := hm _ _ h
  unfold hw at h2
  simp [h2, Obj.row?]

theorem below_le {w w' : World} (h : Below w.heap.size w w') : PH.le (hw w) (hw w') := fun n o hn => by
  have hl : n < w.heap.size := (Array.getElem?_eq_some_iff.1 hn).1
  show w'.heap[n]? = some o
  rw [h.block n hl]; exact hn
theorem le_of_sat {m : PH} {F : List SP} {w : World} (h : SatW (roAll m :: F) w) : m.le (hw w) := SatW.stays h
theorem FnOk.lib {P : Program} {f : FuncId} {args : List Value} {m : PH} {Post : Value → Prop} (hent : Enters P f)
    (h : ∀ w, m.le (hw w) → Calls P f args.toArray w fun e w' => (∃ v, e = .returned v ∧ Post v) ∧ Below w.heap.size w w') : FnOk P f args [roAll m] (fun v Q => Post v ∧ Q = [roAll m]) :=
  ⟨hent, fun F w hs => (h w (le_of_sat hs)).mono fun e w' ⟨⟨v, he, hp⟩, hb⟩ => ⟨v, [roAll m], he, ⟨hp, rfl⟩, hb.os, hb.tape, hb.output, hs.more (below_le hb)⟩⟩

theorem drewN_below (w : World) (n : Nat) : Below w.heap.size w (w.drewN n) := ⟨rfl, rfl, rfl, Nat.le_refl _, fun _ _ => rfl⟩
theorem FormatInt_ok {m : PH} (hG : Glo m) (n : Int) (hn : I64n n) : FnOk Tryz.prog 53 [.int .i64 n, .int .i64 10] [roAll m] (fun v Q => v = str (itoa n) ∧ Q = [roAll m]) :=
  FnOk.lib (enters_of Tryz.func53 (by kernel_rfl) rfl) fun w hm => (Tryz.strconv_FormatInt_10 n hn.1 hn.2 w (hG.tab hm)).mono fun e w' ⟨he, k, os, hw⟩ => by
    refine ⟨⟨_, he, rfl⟩, ?_⟩
    subst hw
    refine ⟨rfl, rfl, rfl, by simp [Sort.grow, World.drewN], fun k' hk => ?_⟩
    simp only [Sort.grow, World.drewN]
    exact Array.getElem?_append_left hk
def isOk (s : Str) : Option Int := match parseIntB 64 s with | .ok v => some v | _ => none
theorem ParseInt_ok {m : PH} (hG : Glo m) (s : Str) (hs : s.length ≤ 281474976710656) : FnOk Tryz.prog 78 [str s, .int .i64 10, .int .i64 64] [roAll m]
    (fun v Q => ((∃ u, parseIntB 64 s = .ok u ∧ v = .tuple #[.int .i64 u, .nilIface]) ∨ ((∀ u, parseIntB 64 s ≠ .ok u) ∧ ∃ n T p, v = .tuple #[.int .i64 n, .iface T p])) ∧ Q = [roAll m]) :=
  FnOk.lib (enters_of Tryz.func78 (by kernel_rfl) rfl) fun w hm => by
    have hsz : (⟨s.toArray⟩ : ByteArray).size = s.length := by simp [ByteArray.size]
    cases hp : parseIntB 64 s
    case ok u =>
      refine (Tryz.strconv_ParseInt_10_at64_ok ⟨s.toArray⟩ (by omega) u hp w).mono fun e w' ⟨he, hw⟩ => ⟨⟨_, he, .inl ⟨u, rfl, rfl⟩⟩, ?_⟩
      rcases hw with rfl | ⟨t, rfl⟩
      · exact Below.refl _ _
      · exact Lib.bytesWorld_below _ _ _
    case range =>
      obtain ⟨te, pe, hc⟩ := hG.rng
      refine (Tryz.strconv_ParseInt_10_at64_range ⟨s.toArray⟩ (by omega) hp (.iface te pe) w (hc.cell hm (j := 0) (by simp)) (.inr ⟨_, _, rfl⟩)).mono fun e w' ⟨N, he, _, _, hb⟩ => ⟨⟨_, he, .inr ⟨(fun u h => by cases h), _, _, _, rfl⟩⟩, hb⟩
    · obtain ⟨te, pe, hc⟩ := hG.syn
      refine (Tryz.strconv_ParseInt_10_at64_syntax ⟨s.toArray⟩ (by omega) (hp.trans rfl) (.iface te pe) w (hc.cell hm (j := 0) (by simp)) (.inr ⟨_, _, rfl⟩)).mono fun e w' ⟨N, he, _, _, hb⟩ => ⟨⟨_, he, .inr ⟨(fun u h => by cases h), _, _, _, rfl⟩⟩, hb⟩
theorem Cut_ok {m : PH} (hG : Glo m) (s : Str) (hs : s.length < 4294967281) : FnOk Tryz.prog 62 [str s, str [58]] [roAll m]
    (fun v Q => (v = match pairC 58 s with | some (a, b) => .tuple #[str a, str b, .bool true] | none => .tuple #[str s, str [], .bool false]) ∧ Q = [roAll m]) :=
  FnOk.lib (enters_of Tryz.func62 (by kernel_rfl) rfl) fun w hm => by
    have hsz : (⟨s.toArray⟩ : ByteArray).size = s.length := by simp [ByteArray.size]
    obtain ⟨n, hc⟩ := hG.max
    refine (Tryz.strings_Cut ⟨s.toArray⟩ ⟨#[58]⟩ n w (by omega) (hc.cell hm (j := 0) (by simp))).mono fun e w' ⟨he, k, hw⟩ => ?_
    refine ⟨⟨_, he, ?_⟩, by subst hw; exact drewN_below _ _⟩
    have e1 := cut_lib 58 s
    simp only [] at e1 ⊢
    rw [e1]
    cases pairC 58 s with
    | none => rfl
    | some p => obtain ⟨a, b⟩ := p; rfl
theorem HasPrefix_ok {m : PH} (s p : Str) : FnOk Tryz.prog 51 [str s, str p] [roAll m] (fun v Q => v = .bool (hasPrefix s p) ∧ Q = [roAll m]) :=
  FnOk.lib (enters_of Tryz.func51 (by kernel_rfl) rfl) fun w hm => by
    refine (Tryz.strings_HasPrefix ⟨s.toArray⟩ ⟨p.toArray⟩ w).mono fun e w' ⟨he, hw⟩ => ⟨⟨_, he, rfl⟩, by subst hw; exact Below.refl _ _⟩
theorem Split_ok {m : PH} (hG : Glo m) (s : Str) (c : UInt8) (hs : s.length < 4294967281) : FnOk Tryz.prog 40 [str s, str [c]] [roAll m]
    (fun v Q => ∃ b, v = .slice (some ⟨b, 0, none⟩) (splitC c s).length (splitC c s).length ∧ Q = [roAll m, ownS 9 (some ⟨b, 0, none⟩) (splitC c s).length (splitC c s).length 1 (strs (splitC c s))]) := by
  refine ⟨enters_of Tryz.func40 (by kernel_rfl) rfl, fun F w hsat => ?_⟩
  have hsz : (⟨s.toArray⟩ : ByteArray).size = s.length := by simp [ByteArray.size]
  obtain ⟨n, hc⟩ := hG.max
  refine (Tryz.strings_Split ⟨s.toArray⟩ ⟨#[c]⟩ n w (by omega) (hc.cell (le_of_sat hsat) (j := 0) (by simp)) (by simp [ByteArray.size])).mono fun e w' ⟨he, hw'⟩ => ?_
  have hl := split_lib c ⟨s.toArray⟩
  simp only [] at hl
  have hst : (splitB ⟨#[c]⟩ 0 (countB ⟨s.toArray⟩ ⟨#[c]⟩) ⟨s.toArray⟩).map Value.string = strs (splitC c s) := by
    have hl2 : strs (splitC c s) = (splitB ⟨#[c]⟩ 0 (countB ⟨s.toArray⟩ ⟨#[c]⟩) ⟨s.toArray⟩).map fun x => str x.data.toList := by
      rw [show splitC c s = _ from hl.symm]
      show List.map str (List.map _ _) = _
      rw [List.map_map]
      first | done | rfl
    rw [hl2]
    try
      apply List.map_congr_left
      intro x _
      rfl
  have hlen : countB ⟨s.toArray⟩ ⟨#[c]⟩ + 1 = (splitC c s).length := by
    have h1 := splitB_all ⟨#[c]⟩ (by simp [ByteArray.size]) 0 _ ⟨s.toArray⟩ rfl
    rw [← h1, ← hl, List.length_map]
  rw [hlen] at he
  rw [hst] at hw'
  refine ⟨_, _, he, ⟨_, rfl, rfl⟩, by subst hw'; rfl, by subst hw'; rfl, by subst hw'; rfl, ?_⟩
  have h2 := hsat.alloc (.cells (strs (splitC c s)).toArray 9)
  rw [← hw'] at h2
  have h3 := h2.imp (Q := ownS 9 (some ⟨w.heap.size, 0, none⟩) (splitC c s).length (splitC c s).length 1 (strs (splitC c s))) (fun r h hb => by
    refine ⟨by simp, .inr ⟨_, _, rfl, hb, Nat.le_refl _, ?_, by simp, by rw [Nat.mul_one]; exact List.take_of_length_le (by simp)⟩⟩
    have : countB ⟨s.toArray⟩ ⟨#[c]⟩ ≤ (⟨s.toArray⟩ : ByteArray).size := countB_le _ (by simp [ByteArray.size]) _ _ (Nat.le_refl _)
    unfold maxLen
    omega)
  exact h3.perm (List.Perm.swap _ _ _)
theorem Join_ok {S : SP} (A : Option Addr) (c : Nat) (xs : List Str) (hne : xs ≠ []) (hs : Sees S A xs.length 1 (strs xs)) (hN : xs.length ≤ 140737488355328) (hcap : xs.length ≤ c) (hlen : (joinC 32 xs).length ≤ 140737488355328) :
    FnOk Tryz.prog 32 [.slice A xs.length c, str [32]] [S] (fun v Q => v = str (joinC 32 xs) ∧ Q = [S]) := by
  refine ⟨enters_of Tryz.func32 (by kernel_rfl) rfl, fun F w hsat => ?_⟩
  obtain ⟨hl, hrd⟩ : Rd (hw w) A xs.length 1 (strs xs) := by
    obtain ⟨r, h, a, hb, cc, r1, k1, k2, a1, a2, a3, a4, a5, a6⟩ := hsat
    exact (hs r1 k1 (PH.dj_mono cc a1 a2) a5).mono (PH.un_le (PH.le_trans a1 a) (PH.le_trans a2 hb))
  obtain ⟨b, o, cs, t, fr, rfl, hbk, hc⟩ := hrd (List.length_pos_iff.2 hne)
  have hmap : (xs.map fun l => (⟨l.toArray⟩ : ByteArray)).map (·.data.toList) = xs := by rw [List.map_map]; simp [Function.comp_def]
  have hj : Lib.join ((xs.map fun l => (⟨l.toArray⟩ : ByteArray)).map (·.data.toList)) ((⟨#[32]⟩ : ByteArray).data.toList) = joinC 32 xs := by rw [hmap]; exact joinC_inter 32 xs
  have hx := Tryz.strings_Join b o c (xs.map fun l => (⟨l.toArray⟩ : ByteArray)) ⟨#[32]⟩ w (fun j x hx => by
    rw [cell_of_row w _ _ _ _ _ hbk]
    have hj : j < xs.length := by have := (List.getElem?_eq_some_iff.1 hx).1; simpa using this
    rw [hc j (by omega)]
    rw [List.getElem?_map] at hx ⊢
    rw [List.getElem?_eq_getElem hj] at hx ⊢
    simp only [Option.map_some, Option.some.injEq] at hx ⊢
    rw [← hx]) ((Array.getElem?_eq_some_iff.1 hbk).1) (by simpa using hN) (by simpa using hcap) (by rw [hj]; exact hlen)
  rw [List.length_map] at hx
  refine hx.mono fun e w' ⟨he, hb⟩ => ⟨_, [S], he, ⟨by rw [hj], rfl⟩, hb.os, hb.tape, hb.output, hsat.more (below_le hb)⟩
end Go.Proofs.YtkfnbpbhcnekiaaGreatDoor

/- Small functions of script, and of the document's answer. -/
namespace Go.Proofs.YtkfnbpbhcnekiaaGreatDoor
open Go.RowKit Go.Lib
attribute [local irreducible] Nx Ar BrM
set_option maxRecDepth 20000
set_option maxHeartbeats 4000000

theorem itoa_len {n : Int} (h : I64n n) : (itoa n).length ≤ 20 := by
  unfold I64n at h
  by_cases h0 : n < 0
  · rw [itoa_neg h0]
    have := decDigits_len 19 n.natAbs (by omega) (by omega)
    simp; omega
  · rw [itoa_pos (by omega)]
    have := decDigits_len 19 n.toNat (by omega) (by omega)
    omega
theorem number_ok {m : PH} (hG : Glo m) (n : Int) (hn : I64n n) : FnOk Tryz.prog 28 [.int .i64 n] [roAll m] (fun v Q => v = str (itoa n) ∧ Q = [roAll m]) := by
  refine FnOk.start Tryz.func28 rfl rfl rfl rfl fun F os tape output => ?_
  refine go 200 ?_
  conv => whnf
  repeat' (first
    | ((with_reducible refine atBr ?_); (first | refine BrM.t rfl ?_ | refine BrM.f rfl ?_ | refine BrM.dec (fun _ => ?_) (fun _ => ?_) | refine BrM.mk (fun _ => ?_) (fun _ => ?_)) <;> conv => whnf)
    | ((with_reducible refine atAr ?_); refine Ar.i64 (by omega) (by omega) ?_; conv => whnf)
    | ((with_reducible refine (atCall 53) ?_); refine Nx.call [0] [0] rfl rfl rfl rfl rfl ((FormatInt_ok hG n hn)) rfl fun v Q hQ => ?_; obtain ⟨rfl, rfl⟩ := hQ)
    | ((with_reducible refine atRet ?_); refine Nx.ret [0] Tryz.func28 rfl rfl ?_; (exact ⟨rfl, rfl⟩))
    | ((with_reducible refine atOps ?_); refine go 200 ?_; conv => whnf)
    | ((with_reducible refine atPlan ?_); refine Nx.runP (n := 200) rfl (by repeat (first | exact subB.nil _ | refine subB.cons rfl ?_)) ?_; conv => whnf)
    | ((with_reducible refine atAftL ?_); refine Nx.late ?_)
    | ((fail_if_success (with_reducible refine atRet ?_)); (fail_if_success (with_reducible refine atLoop ?_)); (fail_if_success (with_reducible refine atIn ?_)); (fail_if_success (with_reducible refine atDrawn ?_)); (fail_if_success (with_reducible refine atEnd ?_)); (with_reducible refine atRun ?_); refine go 200 ?_; conv => whnf))
theorem NameR_ok (k : Int) : FnOk Tryz.prog 58 [.int .i64 k] [] (fun v Q => v = str (kindName k) ∧ Q = []) := by
  have h : ∀ k', k = k' → kindName k = kindName k' := fun _ h => by rw [h]
  refine FnOk.start Tryz.func58 rfl rfl rfl rfl fun F os tape output => ?_
  refine go 200 ?_
  conv => whnf
  repeat' (first
    | ((with_reducible refine atBr ?_); (first | refine BrM.t rfl ?_ | refine BrM.f rfl ?_ | refine BrM.dec (fun _ => ?_) (fun _ => ?_) | refine BrM.mk (fun _ => ?_) (fun _ => ?_)) <;> conv => whnf)
    | ((with_reducible refine atAr ?_); refine Ar.i64 (by omega) (by omega) ?_; conv => whnf)
    | ((with_reducible refine atRet ?_); refine Nx.ret [] Tryz.func58 rfl rfl ?_; (refine ⟨?_, rfl⟩; first | (rw [h 0 (by assumption)]; rfl) | (rw [h 1 (by assumption)]; rfl) | (rw [h 2 (by assumption)]; rfl) | (rw [h 3 (by assumption)]; rfl) | (unfold kindName; rw [if_neg (by omega)]; rfl)))
    | ((with_reducible refine atOps ?_); refine go 200 ?_; conv => whnf)
    | ((with_reducible refine atPlan ?_); refine Nx.runP (n := 200) rfl (by repeat (first | exact subB.nil _ | refine subB.cons rfl ?_)) ?_; conv => whnf)
    | ((with_reducible refine atAftL ?_); refine Nx.late ?_)
    | ((fail_if_success (with_reducible refine atRet ?_)); (fail_if_success (with_reducible refine atLoop ?_)); (fail_if_success (with_reducible refine atIn ?_)); (fail_if_success (with_reducible refine atDrawn ?_)); (fail_if_success (with_reducible refine atEnd ?_)); (with_reducible refine atRun ?_); refine go 200 ?_; conv => whnf))
theorem Name_ok {m : PH} (hG : Glo m) (k : Int) : FnOk Tryz.prog 54 [.int .i64 k] [roAll m] (fun v Q => v = str (kindName k) ∧ Q = [roAll m]) := by
  refine FnOk.start Tryz.func54 rfl rfl rfl rfl fun F os tape output => ?_
  refine go 200 ?_
  conv => whnf
  by_cases hk : 0 ≤ k ∧ k ≤ 3
  · obtain ⟨j, rfl⟩ := Int.eq_ofNat_of_zero_le hk.1
    have hj : j < (strs kindL).length := by simp [kindL]; omega
    have e : kindName (j : Int) = kindL[j]'(by simpa using hj) := by
      have : j < kindL.length := by simpa using hj
      unfold kindName
      rw [if_pos hk, Int.toNat_natCast, List.getD_eq_getElem?_getD, List.getElem?_eq_getElem this]; rfl
    repeat' (first
      | ((with_reducible refine atBr ?_); refine BrM.not (by omega) ?_; conv => whnf)
      | ((with_reducible refine atBr ?_); (first | refine BrM.t rfl ?_ | refine BrM.f rfl ?_ | refine BrM.dec (fun _ => ?_) (fun _ => ?_) | refine BrM.mk (fun _ => ?_) (fun _ => ?_)) <;> conv => whnf)
      | ((with_reducible refine atAr ?_); refine Ar.i64 (by omega) (by omega) ?_; conv => whnf)
      | ((with_reducible refine atIdx ?_); refine Nx.gidx (q := j) (sz := 1) rfl rfl rfl Tryz.underlying129 rfl rfl (by omega) (by omega) (by omega) ?_)
      | ((with_reducible refine atLoad ?_); refine Nx.load1 0 rfl rfl rfl rfl ((hG.names.sees hj)) rfl ?_)
      | ((with_reducible refine atRet ?_); refine Nx.ret [0] Tryz.func54 rfl rfl ?_; (exact ⟨by rw [e]; simp [oneV], rfl⟩))
      | ((with_reducible refine atOps ?_); refine go 200 ?_; conv => whnf)
      | ((with_reducible refine atPlan ?_); refine Nx.runP (n := 200) rfl (by repeat (first | exact subB.nil _ | refine subB.cons rfl ?_)) ?_; conv => whnf)
      | ((with_reducible refine atAftL ?_); refine Nx.late ?_)
      | ((fail_if_success (with_reducible refine atRet ?_)); (fail_if_success (with_reducible refine atLoop ?_)); (fail_if_success (with_reducible refine atIn ?_)); (fail_if_success (with_reducible refine atDrawn ?_)); (fail_if_success (with_reducible refine atEnd ?_)); (with_reducible refine atRun ?_); refine go 200 ?_; conv => whnf))
  · repeat' (first
      | ((with_reducible refine atBr ?_); refine BrM.yes (by omega) ?_; conv => whnf)
      | ((with_reducible refine atBr ?_); refine BrM.not (by omega) ?_; conv => whnf)
      | ((with_reducible refine atBr ?_); (first | refine BrM.t rfl ?_ | refine BrM.f rfl ?_ | refine BrM.dec (fun _ => ?_) (fun _ => ?_) | refine BrM.mk (fun _ => ?_) (fun _ => ?_)) <;> conv => whnf)
      | ((with_reducible refine atAr ?_); refine Ar.i64 (by omega) (by omega) ?_; conv => whnf)
      | ((with_reducible refine atRet ?_); refine Nx.ret [0] Tryz.func54 rfl rfl ?_; (refine ⟨?_, rfl⟩; unfold kindName; rw [if_neg (by omega)]; rfl))
      | ((with_reducible refine atOps ?_); refine go 200 ?_; conv => whnf)
      | ((with_reducible refine atPlan ?_); refine Nx.runP (n := 200) rfl (by repeat (first | exact subB.nil _ | refine subB.cons rfl ?_)) ?_; conv => whnf)
      | ((with_reducible refine atAftL ?_); refine Nx.late ?_)
      | ((fail_if_success (with_reducible refine atRet ?_)); (fail_if_success (with_reducible refine atLoop ?_)); (fail_if_success (with_reducible refine atIn ?_)); (fail_if_success (with_reducible refine atDrawn ?_)); (fail_if_success (with_reducible refine atEnd ?_)); (with_reducible refine atRun ?_); refine go 200 ?_; conv => whnf))
theorem behind_ok (d : Int) : FnOk Tryz.prog 30 [.int .i64 d] [] (fun v Q => v = .bool (decide (2 ≤ d ∧ d ≤ 5)) ∧ Q = []) := by
  refine FnOk.start Tryz.func30 rfl rfl rfl rfl fun F os tape output => ?_
  refine go 200 ?_
  conv => whnf
  repeat' (first
    | ((with_reducible refine atBr ?_); (first | refine BrM.t rfl ?_ | refine BrM.f rfl ?_ | refine BrM.dec (fun _ => ?_) (fun _ => ?_) | refine BrM.mk (fun _ => ?_) (fun _ => ?_)) <;> conv => whnf)
    | ((with_reducible refine atAr ?_); refine Ar.i64 (by omega) (by omega) ?_; conv => whnf)
    | ((with_reducible refine atRet ?_); refine Nx.ret [] Tryz.func30 rfl rfl ?_; (refine ⟨?_, rfl⟩; first | (show Value.bool (decide (d ≤ 5)) = _; congr 1; rw [decide_eq_decide]; omega) | (show Value.bool false = _; rw [decide_eq_false (by omega)])))
    | ((with_reducible refine atOps ?_); refine go 200 ?_; conv => whnf)
    | ((with_reducible refine atPlan ?_); refine Nx.runP (n := 200) rfl (by repeat (first | exact subB.nil _ | refine subB.cons rfl ?_)) ?_; conv => whnf)
    | ((with_reducible refine atAftL ?_); refine Nx.late ?_)
    | ((fail_if_success (with_reducible refine atRet ?_)); (fail_if_success (with_reducible refine atLoop ?_)); (fail_if_success (with_reducible refine atIn ?_)); (fail_if_success (with_reducible refine atDrawn ?_)); (fail_if_success (with_reducible refine atEnd ?_)); (with_reducible refine atRun ?_); refine go 200 ?_; conv => whnf))
theorem Wrap_ok (op : Str) (seq c : Int) : FnOk Tryz.prog 39 [str op, .int .i64 seq, .iface 85 (.int .i64 c)] [] (fun v Q => ∃ b, v = .iface 114 (.pointer (some ⟨b, 0, none⟩)) ∧ Q = [blk b (.cells #[str op, .int .i64 seq, .iface 85 (.int .i64 c)] 116 (0, 0))]) := by
  refine FnOk.start Tryz.func39 rfl rfl rfl rfl fun F os tape output => ?_
  refine go 200 ?_
  conv => whnf
  repeat' (first
    | ((with_reducible refine atBr ?_); (first | refine BrM.t rfl ?_ | refine BrM.f rfl ?_ | refine BrM.dec (fun _ => ?_) (fun _ => ?_) | refine BrM.mk (fun _ => ?_) (fun _ => ?_)) <;> conv => whnf)
    | ((with_reducible refine atAr ?_); refine Ar.i64 (by omega) (by omega) ?_; conv => whnf)
    | ((with_reducible refine atEsc ?_); intro _; refine Nx.out 13 rfl rfl rfl rfl ?_)
    | ((with_reducible refine atRet ?_); refine Nx.ret [13] Tryz.func39 rfl rfl ?_; (exact ⟨_, rfl, rfl⟩))
    | ((with_reducible refine atOps ?_); refine go 200 ?_; conv => whnf)
    | ((with_reducible refine atPlan ?_); refine Nx.runP (n := 200) rfl (by repeat (first | exact subB.nil _ | refine subB.cons rfl ?_)) ?_; conv => whnf)
    | ((with_reducible refine atAftL ?_); refine Nx.late ?_)
    | ((fail_if_success (with_reducible refine atRet ?_)); (fail_if_success (with_reducible refine atLoop ?_)); (fail_if_success (with_reducible refine atIn ?_)); (fail_if_success (with_reducible refine atDrawn ?_)); (fail_if_success (with_reducible refine atEnd ?_)); (with_reducible refine atRun ?_); refine go 200 ?_; conv => whnf))
theorem way_ok {m : PH} (hG : Glo m) (w : Way) (h1 : I64n w.tries) (h2 : I64n w.time) : FnOk Tryz.prog 29 [.agg #[.int .i64 w.kind, .int .i64 w.tries, .int .i64 w.time]] [roAll m] (fun v Q => v = str (wayW w) ∧ Q = [roAll m]) := by
  have l1 := itoa_len h1
  have l2 := itoa_len h2
  refine FnOk.start Tryz.func29 rfl rfl rfl rfl fun F os tape output => ?_
  refine go 200 ?_
  conv => whnf
  repeat' (first
    | ((with_reducible refine atBr ?_); (first | refine BrM.t rfl ?_ | refine BrM.f rfl ?_ | refine BrM.dec (fun _ => ?_) (fun _ => ?_) | refine BrM.mk (fun _ => ?_) (fun _ => ?_)) <;> conv => whnf)
    | ((with_reducible refine atAr ?_); refine Ar.i64 (by omega) (by omega) ?_; conv => whnf)
    | ((with_reducible refine (atCall 28) ?_); refine Nx.call [0] [0] rfl rfl rfl rfl rfl ((number_ok hG _ h1)) rfl fun v Q hQ => ?_; obtain ⟨rfl, rfl⟩ := hQ)
    | ((with_reducible refine (atCall 28) ?_); refine Nx.call [0] [0] rfl rfl rfl rfl rfl ((number_ok hG _ h2)) rfl fun v Q hQ => ?_; obtain ⟨rfl, rfl⟩ := hQ)
    | ((with_reducible refine (atCall 54) ?_); refine Nx.call [0] [0] rfl rfl rfl rfl rfl ((Name_ok hG w.kind)) rfl fun v Q hQ => ?_; obtain ⟨rfl, rfl⟩ := hQ)
    | ((with_reducible refine atAdd ?_); refine Nx.cat rfl rfl rfl rfl ((by simp; omega)) ?_)
    | ((with_reducible refine atRet ?_); refine Nx.ret [0] Tryz.func29 rfl rfl ?_; (refine ⟨?_, rfl⟩; unfold wayW; first | (rw [if_pos (by assumption)]; rfl) | (rw [if_neg (by omega), if_pos (by assumption)]; rfl) | (rw [if_neg (by omega), if_neg (by omega)]; rfl)))
    | ((with_reducible refine atOps ?_); refine go 200 ?_; conv => whnf)
    | ((with_reducible refine atPlan ?_); refine Nx.runP (n := 200) rfl (by repeat (first | exact subB.nil _ | refine subB.cons rfl ?_)) ?_; conv => whnf)
    | ((with_reducible refine atAftL ?_); refine Nx.late ?_)
    | ((fail_if_success (with_reducible refine atRet ?_)); (fail_if_success (with_reducible refine atLoop ?_)); (fail_if_success (with_reducible refine atIn ?_)); (fail_if_success (with_reducible refine atDrawn ?_)); (fail_if_success (with_reducible refine atEnd ?_)); (with_reducible refine atRun ?_); refine go 200 ?_; conv => whnf))
theorem wayR_ok (w : Way) (h1 : I64n w.tries) (h2 : I64n w.time) : FnOk Tryz.prog 36 [.agg #[.int .i64 w.kind, .int .i64 w.tries, .int .i64 w.time]] [] (fun v Q => v = str (wayW w) ∧ Q = []) := by
  have l1 := itoa_len h1
  have l2 := itoa_len h2
  refine FnOk.start Tryz.func36 rfl rfl rfl rfl fun F os tape output => ?_
  refine go 200 ?_
  conv => whnf
  repeat' (first
    | ((with_reducible refine atBr ?_); (first | refine BrM.t rfl ?_ | refine BrM.f rfl ?_ | refine BrM.dec (fun _ => ?_) (fun _ => ?_) | refine BrM.mk (fun _ => ?_) (fun _ => ?_)) <;> conv => whnf)
    | ((with_reducible refine atAr ?_); refine Ar.i64 (by omega) (by omega) ?_; conv => whnf)
    | ((with_reducible refine (atCall 21) ?_); refine Nx.call [] [] rfl rfl rfl rfl rfl ((Digits_ok _ h1)) rfl fun v Q hQ => ?_; obtain ⟨rfl, rfl⟩ := hQ)
    | ((with_reducible refine (atCall 21) ?_); refine Nx.call [] [] rfl rfl rfl rfl rfl ((Digits_ok _ h2)) rfl fun v Q hQ => ?_; obtain ⟨rfl, rfl⟩ := hQ)
    | ((with_reducible refine (atCall 58) ?_); refine Nx.call [] [] rfl rfl rfl rfl rfl ((NameR_ok w.kind)) rfl fun v Q hQ => ?_; obtain ⟨rfl, rfl⟩ := hQ)
    | ((with_reducible refine atAdd ?_); refine Nx.cat rfl rfl rfl rfl ((by simp; omega)) ?_)
    | ((with_reducible refine atRet ?_); refine Nx.ret [] Tryz.func36 rfl rfl ?_; (refine ⟨?_, rfl⟩; unfold wayW; first | (rw [if_pos (by assumption)]; rfl) | (rw [if_neg (by omega), if_pos (by assumption)]; rfl) | (rw [if_neg (by omega), if_neg (by omega)]; rfl)))
    | ((with_reducible refine atOps ?_); refine go 200 ?_; conv => whnf)
    | ((with_reducible refine atPlan ?_); refine Nx.runP (n := 200) rfl (by repeat (first | exact subB.nil _ | refine subB.cons rfl ?_)) ?_; conv => whnf)
    | ((with_reducible refine atAftL ?_); refine Nx.late ?_)
    | ((fail_if_success (with_reducible refine atRet ?_)); (fail_if_success (with_reducible refine atLoop ?_)); (fail_if_success (with_reducible refine atIn ?_)); (fail_if_success (with_reducible refine atDrawn ?_)); (fail_if_success (with_reducible refine atEnd ?_)); (with_reducible refine atRun ?_); refine go 200 ?_; conv => whnf))
theorem event_ok {m : PH} (hG : Glo m) (x : Ev) (h : I64n x.key ∧ I64n x.val) : FnOk Tryz.prog 31 [.agg #[.int .i64 x.key, .int .i64 x.val]] [roAll m] (fun v Q => v = str (evW x) ∧ Q = [roAll m]) := by
  have l1 := itoa_len h.1
  have l2 := itoa_len h.2
  refine FnOk.start Tryz.func31 rfl rfl rfl rfl fun F os tape output => ?_
  refine go 200 ?_
  conv => whnf
  repeat' (first
    | ((with_reducible refine atBr ?_); (first | refine BrM.t rfl ?_ | refine BrM.f rfl ?_ | refine BrM.dec (fun _ => ?_) (fun _ => ?_) | refine BrM.mk (fun _ => ?_) (fun _ => ?_)) <;> conv => whnf)
    | ((with_reducible refine atAr ?_); refine Ar.i64 (by omega) (by omega) ?_; conv => whnf)
    | ((with_reducible refine atDrawn ?_); refine Nx.bind (l := 1) (fun _ => ?_) rfl; refine Nx.drawn0 [0] [.pure 0, .held 1, .pure 4, .held 5, .ex 2 true, .pure 3, .ex 6 true, .pure 7, .pure 8] rfl (by kernel_rfl) rfl (by kernel_rfl) rfl (by repeat (first | exact subB.nil _ | refine subB.cons rfl ?_)) rfl ?_)
    | ((with_reducible refine (atCall 28) ?_); refine Nx.call [0] [0] rfl rfl rfl rfl rfl ((number_ok hG _ h.1)) rfl fun v Q hQ => ?_; obtain ⟨rfl, rfl⟩ := hQ)
    | ((with_reducible refine (atCall 28) ?_); refine Nx.call [0] [0] rfl rfl rfl rfl rfl ((number_ok hG _ h.2)) rfl fun v Q hQ => ?_; obtain ⟨rfl, rfl⟩ := hQ)
    | ((with_reducible refine atAftK ?_); refine Nx.keepN [0] rfl (by repeat (first | exact subB.nil _ | refine subB.cons rfl ?_)) (by repeat (first | exact subM.nil _ | refine subM.cons rfl rfl rfl ?_)) rfl ?_)
    | ((with_reducible refine atHoAdd ?_); refine Nx.hoCat rfl rfl rfl rfl ((by simp; omega)) ?_)
    | ((with_reducible refine atRet ?_); refine Nx.ret [0] Tryz.func31 rfl rfl ?_; (exact ⟨by unfold evW; simp [oneV], rfl⟩))
    | ((with_reducible refine atOps ?_); refine go 200 ?_; conv => whnf)
    | ((with_reducible refine atPlan ?_); refine Nx.runP (n := 200) rfl (by repeat (first | exact subB.nil _ | refine subB.cons rfl ?_)) ?_; conv => whnf)
    | ((with_reducible refine atAftL ?_); refine Nx.late ?_)
    | ((fail_if_success (with_reducible refine atRet ?_)); (fail_if_success (with_reducible refine atLoop ?_)); (fail_if_success (with_reducible refine atIn ?_)); (fail_if_success (with_reducible refine atDrawn ?_)); (fail_if_success (with_reducible refine atEnd ?_)); (with_reducible refine atRun ?_); refine go 200 ?_; conv => whnf))
theorem Way15_ok (k t u : Int) : FnOk Tryz.prog 37 [.agg #[.int .i64 k, .int .i64 t, .int .i64 u]] [] (fun v Q => v = .agg #[.int .i64 k, .int .i64 t, .int .i64 u] ∧ Q = []) := by
  refine FnOk.start Tryz.func37 rfl rfl rfl rfl fun F os tape output => ?_
  refine go 200 ?_
  conv => whnf
  repeat' (first
    | ((with_reducible refine atBr ?_); (first | refine BrM.t rfl ?_ | refine BrM.f rfl ?_ | refine BrM.dec (fun _ => ?_) (fun _ => ?_) | refine BrM.mk (fun _ => ?_) (fun _ => ?_)) <;> conv => whnf)
    | ((with_reducible refine atAr ?_); refine Ar.i64 (by omega) (by omega) ?_; conv => whnf)
    | ((with_reducible refine atRet ?_); refine Nx.ret [] Tryz.func37 rfl rfl ?_; (exact ⟨rfl, rfl⟩))
    | ((with_reducible refine atOps ?_); refine go 200 ?_; conv => whnf)
    | ((with_reducible refine atPlan ?_); refine Nx.runP (n := 200) rfl (by repeat (first | exact subB.nil _ | refine subB.cons rfl ?_)) ?_; conv => whnf)
    | ((with_reducible refine atAftL ?_); refine Nx.late ?_)
    | ((fail_if_success (with_reducible refine atRet ?_)); (fail_if_success (with_reducible refine atLoop ?_)); (fail_if_success (with_reducible refine atIn ?_)); (fail_if_success (with_reducible refine atDrawn ?_)); (fail_if_success (with_reducible refine atEnd ?_)); (with_reducible refine atRun ?_); refine go 200 ?_; conv => whnf))
theorem has_ok (s : Str) (c : UInt8) (hs : s.length ≤ 100000) : FnOk Tryz.prog 34 [str s, .int .u8 c.toNat] [] (fun v Q => v = .bool (decide (c ∈ s)) ∧ Q = []) := by
  have hsz : (⟨s.toArray⟩ : ByteArray).size = s.length := by simp [ByteArray.size]
  refine FnOk.start Tryz.func34 rfl rfl rfl rfl fun F os tape output => ?_
  refine go 200 ?_
  conv => whnf
  refine Nx.loop (X := Nat) (fun k => k ≤ s.length ∧ c ∉ s.take k) (fun k => s.length - k)
    (fun k => [(0, sv s), (1, .c (.v (.int .u8 c.toNat))), (5, iv k)]) (fun _ => []) [] (fun _ => []) 0 ⟨Nat.zero_le _, by simp⟩ ?_ ?_ ?_ ?_ ?_
  · repeat (first | exact subE.nil _ | refine subE.cons rfl rfl ?_ | refine subE.cons' rfl (fun _ => rfl) ?_)
  · repeat (first | exact subM.nil _ | refine subM.cons rfl rfl rfl ?_)
  · repeat (first | exact subB.nil _ | refine subB.cons rfl ?_)
  · repeat (first | exact subR.nil _ | refine subR.cons rfl rfl ?_)
  intro k ⟨hk, hno⟩ ih
  by_cases hlt : k < s.length
  · have hb := byteAt_nat hlt
    have nx : ¬ byteAt s k = c.toNat → c ∉ s.take (k + 1) := fun h hm => by
      rw [List.take_succ_eq_append_getElem hlt] at hm
      rcases List.mem_append.1 hm with hm | hm
      · exact hno hm
      · rw [List.mem_singleton] at hm
        subst hm
        exact h hb
    have yes : byteAt s k = c.toNat → c ∈ s := fun h => by
      have : c = s[k] := by
        apply UInt8.toNat_inj.1
        omega
      rw [this]; exact List.getElem_mem hlt
    repeat' (first
      | ((with_reducible refine atBr ?_); refine BrM.yes (by omega) ?_; conv => whnf)
      | ((with_reducible refine atAr ?_); refine Ar.to (k := .i64) (((k+1:Nat):Int)) (by omega) ⟨by omega, by omega⟩ ?_; conv => whnf)
      | ((with_reducible refine atBr ?_); (first | refine BrM.t rfl ?_ | refine BrM.f rfl ?_ | refine BrM.dec (fun _ => ?_) (fun _ => ?_) | refine BrM.mk (fun _ => ?_) (fun _ => ?_)) <;> conv => whnf)
      | ((with_reducible refine atAr ?_); refine Ar.i64 (by omega) (by omega) ?_; conv => whnf)
      | ((with_reducible refine atIndex ?_); refine Nx.sidx rfl rfl rfl Tryz.underlying9 rfl (by omega) (by omega) ?_)
      | ((with_reducible refine atRet ?_); refine Nx.ret [] Tryz.func34 rfl rfl ?_; (exact ⟨by rw [decide_eq_true (yes (by assumption))]; rfl, rfl⟩))
      | ((with_reducible refine atIn ?_); refine Nx.weak ((ih (k + 1) ⟨by omega, nx (by assumption)⟩ (by omega))) ?_ ?_ ?_ ?_ <;> (first | exact subM.nil _ | exact subB.nil _ | exact subR.nil _ | ((repeat (first | exact subE.nil _ | refine subE.cons rfl rfl ?_ | refine subE.cons' rfl (fun _ => rfl) ?_ | (refine subE.cons rfl ?_ ?_; · (simp; done)))); done) | ((repeat (first | exact subM.nil _ | refine subM.cons rfl rfl rfl ?_)); done) | ((repeat (first | exact subB.nil _ | refine subB.cons rfl ?_)); done) | ((repeat (first | exact subR.nil _ | refine subR.cons rfl rfl ?_)); done) | omega | (dsimp only; omega) | (skip) | skip))
      | ((with_reducible refine atOps ?_); refine go 200 ?_; conv => whnf)
      | ((with_reducible refine atPlan ?_); refine Nx.runP (n := 200) rfl (by repeat (first | exact subB.nil _ | refine subB.cons rfl ?_)) ?_; conv => whnf)
      | ((with_reducible refine atAftL ?_); refine Nx.late ?_)
      | ((fail_if_success (with_reducible refine atRet ?_)); (fail_if_success (with_reducible refine atLoop ?_)); (fail_if_success (with_reducible refine atIn ?_)); (fail_if_success (with_reducible refine atDrawn ?_)); (fail_if_success (with_reducible refine atEnd ?_)); (with_reducible refine atRun ?_); refine go 200 ?_; conv => whnf))
  · have : k = s.length := by omega
    subst this
    rw [List.take_length] at hno
    repeat' (first
      | ((with_reducible refine atBr ?_); refine BrM.not (by omega) ?_; conv => whnf)
      | ((with_reducible refine atBr ?_); (first | refine BrM.t rfl ?_ | refine BrM.f rfl ?_ | refine BrM.dec (fun _ => ?_) (fun _ => ?_) | refine BrM.mk (fun _ => ?_) (fun _ => ?_)) <;> conv => whnf)
      | ((with_reducible refine atAr ?_); refine Ar.i64 (by omega) (by omega) ?_; conv => whnf)
      | ((with_reducible refine atRet ?_); refine Nx.ret [] Tryz.func34 rfl rfl ?_; (exact ⟨by rw [decide_eq_false hno]; rfl, rfl⟩))
      | ((with_reducible refine atOps ?_); refine go 200 ?_; conv => whnf)
      | ((with_reducible refine atPlan ?_); refine Nx.runP (n := 200) rfl (by repeat (first | exact subB.nil _ | refine subB.cons rfl ?_)) ?_; conv => whnf)
      | ((with_reducible refine atAftL ?_); refine Nx.late ?_)
      | ((fail_if_success (with_reducible refine atRet ?_)); (fail_if_success (with_reducible refine atLoop ?_)); (fail_if_success (with_reducible refine atIn ?_)); (fail_if_success (with_reducible refine atDrawn ?_)); (fail_if_success (with_reducible refine atEnd ?_)); (with_reducible refine atRun ?_); refine go 200 ?_; conv => whnf))
theorem row_at (l : List Str) {k : Nat} (h : k < l.length) : ((strs l).map Ce.v)[k]? = some (.v (str (l.getD k []))) := by
  simp [h]
theorem Shape_ok (k : Nat) (hk : k < 17) : FnOk Tryz.prog 33 [.int .i64 k] [] (fun v Q => v = str (shape k) ∧ Q = []) := by
  refine FnOk.start Tryz.func33 rfl rfl rfl rfl fun F os tape output => ?_
  refine go 200 ?_
  conv => whnf
  repeat' (first
    | ((with_reducible refine atBr ?_); (first | refine BrM.t rfl ?_ | refine BrM.f rfl ?_ | refine BrM.dec (fun _ => ?_) (fun _ => ?_) | refine BrM.mk (fun _ => ?_) (fun _ => ?_)) <;> conv => whnf)
    | ((with_reducible refine atAr ?_); refine Ar.i64 (by omega) (by omega) ?_; conv => whnf)
    | ((with_reducible refine atIdx ?_); refine Nx.bind (l := 4) (fun _ => ?_) rfl; refine Nx.lidx (q := k) (sz := 1) rfl rfl rfl rfl Tryz.underlying56 rfl rfl (by omega) (by omega) (by omega) ?_)
    | ((with_reducible refine atLoad ?_); refine Nx.loadAt 4 rfl rfl rfl rfl rfl rfl (row_at shapeL hk) ?_)
    | ((with_reducible refine atRet ?_); refine Nx.ret [] Tryz.func33 rfl rfl ?_; (exact ⟨rfl, rfl⟩))
    | ((with_reducible refine atOps ?_); refine go 200 ?_; conv => whnf)
    | ((with_reducible refine atPlan ?_); refine Nx.runP (n := 200) rfl (by repeat (first | exact subB.nil _ | refine subB.cons rfl ?_)) ?_; conv => whnf)
    | ((with_reducible refine atAftL ?_); refine Nx.late ?_)
    | ((fail_if_success (with_reducible refine atRet ?_)); (fail_if_success (with_reducible refine atLoop ?_)); (fail_if_success (with_reducible refine atIn ?_)); (fail_if_success (with_reducible refine atDrawn ?_)); (fail_if_success (with_reducible refine atEnd ?_)); (with_reducible refine atRun ?_); refine go 200 ?_; conv => whnf))
theorem Word_ok (k : Nat) (hk : k < 17) : FnOk Tryz.prog 35 [.int .i64 k] [] (fun v Q => v = str (word k) ∧ Q = []) := by
  refine FnOk.start Tryz.func35 rfl rfl rfl rfl fun F os tape output => ?_
  refine go 200 ?_
  conv => whnf
  repeat' (first
    | ((with_reducible refine atBr ?_); refine BrM.not (by omega) ?_; conv => whnf)
    | ((with_reducible refine atBr ?_); (first | refine BrM.t rfl ?_ | refine BrM.f rfl ?_ | refine BrM.dec (fun _ => ?_) (fun _ => ?_) | refine BrM.mk (fun _ => ?_) (fun _ => ?_)) <;> conv => whnf)
    | ((with_reducible refine atAr ?_); refine Ar.i64 (by omega) (by omega) ?_; conv => whnf)
    | ((with_reducible refine atIdx ?_); refine Nx.bind (l := 4) (fun _ => ?_) rfl; refine Nx.lidx (q := k) (sz := 1) rfl rfl rfl rfl Tryz.underlying56 rfl rfl (by omega) (by omega) (by omega) ?_)
    | ((with_reducible refine atLoad ?_); refine Nx.loadAt 4 rfl rfl rfl rfl rfl rfl (row_at wordL hk) ?_)
    | ((with_reducible refine atRet ?_); refine Nx.ret [] Tryz.func35 rfl rfl ?_; (exact ⟨rfl, rfl⟩))
    | ((with_reducible refine atOps ?_); refine go 200 ?_; conv => whnf)
    | ((with_reducible refine atPlan ?_); refine Nx.runP (n := 200) rfl (by repeat (first | exact subB.nil _ | refine subB.cons rfl ?_)) ?_; conv => whnf)
    | ((with_reducible refine atAftL ?_); refine Nx.late ?_)
    | ((fail_if_success (with_reducible refine atRet ?_)); (fail_if_success (with_reducible refine atLoop ?_)); (fail_if_success (with_reducible refine atIn ?_)); (fail_if_success (with_reducible refine atDrawn ?_)); (fail_if_success (with_reducible refine atEnd ?_)); (with_reducible refine atRun ?_); refine go 200 ?_; conv => whnf))
end Go.Proofs.YtkfnbpbhcnekiaaGreatDoor

/- The reader of words. -/
namespace Go.Proofs.YtkfnbpbhcnekiaaGreatDoor
open Go.RowKit Go.Lib
set_option maxRecDepth 20000
set_option maxHeartbeats 4000000

/-- A reader that has these words to read. -/
def rdr (b : Nat) (ws : List Str) (bad : Bool) : SP := fun r h => ∃ x : {p : Option Addr × Nat // ws.length ≤ p.2}, star [blk b (.cells #[.slice x.1.1 ws.length x.1.2, .bool bad] 90 (0, 0)), rdS x.1.1 ws.length 1 (strs ws)] r h
section
variable {g : Cx} {env : Env} {mem : Mem} {bnd : Bnd} {L L' : Res} {N : Act → World → Prop}
theorem Nx.rdO (n l n2 : Nat) {b : Nat} {ws : List Str} {bad : Bool} (hp : takeR n L = some (rdr b ws bad, L'))
    (h : ∀ A c, ws.length ≤ c → Nx g env mem bnd ((l, blk b (.cells #[.slice A ws.length c, .bool bad] 90 (0, 0))) :: (n2, rdS A ws.length 1 (strs ws)) :: L') N) : Nx g env mem bnd L N := by
  refine Nx.ex n (fun x : {p : Option Addr × Nat // ws.length ≤ p.2} => star [blk b (.cells #[.slice x.1.1 ws.length x.1.2, .bool bad] 90 (0, 0)), rdS x.1.1 ws.length 1 (strs ws)]) hp (fun r h hs => hs) fun x => ?_
  refine Nx.turn [n] [l, n2] (Ps := [star [blk b (.cells #[.slice x.1.1 ws.length x.1.2, .bool bad] 90 (0, 0)), rdS x.1.1 ws.length 1 (strs ws)]]) [blk b (.cells #[.slice x.1.1 ws.length x.1.2, .bool bad] 90 (0, 0)), rdS x.1.1 ws.length 1 (strs ws)] (L' := L') (by simp [pick, takeR]) (fun r h hs => ?_) (h _ _ x.2)
  obtain ⟨r', h1, h2, a1, a2, a3, a4, a5, _⟩ := hs
  exact Sat.mono (show Sat _ r' h1 from a5) a1 a2
theorem Nx.rdC (l n2 n : Nat) {b k c : Nat} {A : Option Addr} {ws : List Str} {bad : Bool} (hp : pick [l, n2] L = some ([blk b (.cells #[.slice A k c, .bool bad] 90 (0, 0)), rdS A k 1 (strs ws)], L')) (hk : k = ws.length) (hc : k ≤ c)
    (h : Nx g env mem bnd ((n, rdr b ws bad) :: L') N) : Nx g env mem bnd L N := by
  subst hk
  refine Nx.turn [l, n2] [n] [rdr b ws bad] hp (fun r h hs => ?_) h
  exact ⟨r, h, PH.em, PH.le_refl _, PH.le_refl _, PH.em_le _, PH.dj_em _, ⟨⟨(A, c), hc⟩, hs⟩, trivial⟩
/-- A slot that points to a block whose number is known. -/
theorem Nx.real (s : Nat) {l o b : Nat} (hl : look env s = some (.c (.loc l o))) (hb : lookB bnd l = some b) (h : Nx g ((s, .c (.v (.pointer (some ⟨b, o, none⟩)))) :: env) mem bnd L N) : Nx g env mem bnd L N := by
  intro β a w hr
  refine h β a w ⟨hr.defers, hr.size, fun k x hx => ?_, hr.bnd, hr.os, hr.tape, hr.output, hr.sat⟩
  rw [look_cons] at hx
  split at hx
  · rename_i e
    subst e
    cases hx
    have := hr.env _ _ hl
    rw [this]
    simp only [SV.den, Ce.den, hr.bnd l b hb]
  · exact hr.env k x hx
end
attribute [local irreducible] Nx Ar BrM
theorem rdS_part {A : Option Addr} {n c l : Nat} {ws : List Str} (hl : l ≤ n) (hn : n = ws.length) (hc : n ≤ c) : ∀ r h, rdS A n 1 (strs ws) r h → rdS (resl A l c 1) (n - l) 1 (strs (ws.drop l)) r h := by
  intro r h hs
  subst hn
  have h1 := Sees.part (S := rdS A ws.length 1 (strs ws)) (l := l) (h := ws.length) (m := c) (rdS_sees A ws.length 1 (strs ws)) hl (Nat.le_refl _) hc r PH.em (PH.dj_em _) hs
  have e : (r.un PH.em) = r := by funext n; unfold PH.un; cases r n <;> rfl
  rw [e] at h1
  have e2 : ((strs ws).drop (l * 1)).take ((ws.length - l) * 1) = strs (ws.drop l) := by
    rw [Nat.mul_one, Nat.mul_one, List.take_of_length_le (by simp)]; exact (List.map_drop ..).symm
  rw [e2] at h1
  exact h1

theorem word_ok (b : Nat) (ws : List Str) (bad : Bool) (hl : ws.length ≤ 1000000) : FnOk Tryz.prog 42 [.pointer (some ⟨b, 0, none⟩)] [rdr b ws bad] (fun v Q => v = str (ws.headD []) ∧ Q = [rdr b ws.tail (bad || ws.isEmpty)]) := by
  refine FnOk.start Tryz.func42 rfl rfl rfl rfl fun F os tape output => ?_
  refine go 1 ?_
  conv => whnf
  refine Nx.rdO 0 50 1 rfl fun A c hc => ?_
  refine Nx.inn 50 [0] rfl ⟨rfl, rfl⟩ rfl ⟨rfl, trivial⟩ ?_
  rcases ws with _ | ⟨s, r⟩
  · repeat' (first
      | ((with_reducible refine atBr ?_); refine BrM.yes (by omega) ?_; conv => whnf)
      | ((with_reducible refine atBr ?_); (first | refine BrM.t rfl ?_ | refine BrM.f rfl ?_ | refine BrM.dec (fun _ => ?_) (fun _ => ?_) | refine BrM.mk (fun _ => ?_) (fun _ => ?_)) <;> conv => whnf)
      | ((with_reducible refine atAr ?_); refine Ar.i64 (by omega) (by omega) ?_; conv => whnf)
      | (with_reducible refine atRet ?_; refine Nx.out 50 rfl rfl rfl rfl ?_; refine Nx.rdC 50 1 0 (ws := []) rfl rfl hc ?_; refine Nx.ret [0] Tryz.func42 rfl rfl ?_; exact ⟨rfl, by simp⟩)
      | ((with_reducible refine atOps ?_); refine go 200 ?_; conv => whnf)
      | ((with_reducible refine atPlan ?_); refine Nx.runP (n := 200) rfl (by repeat (first | exact subB.nil _ | refine subB.cons rfl ?_)) ?_; conv => whnf)
      | ((with_reducible refine atAftL ?_); refine Nx.late ?_)
      | ((fail_if_success (with_reducible refine atRet ?_)); (fail_if_success (with_reducible refine atLoop ?_)); (fail_if_success (with_reducible refine atIn ?_)); (fail_if_success (with_reducible refine atDrawn ?_)); (fail_if_success (with_reducible refine atEnd ?_)); (with_reducible refine atRun ?_); refine go 200 ?_; conv => whnf))
  · have hs := rdS_sees A (s :: r).length 1 (strs (s :: r))
    have hln : (s :: r).length = r.length + 1 := rfl
    have hsz : Sees (rdS A (s :: r).length 1 (strs (s :: r))) A (s :: r).length 1 ((s :: r).flatMap fun w => [str w]) := by
      have : (s :: r).flatMap (fun w => [str w]) = strs (s :: r) := by
        generalize s :: r = l
        induction l with
        | nil => rfl
        | cons x l ih => simp [ih]
      rw [this]; exact hs
    repeat' (first
      | ((with_reducible refine atBr ?_); refine BrM.not (by omega) ?_; conv => whnf)
      | ((with_reducible refine atBr ?_); (first | refine BrM.t rfl ?_ | refine BrM.f rfl ?_ | refine BrM.dec (fun _ => ?_) (fun _ => ?_) | refine BrM.mk (fun _ => ?_) (fun _ => ?_)) <;> conv => whnf)
      | ((with_reducible refine atAr ?_); refine Ar.i64 (by omega) (by omega) ?_; conv => whnf)
      | ((with_reducible refine atOps ?_); refine go 200 ?_; conv => whnf)
      | ((with_reducible refine atPlan ?_); refine Nx.runP (n := 200) rfl (by repeat (first | exact subB.nil _ | refine subB.cons rfl ?_)) ?_; conv => whnf)
      | ((with_reducible refine atAftL ?_); refine Nx.late ?_)
      | ((fail_if_success (with_reducible refine atRet ?_)); (fail_if_success (with_reducible refine atLoop ?_)); (fail_if_success (with_reducible refine atIn ?_)); (fail_if_success (with_reducible refine atDrawn ?_)); (fail_if_success (with_reducible refine atEnd ?_)); (with_reducible refine atRun ?_); refine go 200 ?_; conv => whnf))
    refine Nx.idx 1 (j := 0) rfl rfl rfl Tryz.underlying56 rfl rfl rfl (fun _ => rfl) hsz rfl rfl (by omega) fun b' p' hp => ?_
    repeat' (first
      | ((with_reducible refine atBr ?_); (first | refine BrM.t rfl ?_ | refine BrM.f rfl ?_ | refine BrM.dec (fun _ => ?_) (fun _ => ?_) | refine BrM.mk (fun _ => ?_) (fun _ => ?_)) <;> conv => whnf)
      | ((with_reducible refine atAr ?_); refine Ar.i64 (by omega) (by omega) ?_; conv => whnf)
      | ((with_reducible refine atLoad ?_); refine Nx.load1 1 rfl rfl rfl rfl (hp) rfl ?_)
      | ((with_reducible refine atSlice ?_); refine Nx.reslice (l := 1) (h := (r.length+1)) (m := c) rfl rfl Tryz.underlying56 rfl rfl (rfl) (rfl) (rfl) (by simp) (by omega) (by omega) (by omega) ?_)
      | ((with_reducible refine atOps ?_); refine go 200 ?_; conv => whnf)
      | ((with_reducible refine atPlan ?_); refine Nx.runP (n := 200) rfl (by repeat (first | exact subB.nil _ | refine subB.cons rfl ?_)) ?_; conv => whnf)
      | ((with_reducible refine atAftL ?_); refine Nx.late ?_)
      | ((fail_if_success (with_reducible refine atRet ?_)); (fail_if_success (with_reducible refine atLoop ?_)); (fail_if_success (with_reducible refine atIn ?_)); (fail_if_success (with_reducible refine atDrawn ?_)); (fail_if_success (with_reducible refine atEnd ?_)); (with_reducible refine atRun ?_); refine go 200 ?_; conv => whnf))
    refine Nx.out 50 rfl rfl rfl rfl ?_
    refine Nx.turn [1] [1] [rdS (resl A 1 c 1) ((s :: r).length - 1) 1 (strs r)] rfl (fun r' h hs => ?_) ?_
    · obtain ⟨r1, h1, h2, a1, a2, a3, a4, a5, a6⟩ := hs
      exact ⟨r1, h1, h2, a1, a2, a3, a4, rdS_part (by omega) rfl hc _ _ a5, a6⟩
    refine Nx.rdC 50 1 0 (ws := r) rfl (by omega) (by omega) ?_
    refine Nx.ret [0] Tryz.func42 rfl rfl ?_
    exact ⟨rfl, by simp⟩
theorem tl_eq {a b : Str} (h : a = b) : ByteArray.toList ⟨a.toArray⟩ = ByteArray.toList ⟨b.toArray⟩ := by rw [h]
theorem numOf_nil : numOf [] = none := rfl
theorem value_ok {m : PH} (hG : Glo m) (b : Nat) (s : Str) (ws : List Str) (bad : Bool) (hs : s.length ≤ 1000000) : FnOk Tryz.prog 64 [.pointer (some ⟨b, 0, none⟩), str s] [roAll m, rdr b ws bad]
    (fun v Q => v = .int .i64 ((numOf s).getD 0) ∧ Q = [roAll m, rdr b ws (bad || (numOf s).isNone)]) := by
  refine FnOk.start Tryz.func64 rfl rfl rfl rfl fun F os tape output => ?_
  refine go 1 ?_
  conv => whnf
  refine Nx.rdO 1 50 2 rfl fun A c hc => ?_
  refine Nx.inn 50 [0] rfl ⟨rfl, rfl⟩ rfl ⟨rfl, trivial⟩ ?_
  refine go 200 ?_
  conv => whnf
  refine Nx.call [0] [0] rfl rfl rfl rfl rfl (ParseInt_ok hG s (by omega)) rfl fun v Q hQ => ?_
  obtain ⟨hv, rfl⟩ := hQ
  rcases hv with ⟨u, hp, rfl⟩ | ⟨hp, n, T, p, rfl⟩
  · have hu := parse_bound hp
    have key : numOf s = if itoa u = s then some u else none := by unfold numOf; rw [hp]
    by_cases he : itoa u = s
    · rw [if_pos he] at key
      repeat' (first
        | ((with_reducible refine atBr ?_); refine BrM.not (fun h => h (tl_eq he)) ?_; conv => whnf)
        | ((with_reducible refine atBr ?_); (first | refine BrM.t rfl ?_ | refine BrM.f rfl ?_ | refine BrM.dec (fun _ => ?_) (fun _ => ?_) | refine BrM.mk (fun _ => ?_) (fun _ => ?_)) <;> conv => whnf)
        | ((with_reducible refine atAr ?_); refine Ar.i64 (by omega) (by omega) ?_; conv => whnf)
        | ((with_reducible refine (atCall 28) ?_); refine Nx.call [0] [0] rfl rfl rfl rfl rfl ((number_ok hG u hu)) rfl fun v Q hQ => ?_; obtain ⟨rfl, rfl⟩ := hQ)
        | ((with_reducible refine atRet ?_); refine Nx.out 50 rfl rfl rfl rfl ?_; refine Nx.rdC 50 2 1 rfl (by first | rfl | omega) hc ?_; refine Nx.ret [0,1] Tryz.func64 rfl rfl ?_; (exact ⟨by rw [key]; rfl, by rw [key]; simp⟩))
        | ((with_reducible refine atOps ?_); refine go 200 ?_; conv => whnf)
        | ((with_reducible refine atPlan ?_); refine Nx.runP (n := 200) rfl (by repeat (first | exact subB.nil _ | refine subB.cons rfl ?_)) ?_; conv => whnf)
        | ((with_reducible refine atAftL ?_); refine Nx.late ?_)
        | ((fail_if_success (with_reducible refine atRet ?_)); (fail_if_success (with_reducible refine atLoop ?_)); (fail_if_success (with_reducible refine atIn ?_)); (fail_if_success (with_reducible refine atDrawn ?_)); (fail_if_success (with_reducible refine atEnd ?_)); (with_reducible refine atRun ?_); refine go 200 ?_; conv => whnf))
    · rw [if_neg he] at key
      repeat' (first
        | ((with_reducible refine atBr ?_); refine BrM.yes (fun h => he (toList_eq h)) ?_; conv => whnf)
        | ((with_reducible refine atBr ?_); (first | refine BrM.t rfl ?_ | refine BrM.f rfl ?_ | refine BrM.dec (fun _ => ?_) (fun _ => ?_) | refine BrM.mk (fun _ => ?_) (fun _ => ?_)) <;> conv => whnf)
        | ((with_reducible refine atAr ?_); refine Ar.i64 (by omega) (by omega) ?_; conv => whnf)
        | ((with_reducible refine (atCall 28) ?_); refine Nx.call [0] [0] rfl rfl rfl rfl rfl ((number_ok hG u hu)) rfl fun v Q hQ => ?_; obtain ⟨rfl, rfl⟩ := hQ)
        | ((with_reducible refine atRet ?_); refine Nx.out 50 rfl rfl rfl rfl ?_; refine Nx.rdC 50 2 1 rfl (by first | rfl | omega) hc ?_; refine Nx.ret [0,1] Tryz.func64 rfl rfl ?_; (exact ⟨by rw [key]; rfl, by rw [key]; simp⟩))
        | ((with_reducible refine atOps ?_); refine go 200 ?_; conv => whnf)
        | ((with_reducible refine atPlan ?_); refine Nx.runP (n := 200) rfl (by repeat (first | exact subB.nil _ | refine subB.cons rfl ?_)) ?_; conv => whnf)
        | ((with_reducible refine atAftL ?_); refine Nx.late ?_)
        | ((fail_if_success (with_reducible refine atRet ?_)); (fail_if_success (with_reducible refine atLoop ?_)); (fail_if_success (with_reducible refine atIn ?_)); (fail_if_success (with_reducible refine atDrawn ?_)); (fail_if_success (with_reducible refine atEnd ?_)); (with_reducible refine atRun ?_); refine go 200 ?_; conv => whnf))
  · have key : numOf s = none := by
      unfold numOf
      split
      · rename_i v hv; exact absurd hv (hp v)
      · rfl
    repeat' (first
      | ((with_reducible refine atBr ?_); (first | refine BrM.t rfl ?_ | refine BrM.f rfl ?_ | refine BrM.dec (fun _ => ?_) (fun _ => ?_) | refine BrM.mk (fun _ => ?_) (fun _ => ?_)) <;> conv => whnf)
      | ((with_reducible refine atAr ?_); refine Ar.i64 (by omega) (by omega) ?_; conv => whnf)
      | ((with_reducible refine atRet ?_); refine Nx.out 50 rfl rfl rfl rfl ?_; refine Nx.rdC 50 2 1 rfl (by first | rfl | omega) hc ?_; refine Nx.ret [0,1] Tryz.func64 rfl rfl ?_; (exact ⟨by rw [key]; rfl, by rw [key]; simp⟩))
      | ((with_reducible refine atOps ?_); refine go 200 ?_; conv => whnf)
      | ((with_reducible refine atPlan ?_); refine Nx.runP (n := 200) rfl (by repeat (first | exact subB.nil _ | refine subB.cons rfl ?_)) ?_; conv => whnf)
      | ((with_reducible refine atAftL ?_); refine Nx.late ?_)
      | ((fail_if_success (with_reducible refine atRet ?_)); (fail_if_success (with_reducible refine atLoop ?_)); (fail_if_success (with_reducible refine atIn ?_)); (fail_if_success (with_reducible refine atDrawn ?_)); (fail_if_success (with_reducible refine atEnd ?_)); (with_reducible refine atRun ?_); refine go 200 ?_; conv => whnf))
theorem number_rok {m : PH} (hG : Glo m) (b : Nat) (ws : List Str) (bad : Bool) (hl : ws.length ≤ 1000000) (hs : ∀ w ∈ ws, w.length ≤ 1000000) : FnOk Tryz.prog 48 [.pointer (some ⟨b, 0, none⟩)] [roAll m, rdr b ws bad]
    (fun v Q => v = .int .i64 ((numOf (ws.headD [])).getD 0) ∧ Q = [roAll m, rdr b ws.tail (bad || (numOf (ws.headD [])).isNone)]) := by
  have hh : (ws.headD []).length ≤ 1000000 := by
    cases ws with
    | nil => simp
    | cons x r => exact hs x List.mem_cons_self
  have hb : (bad || ws.isEmpty || (numOf (ws.headD [])).isNone) = (bad || (numOf (ws.headD [])).isNone) := by
    cases ws with
    | nil => simp [numOf_nil]
    | cons x r => simp
  refine FnOk.start Tryz.func48 rfl rfl rfl rfl fun F os tape output => ?_
  refine go 200 ?_
  conv => whnf
  repeat' (first
    | ((with_reducible refine atBr ?_); (first | refine BrM.t rfl ?_ | refine BrM.f rfl ?_ | refine BrM.dec (fun _ => ?_) (fun _ => ?_) | refine BrM.mk (fun _ => ?_) (fun _ => ?_)) <;> conv => whnf)
    | ((with_reducible refine atAr ?_); refine Ar.i64 (by omega) (by omega) ?_; conv => whnf)
    | ((with_reducible refine (atCall 42) ?_); refine Nx.call [1] [1] rfl rfl rfl rfl rfl ((word_ok b ws bad hl)) rfl fun v Q hQ => ?_; obtain ⟨rfl, rfl⟩ := hQ)
    | ((with_reducible refine (atCall 64) ?_); refine Nx.call [0,1] [0,1] rfl rfl rfl rfl rfl ((value_ok hG b (ws.headD []) ws.tail _ hh)) rfl fun v Q hQ => ?_; obtain ⟨rfl, rfl⟩ := hQ)
    | ((with_reducible refine atRet ?_); refine Nx.ret [0,1] Tryz.func48 rfl rfl ?_; (exact ⟨rfl, by rw [hb]⟩))
    | ((with_reducible refine atOps ?_); refine go 200 ?_; conv => whnf)
    | ((with_reducible refine atPlan ?_); refine Nx.runP (n := 200) rfl (by repeat (first | exact subB.nil _ | refine subB.cons rfl ?_)) ?_; conv => whnf)
    | ((with_reducible refine atAftL ?_); refine Nx.late ?_)
    | ((fail_if_success (with_reducible refine atRet ?_)); (fail_if_success (with_reducible refine atLoop ?_)); (fail_if_success (with_reducible refine atIn ?_)); (fail_if_success (with_reducible refine atDrawn ?_)); (fail_if_success (with_reducible refine atEnd ?_)); (with_reducible refine atRun ?_); refine go 200 ?_; conv => whnf))
theorem int_rok {m : PH} (hG : Glo m) (b : Nat) (ws : List Str) (bad : Bool) (hl : ws.length ≤ 1000000) (hs : ∀ w ∈ ws, w.length ≤ 1000000) : FnOk Tryz.prog 43 [.pointer (some ⟨b, 0, none⟩)] [roAll m, rdr b ws bad]
    (fun v Q => v = .int .i64 ((numOf (ws.headD [])).getD 0) ∧ Q = [roAll m, rdr b ws.tail (bad || (numOf (ws.headD [])).isNone)]) := by
  refine FnOk.start Tryz.func43 rfl rfl rfl rfl fun F os tape output => ?_
  refine go 200 ?_
  conv => whnf
  repeat' (first
    | ((with_reducible refine atBr ?_); (first | refine BrM.t rfl ?_ | refine BrM.f rfl ?_ | refine BrM.dec (fun _ => ?_) (fun _ => ?_) | refine BrM.mk (fun _ => ?_) (fun _ => ?_)) <;> conv => whnf)
    | ((with_reducible refine atAr ?_); refine Ar.i64 (by omega) (by omega) ?_; conv => whnf)
    | ((with_reducible refine (atCall 48) ?_); refine Nx.call [0,1] [0,1] rfl rfl rfl rfl rfl ((number_rok hG b ws bad hl hs)) rfl fun v Q hQ => ?_; obtain ⟨rfl, rfl⟩ := hQ)
    | ((with_reducible refine atRet ?_); refine Nx.ret [0,1] Tryz.func43 rfl rfl ?_; (exact ⟨rfl, rfl⟩))
    | ((with_reducible refine atOps ?_); refine go 200 ?_; conv => whnf)
    | ((with_reducible refine atPlan ?_); refine Nx.runP (n := 200) rfl (by repeat (first | exact subB.nil _ | refine subB.cons rfl ?_)) ?_; conv => whnf)
    | ((with_reducible refine atAftL ?_); refine Nx.late ?_)
    | ((fail_if_success (with_reducible refine atRet ?_)); (fail_if_success (with_reducible refine atLoop ?_)); (fail_if_success (with_reducible refine atIn ?_)); (fail_if_success (with_reducible refine atDrawn ?_)); (fail_if_success (with_reducible refine atEnd ?_)); (with_reducible refine atRun ?_); refine go 200 ?_; conv => whnf))
theorem kind_rok {m : PH} (hG : Glo m) (b : Nat) (ws : List Str) (bad : Bool) (hl : ws.length ≤ 1000000) : FnOk Tryz.prog 44 [.pointer (some ⟨b, 0, none⟩)] [roAll m, rdr b ws bad]
    (fun v Q => v = .int .i64 ((readK (ws.headD [])).getD 0) ∧ Q = [roAll m, rdr b ws.tail (bad || (readK (ws.headD [])).isNone)]) := by
  have hb : (readK (ws.headD [])).isNone = false → (bad || ws.isEmpty) = bad := by
    cases ws with
    | nil => intro h; exact absurd h (by decide)
    | cons x r => simp
  have e0 : (strs ringL)[0] = str (ringL.getD 0 []) := rfl
  have e1 : (strs ringL)[1] = str (ringL.getD 1 []) := rfl
  obtain ⟨s, hse⟩ : ∃ s, s = ws.headD [] := ⟨_, rfl⟩
  have hR : readK s = if s = ringL.getD 0 [] then some 0 else if s = ringL.getD 1 [] then some 1 else none := rfl
  rw [← hse] at hb
  refine FnOk.start Tryz.func44 rfl rfl rfl rfl fun F os tape output => ?_
  refine go 200 ?_
  conv => whnf
  refine Nx.call [1] [1] rfl rfl rfl rfl rfl (word_ok b ws bad hl) rfl fun v Q hQ => ?_
  obtain ⟨rfl, rfl⟩ := hQ
  rw [← hse]
  refine Nx.rdO 1 50 2 rfl fun A c hc => ?_
  refine Nx.inn 50 [0] rfl ⟨rfl, rfl⟩ rfl ⟨rfl, trivial⟩ ?_
  by_cases h0 : s = ringL.getD 0 []
  · rw [if_pos h0] at hR
    rw [hR] at hb
    have hb := hb rfl
    repeat' (first
      | ((with_reducible refine atBr ?_); refine BrM.yes (tl_eq h0) ?_; conv => whnf)
      | ((with_reducible refine atBr ?_); (first | refine BrM.t rfl ?_ | refine BrM.f rfl ?_ | refine BrM.dec (fun _ => ?_) (fun _ => ?_) | refine BrM.mk (fun _ => ?_) (fun _ => ?_)) <;> conv => whnf)
      | ((with_reducible refine atAr ?_); refine Ar.i64 (by omega) (by omega) ?_; conv => whnf)
      | ((with_reducible refine atIdx ?_); refine Nx.gidx (q := 0) (sz := 1) rfl rfl rfl Tryz.underlying75 rfl rfl (by omega) (by omega) (by omega) ?_)
      | ((with_reducible refine atLoad ?_); refine Nx.load1 0 rfl rfl rfl rfl ((e0 ▸ hG.kinds.sees (j := 0) (by decide))) rfl ?_)
      | ((with_reducible refine atRet ?_); refine Nx.out 50 rfl rfl rfl rfl ?_; refine Nx.rdC 50 2 1 rfl (by first | rfl | omega) hc ?_; refine Nx.ret [0,1] Tryz.func44 rfl rfl ?_; (exact ⟨by rw [hR]; rfl, by rw [hR, hb]; simp⟩))
      | ((with_reducible refine atOps ?_); refine go 200 ?_; conv => whnf)
      | ((with_reducible refine atPlan ?_); refine Nx.runP (n := 200) rfl (by repeat (first | exact subB.nil _ | refine subB.cons rfl ?_)) ?_; conv => whnf)
      | ((with_reducible refine atAftL ?_); refine Nx.late ?_)
      | ((fail_if_success (with_reducible refine atRet ?_)); (fail_if_success (with_reducible refine atLoop ?_)); (fail_if_success (with_reducible refine atIn ?_)); (fail_if_success (with_reducible refine atDrawn ?_)); (fail_if_success (with_reducible refine atEnd ?_)); (with_reducible refine atRun ?_); refine go 200 ?_; conv => whnf))
  · rw [if_neg h0] at hR
    by_cases h1 : s = ringL.getD 1 []
    · rw [if_pos h1] at hR
      rw [hR] at hb
      have hb := hb rfl
      repeat' (first
        | ((with_reducible refine atBr ?_); refine BrM.yes (tl_eq h1) ?_; conv => whnf)
        | ((with_reducible refine atBr ?_); refine BrM.not (fun h => h0 (toList_eq h)) ?_; conv => whnf)
        | ((with_reducible refine atBr ?_); (first | refine BrM.t rfl ?_ | refine BrM.f rfl ?_ | refine BrM.dec (fun _ => ?_) (fun _ => ?_) | refine BrM.mk (fun _ => ?_) (fun _ => ?_)) <;> conv => whnf)
        | ((with_reducible refine atAr ?_); refine Ar.i64 (by omega) (by omega) ?_; conv => whnf)
        | ((with_reducible refine atIdx ?_); refine Nx.gidx (q := 0) (sz := 1) rfl rfl rfl Tryz.underlying75 rfl rfl (by omega) (by omega) (by omega) ?_)
        | ((with_reducible refine atIdx ?_); refine Nx.gidx (q := 1) (sz := 1) rfl rfl rfl Tryz.underlying75 rfl rfl (by omega) (by omega) (by omega) ?_)
        | ((with_reducible refine atLoad ?_); refine Nx.load1 0 rfl rfl rfl rfl ((e0 ▸ hG.kinds.sees (j := 0) (by decide))) rfl ?_)
        | ((with_reducible refine atLoad ?_); refine Nx.load1 0 rfl rfl rfl rfl ((e1 ▸ hG.kinds.sees (j := 1) (by decide))) rfl ?_)
        | ((with_reducible refine atRet ?_); refine Nx.out 50 rfl rfl rfl rfl ?_; refine Nx.rdC 50 2 1 rfl (by first | rfl | omega) hc ?_; refine Nx.ret [0,1] Tryz.func44 rfl rfl ?_; (exact ⟨by rw [hR]; rfl, by rw [hR, hb]; simp⟩))
        | ((with_reducible refine atOps ?_); refine go 200 ?_; conv => whnf)
        | ((with_reducible refine atPlan ?_); refine Nx.runP (n := 200) rfl (by repeat (first | exact subB.nil _ | refine subB.cons rfl ?_)) ?_; conv => whnf)
        | ((with_reducible refine atAftL ?_); refine Nx.late ?_)
        | ((fail_if_success (with_reducible refine atRet ?_)); (fail_if_success (with_reducible refine atLoop ?_)); (fail_if_success (with_reducible refine atIn ?_)); (fail_if_success (with_reducible refine atDrawn ?_)); (fail_if_success (with_reducible refine atEnd ?_)); (with_reducible refine atRun ?_); refine go 200 ?_; conv => whnf))
    · rw [if_neg h1] at hR
      repeat' (first
        | ((with_reducible refine atBr ?_); refine BrM.not (fun h => h0 (toList_eq h)) ?_; conv => whnf)
        | ((with_reducible refine atBr ?_); refine BrM.not (fun h => h1 (toList_eq h)) ?_; conv => whnf)
        | ((with_reducible refine atBr ?_); (first | refine BrM.t rfl ?_ | refine BrM.f rfl ?_ | refine BrM.dec (fun _ => ?_) (fun _ => ?_) | refine BrM.mk (fun _ => ?_) (fun _ => ?_)) <;> conv => whnf)
        | ((with_reducible refine atAr ?_); refine Ar.i64 (by omega) (by omega) ?_; conv => whnf)
        | ((with_reducible refine atIdx ?_); refine Nx.gidx (q := 0) (sz := 1) rfl rfl rfl Tryz.underlying75 rfl rfl (by omega) (by omega) (by omega) ?_)
        | ((with_reducible refine atIdx ?_); refine Nx.gidx (q := 1) (sz := 1) rfl rfl rfl Tryz.underlying75 rfl rfl (by omega) (by omega) (by omega) ?_)
        | ((with_reducible refine atLoad ?_); refine Nx.load1 0 rfl rfl rfl rfl ((e0 ▸ hG.kinds.sees (j := 0) (by decide))) rfl ?_)
        | ((with_reducible refine atLoad ?_); refine Nx.load1 0 rfl rfl rfl rfl ((e1 ▸ hG.kinds.sees (j := 1) (by decide))) rfl ?_)
        | ((with_reducible refine atRet ?_); refine Nx.out 50 rfl rfl rfl rfl ?_; refine Nx.rdC 50 2 1 rfl (by first | rfl | omega) hc ?_; refine Nx.ret [0,1] Tryz.func44 rfl rfl ?_; (exact ⟨by rw [hR]; rfl, by rw [hR]; simp⟩))
        | ((with_reducible refine atOps ?_); refine go 200 ?_; conv => whnf)
        | ((with_reducible refine atPlan ?_); refine Nx.runP (n := 200) rfl (by repeat (first | exact subB.nil _ | refine subB.cons rfl ?_)) ?_; conv => whnf)
        | ((with_reducible refine atAftL ?_); refine Nx.late ?_)
        | ((fail_if_success (with_reducible refine atRet ?_)); (fail_if_success (with_reducible refine atLoop ?_)); (fail_if_success (with_reducible refine atIn ?_)); (fail_if_success (with_reducible refine atDrawn ?_)); (fail_if_success (with_reducible refine atEnd ?_)); (with_reducible refine atRun ?_); refine go 200 ?_; conv => whnf))
end Go.Proofs.YtkfnbpbhcnekiaaGreatDoor

/- The reader of words, further: ways, others, events; commands' and ways' names. -/
namespace Go.Proofs.YtkfnbpbhcnekiaaGreatDoor
open Go.RowKit Go.Lib
attribute [local irreducible] Nx Ar BrM
set_option maxRecDepth 20000
set_option maxHeartbeats 4000000

def kOf (s : Str) : Option Nat := kindL.findIdx? (fun x => decide (x = s))
theorem find_yes {l : List Str} {s : Str} {k : Nat} (hk : k < l.length) (hno : s ∉ l.take k) (he : l[k] = s) : l.findIdx? (fun x => decide (x = s)) = some k := by
  rw [List.findIdx?_eq_some_iff_getElem]
  refine ⟨hk, by simp [he], fun j hj => ?_⟩
  simp only [decide_eq_true_eq]
  intro h
  apply hno
  rw [← h]
  exact List.mem_take_iff_getElem.2 ⟨j, by omega, rfl⟩
theorem find_no {l : List Str} {s : Str} (hno : s ∉ l) : l.findIdx? (fun x => decide (x = s)) = none := by
  rw [List.findIdx?_eq_none_iff]
  intro x hx
  simp only [decide_eq_false_iff_not]
  rintro rfl
  exact hno hx
theorem strs_get {l : List Str} {k : Nat} (h : k < l.length) : ((strs l).map Ce.v)[k]? = some (.v (str l[k])) := by simp [h]
theorem not_take {l : List Str} {s : Str} {k : Nat} (hk : k < l.length) (hno : s ∉ l.take k) (he : ¬ ByteArray.toList ⟨l[k].toArray⟩ = ByteArray.toList ⟨s.toArray⟩) : s ∉ l.take (k + 1) := by
  intro h
  rw [List.take_succ_eq_append_getElem hk] at h
  rcases List.mem_append.1 h with h | h
  · exact hno h
  · rw [List.mem_singleton] at h; exact he (by rw [h])
theorem sees_all {m : PH} {b : Nat} {vs : List Value} (h : cellsAt m b vs) : SeesAt (roAll m) b 0 vs := by
  intro r h' d hs
  obtain ⟨cs, t, fr, h1, h2⟩ := h
  exact ⟨cs, t, fr, PH.le_un_left r h' _ _ ((show m.le r from hs) _ _ h1), fun i hi => by rw [Nat.zero_add]; exact h2 i hi⟩
theorem deed_ok {m : PH} (hG : Glo m) (s : Str) : FnOk Tryz.prog 41 [str s] [roAll m] (fun v Q => v = (match deedOf s with | some k => .tuple #[.int .i64 k, .bool true] | none => .tuple #[.int .i64 0, .bool false]) ∧ Q = [roAll m]) := by
  have hlen : wordL.length = 17 := rfl
  refine FnOk.start Tryz.func41 rfl rfl rfl rfl fun F os tape output => ?_
  refine go 200 ?_
  conv => whnf
  refine Nx.load 0 rfl rfl rfl rfl (sees_all hG.words) rfl rfl ?_
  repeat' (first
    | ((with_reducible refine atBr ?_); (first | refine BrM.t rfl ?_ | refine BrM.f rfl ?_ | refine BrM.dec (fun _ => ?_) (fun _ => ?_) | refine BrM.mk (fun _ => ?_) (fun _ => ?_)) <;> conv => whnf)
    | ((with_reducible refine atAr ?_); refine Ar.i64 (by omega) (by omega) ?_; conv => whnf)
    | (fail)
    | ((with_reducible refine atOps ?_); refine go 200 ?_; conv => whnf)
    | ((with_reducible refine atPlan ?_); refine Nx.runP (n := 200) rfl (by repeat (first | exact subB.nil _ | refine subB.cons rfl ?_)) ?_; conv => whnf)
    | ((with_reducible refine atAftL ?_); refine Nx.late ?_)
    | ((fail_if_success (with_reducible refine atRet ?_)); (fail_if_success (with_reducible refine atLoop ?_)); (fail_if_success (with_reducible refine atIn ?_)); (fail_if_success (with_reducible refine atDrawn ?_)); (fail_if_success (with_reducible refine atEnd ?_)); (with_reducible refine atRun ?_); refine go 200 ?_; conv => whnf))
  refine Nx.loop (X := Nat) (fun k => k ≤ 17 ∧ s ∉ wordL.take k) (fun k => 17 - k)
    (fun k => [(0, sv s), (6, .agg ((strs wordL).map .v)), (7, iv k)]) (fun _ => []) [] (fun _ => [(0, roAll m)]) 0 ⟨Nat.zero_le _, by simp⟩ ?_ ?_ ?_ ?_ ?_
  · repeat (first | exact subE.nil _ | refine subE.cons rfl rfl ?_ | refine subE.cons' rfl (fun _ => rfl) ?_)
  · repeat (first | exact subM.nil _ | refine subM.cons rfl rfl rfl ?_)
  · repeat (first | exact subB.nil _ | refine subB.cons rfl ?_)
  · repeat (first | exact subR.nil _ | refine subR.cons rfl rfl ?_)
  intro k ⟨hk, hno⟩ ih
  by_cases hlt : k < 17
  · have hlt' : k < wordL.length := hlt
    have nx := not_take hlt' hno
    have ys : ByteArray.toList ⟨wordL[k].toArray⟩ = ByteArray.toList ⟨s.toArray⟩ → deedOf s = some k := fun h => find_yes hlt' hno (toList_eq h)
    repeat' (first
      | ((with_reducible refine atBr ?_); refine BrM.yes (by omega) ?_; conv => whnf)
      | ((with_reducible refine atAr ?_); refine Ar.to (k := .i64) (((k+1:Nat):Int)) (by omega) ⟨by omega, by omega⟩ ?_; conv => whnf)
      | ((with_reducible refine atBr ?_); (first | refine BrM.t rfl ?_ | refine BrM.f rfl ?_ | refine BrM.dec (fun _ => ?_) (fun _ => ?_) | refine BrM.mk (fun _ => ?_) (fun _ => ?_)) <;> conv => whnf)
      | ((with_reducible refine atAr ?_); refine Ar.i64 (by omega) (by omega) ?_; conv => whnf)
      | (refine Nx.elem (y := .v (str wordL[k])) rfl rfl rfl Tryz.underlying74 rfl rfl rfl hlt (strs_get hlt') ?_)
      | ((with_reducible refine atRet ?_); refine Nx.ret [0] Tryz.func41 rfl rfl ?_; (exact ⟨by rw [ys (by assumption)]; rfl, rfl⟩))
      | ((with_reducible refine atIn ?_); refine Nx.weak ((ih (k + 1) ⟨hlt, nx (by assumption)⟩ (by omega))) ?_ ?_ ?_ ?_ <;> (first | exact subM.nil _ | exact subB.nil _ | exact subR.nil _ | ((repeat (first | exact subE.nil _ | refine subE.cons rfl rfl ?_ | refine subE.cons' rfl (fun _ => rfl) ?_ | (refine subE.cons rfl ?_ ?_; · (simp; done)))); done) | ((repeat (first | exact subM.nil _ | refine subM.cons rfl rfl rfl ?_)); done) | ((repeat (first | exact subB.nil _ | refine subB.cons rfl ?_)); done) | ((repeat (first | exact subR.nil _ | refine subR.cons rfl rfl ?_)); done) | omega | (dsimp only; omega) | (skip) | skip))
      | ((with_reducible refine atOps ?_); refine go 200 ?_; conv => whnf)
      | ((with_reducible refine atPlan ?_); refine Nx.runP (n := 200) rfl (by repeat (first | exact subB.nil _ | refine subB.cons rfl ?_)) ?_; conv => whnf)
      | ((with_reducible refine atAftL ?_); refine Nx.late ?_)
      | ((fail_if_success (with_reducible refine atRet ?_)); (fail_if_success (with_reducible refine atLoop ?_)); (fail_if_success (with_reducible refine atIn ?_)); (fail_if_success (with_reducible refine atDrawn ?_)); (fail_if_success (with_reducible refine atEnd ?_)); (with_reducible refine atRun ?_); refine go 200 ?_; conv => whnf))
  · have hn : deedOf s = none := find_no (by rw [show k = wordL.length from by omega, List.take_length] at hno; exact hno)
    repeat' (first
      | ((with_reducible refine atBr ?_); refine BrM.not (by omega) ?_; conv => whnf)
      | ((with_reducible refine atBr ?_); (first | refine BrM.t rfl ?_ | refine BrM.f rfl ?_ | refine BrM.dec (fun _ => ?_) (fun _ => ?_) | refine BrM.mk (fun _ => ?_) (fun _ => ?_)) <;> conv => whnf)
      | ((with_reducible refine atAr ?_); refine Ar.i64 (by omega) (by omega) ?_; conv => whnf)
      | ((with_reducible refine atRet ?_); refine Nx.ret [0] Tryz.func41 rfl rfl ?_; (exact ⟨by rw [hn]; rfl, rfl⟩))
      | ((with_reducible refine atOps ?_); refine go 200 ?_; conv => whnf)
      | ((with_reducible refine atPlan ?_); refine Nx.runP (n := 200) rfl (by repeat (first | exact subB.nil _ | refine subB.cons rfl ?_)) ?_; conv => whnf)
      | ((with_reducible refine atAftL ?_); refine Nx.late ?_)
      | ((fail_if_success (with_reducible refine atRet ?_)); (fail_if_success (with_reducible refine atLoop ?_)); (fail_if_success (with_reducible refine atIn ?_)); (fail_if_success (with_reducible refine atDrawn ?_)); (fail_if_success (with_reducible refine atEnd ?_)); (with_reducible refine atRun ?_); refine go 200 ?_; conv => whnf))
theorem Named_ok {m : PH} (hG : Glo m) (s : Str) (hs : s.length ≤ 1000000) : FnOk Tryz.prog 63 [str s] [roAll m] (fun v Q => (match kOf s with | some k => v = .tuple #[.int .i64 k, .nilIface] | none => ∃ p, v = .tuple #[.int .i64 0, .iface 114 p]) ∧ Q = [roAll m]) := by
  have hlen : kindL.length = 4 := rfl
  have hsz : (⟨s.toArray⟩ : ByteArray).size = s.length := by simp [ByteArray.size]
  refine FnOk.start Tryz.func63 rfl rfl rfl rfl fun F os tape output => ?_
  refine go 200 ?_
  conv => whnf
  refine Nx.load 0 rfl rfl rfl rfl (sees_all hG.names) rfl rfl ?_
  repeat' (first
    | ((with_reducible refine atBr ?_); (first | refine BrM.t rfl ?_ | refine BrM.f rfl ?_ | refine BrM.dec (fun _ => ?_) (fun _ => ?_) | refine BrM.mk (fun _ => ?_) (fun _ => ?_)) <;> conv => whnf)
    | ((with_reducible refine atAr ?_); refine Ar.i64 (by omega) (by omega) ?_; conv => whnf)
    | (fail)
    | ((with_reducible refine atOps ?_); refine go 200 ?_; conv => whnf)
    | ((with_reducible refine atPlan ?_); refine Nx.runP (n := 200) rfl (by repeat (first | exact subB.nil _ | refine subB.cons rfl ?_)) ?_; conv => whnf)
    | ((with_reducible refine atAftL ?_); refine Nx.late ?_)
    | ((fail_if_success (with_reducible refine atRet ?_)); (fail_if_success (with_reducible refine atLoop ?_)); (fail_if_success (with_reducible refine atIn ?_)); (fail_if_success (with_reducible refine atDrawn ?_)); (fail_if_success (with_reducible refine atEnd ?_)); (with_reducible refine atRun ?_); refine go 200 ?_; conv => whnf))
  refine Nx.loop (X := Nat) (fun k => k ≤ 4 ∧ s ∉ kindL.take k) (fun k => 4 - k)
    (fun k => [(0, sv s), (6, .agg ((strs kindL).map .v)), (7, iv k)]) (fun _ => []) [] (fun _ => [(0, roAll m)]) 0 ⟨Nat.zero_le _, by simp⟩ ?_ ?_ ?_ ?_ ?_
  · repeat (first | exact subE.nil _ | refine subE.cons rfl rfl ?_ | refine subE.cons' rfl (fun _ => rfl) ?_)
  · repeat (first | exact subM.nil _ | refine subM.cons rfl rfl rfl ?_)
  · repeat (first | exact subB.nil _ | refine subB.cons rfl ?_)
  · repeat (first | exact subR.nil _ | refine subR.cons rfl rfl ?_)
  intro k ⟨hk, hno⟩ ih
  by_cases hlt : k < 4
  · have hlt' : k < kindL.length := hlt
    have nx := not_take hlt' hno
    have ys : ByteArray.toList ⟨kindL[k].toArray⟩ = ByteArray.toList ⟨s.toArray⟩ → kOf s = some k := fun h => find_yes hlt' hno (toList_eq h)
    repeat' (first
      | ((with_reducible refine atBr ?_); refine BrM.yes (by omega) ?_; conv => whnf)
      | ((with_reducible refine atAr ?_); refine Ar.to (k := .i64) (((k+1:Nat):Int)) (by omega) ⟨by omega, by omega⟩ ?_; conv => whnf)
      | ((with_reducible refine atBr ?_); (first | refine BrM.t rfl ?_ | refine BrM.f rfl ?_ | refine BrM.dec (fun _ => ?_) (fun _ => ?_) | refine BrM.mk (fun _ => ?_) (fun _ => ?_)) <;> conv => whnf)
      | ((with_reducible refine atAr ?_); refine Ar.i64 (by omega) (by omega) ?_; conv => whnf)
      | (refine Nx.elem (y := .v (str kindL[k])) rfl rfl rfl Tryz.underlying129 rfl rfl rfl hlt (strs_get hlt') ?_)
      | ((with_reducible refine atRet ?_); refine Nx.ret [0] Tryz.func63 rfl rfl ?_; (exact ⟨by rw [ys (by assumption)]; rfl, rfl⟩))
      | ((with_reducible refine atIn ?_); refine Nx.weak ((ih (k + 1) ⟨hlt, nx (by assumption)⟩ (by omega))) ?_ ?_ ?_ ?_ <;> (first | exact subM.nil _ | exact subB.nil _ | exact subR.nil _ | ((repeat (first | exact subE.nil _ | refine subE.cons rfl rfl ?_ | refine subE.cons' rfl (fun _ => rfl) ?_ | (refine subE.cons rfl ?_ ?_; · (simp; done)))); done) | ((repeat (first | exact subM.nil _ | refine subM.cons rfl rfl rfl ?_)); done) | ((repeat (first | exact subB.nil _ | refine subB.cons rfl ?_)); done) | ((repeat (first | exact subR.nil _ | refine subR.cons rfl rfl ?_)); done) | omega | (dsimp only; omega) | (skip) | skip))
      | ((with_reducible refine atOps ?_); refine go 200 ?_; conv => whnf)
      | ((with_reducible refine atPlan ?_); refine Nx.runP (n := 200) rfl (by repeat (first | exact subB.nil _ | refine subB.cons rfl ?_)) ?_; conv => whnf)
      | ((with_reducible refine atAftL ?_); refine Nx.late ?_)
      | ((fail_if_success (with_reducible refine atRet ?_)); (fail_if_success (with_reducible refine atLoop ?_)); (fail_if_success (with_reducible refine atIn ?_)); (fail_if_success (with_reducible refine atDrawn ?_)); (fail_if_success (with_reducible refine atEnd ?_)); (with_reducible refine atRun ?_); refine go 200 ?_; conv => whnf))
  · have hn : kOf s = none := find_no (by rw [show k = kindL.length from by omega, List.take_length] at hno; exact hno)
    repeat' (first
      | ((with_reducible refine atBr ?_); refine BrM.not (by omega) ?_; conv => whnf)
      | ((with_reducible refine atBr ?_); (first | refine BrM.t rfl ?_ | refine BrM.f rfl ?_ | refine BrM.dec (fun _ => ?_) (fun _ => ?_) | refine BrM.mk (fun _ => ?_) (fun _ => ?_)) <;> conv => whnf)
      | ((with_reducible refine atAr ?_); refine Ar.i64 (by omega) (by omega) ?_; conv => whnf)
      | ((with_reducible refine (atCall 39) ?_); refine Nx.call [] [9] rfl rfl rfl rfl rfl ((Wrap_ok _ _ 6)) rfl fun v Q hQ => ?_; obtain ⟨b,rfl,rfl⟩ := hQ)
      | ((with_reducible refine atRet ?_); refine Nx.ret [0] Tryz.func63 rfl rfl ?_; (exact ⟨by rw [hn]; exact ⟨_, rfl⟩, rfl⟩))
      | ((with_reducible refine atOps ?_); refine go 200 ?_; conv => whnf)
      | ((with_reducible refine atPlan ?_); refine Nx.runP (n := 200) rfl (by repeat (first | exact subB.nil _ | refine subB.cons rfl ?_)) ?_; conv => whnf)
      | ((with_reducible refine atAftL ?_); refine Nx.late ?_)
      | ((fail_if_success (with_reducible refine atRet ?_)); (fail_if_success (with_reducible refine atLoop ?_)); (fail_if_success (with_reducible refine atIn ?_)); (fail_if_success (with_reducible refine atDrawn ?_)); (fail_if_success (with_reducible refine atEnd ?_)); (with_reducible refine atRun ?_); refine go 200 ?_; conv => whnf))

theorem kOf_some {s : Str} {k : Nat} (h : kOf s = some k) : k < 4 ∧ s = kindL.getD k [] := by
  unfold kOf at h
  obtain ⟨h1, h2, _⟩ := List.findIdx?_eq_some_iff_getElem.1 h
  refine ⟨h1, ?_⟩
  have : kindL[k] = s := by simpa using h2
  rw [List.getD_eq_getElem?_getD, List.getElem?_eq_getElem h1, this]; rfl
theorem kOf_none {s : Str} (h : kOf s = none) : ∀ k, k < 4 → s ≠ kindL.getD k [] := by
  unfold kOf at h
  rw [List.findIdx?_eq_none_iff] at h
  intro k hk e
  have h1 : k < kindL.length := hk
  have := h kindL[k] (List.getElem_mem h1)
  rw [List.getD_eq_getElem?_getD, List.getElem?_eq_getElem h1] at e
  simp only [decide_eq_false_iff_not] at this
  exact this e.symm
theorem rw_none {s : Str} (h : pairC 58 s = none) : readWay s = if s = kindL.getD 0 [] then some ⟨0, 0, 0⟩ else if s = kindL.getD 2 [] then some ⟨2, 0, 0⟩ else none := by
  unfold readWay; rw [h]
theorem rw_some {s a b : Str} (h : pairC 58 s = some (a, b)) : readWay s = match numOf b with | none => none | some n => if a = kindL.getD 1 [] then some ⟨1, n, 0⟩ else if a = kindL.getD 3 [] then some ⟨3, 0, n⟩ else none := by
  have h0 : s ≠ kindL.getD 0 [] := fun e => by
    have : pairC 58 (kindL.getD 0 []) = none := by decide
    rw [e, this] at h; cases h
  have h2 : s ≠ kindL.getD 2 [] := fun e => by
    have : pairC 58 (kindL.getD 2 []) = none := by decide
    rw [e, this] at h; cases h
  unfold readWay; rw [if_neg h0, if_neg h2, h] <;> rfl
theorem pair_len {s a b : Str} (h : pairC 58 s = some (a, b)) : a.length ≤ s.length ∧ b.length ≤ s.length := by
  rw [(pairC_some.1 h).1]; simp; omega
theorem way_rok {m : PH} (hG : Glo m) (b : Nat) (ws : List Str) (bad : Bool) (hl : ws.length ≤ 1000000) (hs : ∀ w ∈ ws, w.length ≤ 1000000) : FnOk Tryz.prog 45 [.pointer (some ⟨b, 0, none⟩)] [roAll m, rdr b ws bad]
    (fun v Q => ∃ w : Way, v = .agg #[.int .i64 w.kind, .int .i64 w.tries, .int .i64 w.time] ∧ (∀ w', readWay (ws.headD []) = some w' → w = w') ∧ Q = [roAll m, rdr b ws.tail (bad || (readWay (ws.headD [])).isNone)]) := by
  obtain ⟨s, hse⟩ : ∃ s, s = ws.headD [] := ⟨_, rfl⟩
  have hh : s.length ≤ 1000000 := by
    rw [hse]
    cases ws with
    | nil => simp
    | cons x r => exact hs x List.mem_cons_self
  have hb : (bad || ws.isEmpty || (readWay s).isNone) = (bad || (readWay s).isNone) := by
    cases ws with
    | nil => subst hse; cases bad <;> rfl
    | cons x r => simp
  rw [← hse]
  obtain ⟨bd, hbd⟩ : ∃ bd, bd = (bad || ws.isEmpty) := ⟨_, rfl⟩
  rw [← hbd] at hb
  refine FnOk.start Tryz.func45 rfl rfl rfl rfl fun F os tape output => ?_
  refine go 200 ?_
  conv => whnf
  refine Nx.call [1] [1] rfl rfl rfl rfl rfl (word_ok b ws bad hl) rfl fun v Q hQ => ?_
  obtain ⟨rfl, rfl⟩ := hQ
  rw [← hse, ← hbd]
  refine go 200 ?_
  conv => whnf
  refine Nx.call [0] [0] rfl rfl rfl rfl rfl (Cut_ok hG s (by omega)) rfl fun v Q hQ => ?_
  obtain ⟨rfl, rfl⟩ := hQ
  cases hp : pairC 58 s with
  | none =>
    have hrw := rw_none hp
    refine go 200 ?_
    conv => whnf
    refine Nx.call [0] [0] rfl rfl rfl rfl rfl (Named_ok hG s (by omega)) rfl fun v Q hQ => ?_
    obtain ⟨hQ, rfl⟩ := hQ
    cases hk : kOf s with
    | none =>
      rw [hk] at hQ
      obtain ⟨p, rfl⟩ := hQ
      have hn := kOf_none hk
      have hR : readWay s = none := by
        rw [hrw, if_neg (hn 0 (by omega)), if_neg (hn 2 (by omega))]
      refine Nx.rdO 1 50 2 rfl fun A c hc => ?_
      refine Nx.inn 50 [0] rfl ⟨rfl, rfl⟩ rfl ⟨rfl, trivial⟩ ?_
      repeat' (first
        | ((with_reducible refine atBr ?_); (first | refine BrM.t rfl ?_ | refine BrM.f rfl ?_ | refine BrM.dec (fun _ => ?_) (fun _ => ?_) | refine BrM.mk (fun _ => ?_) (fun _ => ?_)) <;> conv => whnf)
        | ((with_reducible refine atAr ?_); refine Ar.i64 (by omega) (by omega) ?_; conv => whnf)
        | ((with_reducible refine atRet ?_); refine Nx.out 50 rfl rfl rfl rfl ?_; refine Nx.rdC 50 2 1 rfl (by first | rfl | omega) hc ?_; refine Nx.ret [0,1] Tryz.func45 rfl rfl ?_; (exact ⟨⟨0, 0, 0⟩, rfl, (fun w' h => by rw [hR] at h; cases h), by rw [hR]; simp⟩))
        | ((with_reducible refine atOps ?_); refine go 200 ?_; conv => whnf)
        | ((with_reducible refine atPlan ?_); refine Nx.runP (n := 200) rfl (by repeat (first | exact subB.nil _ | refine subB.cons rfl ?_)) ?_; conv => whnf)
        | ((with_reducible refine atAftL ?_); refine Nx.late ?_)
        | ((fail_if_success (with_reducible refine atRet ?_)); (fail_if_success (with_reducible refine atLoop ?_)); (fail_if_success (with_reducible refine atIn ?_)); (fail_if_success (with_reducible refine atDrawn ?_)); (fail_if_success (with_reducible refine atEnd ?_)); (with_reducible refine atRun ?_); refine go 200 ?_; conv => whnf))
    | some k =>
      rw [hk] at hQ
      simp only at hQ
      subst hQ
      obtain ⟨hk4, ha⟩ := kOf_some hk
      match k, hk4, ha with
      | 0, _, ha =>
        have hR : readWay s = some ⟨0, 0, 0⟩ := by
          rw [hrw, ha]; rfl
        repeat' (first
          | ((with_reducible refine atBr ?_); (first | refine BrM.t rfl ?_ | refine BrM.f rfl ?_ | refine BrM.dec (fun _ => ?_) (fun _ => ?_) | refine BrM.mk (fun _ => ?_) (fun _ => ?_)) <;> conv => whnf)
          | ((with_reducible refine atAr ?_); refine Ar.i64 (by omega) (by omega) ?_; conv => whnf)
          | ((with_reducible refine atRet ?_); refine Nx.ret [0,1] Tryz.func45 rfl rfl ?_; (exact ⟨⟨0, 0, 0⟩, rfl, (fun w' h => by rw [hR] at h; cases h; rfl), by rw [← hb, hR]; simp⟩))
          | ((with_reducible refine atOps ?_); refine go 200 ?_; conv => whnf)
          | ((with_reducible refine atPlan ?_); refine Nx.runP (n := 200) rfl (by repeat (first | exact subB.nil _ | refine subB.cons rfl ?_)) ?_; conv => whnf)
          | ((with_reducible refine atAftL ?_); refine Nx.late ?_)
          | ((fail_if_success (with_reducible refine atRet ?_)); (fail_if_success (with_reducible refine atLoop ?_)); (fail_if_success (with_reducible refine atIn ?_)); (fail_if_success (with_reducible refine atDrawn ?_)); (fail_if_success (with_reducible refine atEnd ?_)); (with_reducible refine atRun ?_); refine go 200 ?_; conv => whnf))
      | 1, _, ha =>
        have hR : readWay s = none := by
          rw [hrw, ha]; first | decide | rfl
        refine Nx.rdO 1 50 2 rfl fun A c hc => ?_
        refine Nx.inn 50 [0] rfl ⟨rfl, rfl⟩ rfl ⟨rfl, trivial⟩ ?_
        repeat' (first
          | ((with_reducible refine atBr ?_); (first | refine BrM.t rfl ?_ | refine BrM.f rfl ?_ | refine BrM.dec (fun _ => ?_) (fun _ => ?_) | refine BrM.mk (fun _ => ?_) (fun _ => ?_)) <;> conv => whnf)
          | ((with_reducible refine atAr ?_); refine Ar.i64 (by omega) (by omega) ?_; conv => whnf)
          | ((with_reducible refine atRet ?_); refine Nx.out 50 rfl rfl rfl rfl ?_; refine Nx.rdC 50 2 1 rfl (by first | rfl | omega) hc ?_; refine Nx.ret [0,1] Tryz.func45 rfl rfl ?_; (exact ⟨⟨1, 0, 0⟩, rfl, (fun w' h => by rw [hR] at h; cases h), by rw [hR]; simp⟩))
          | ((with_reducible refine atOps ?_); refine go 200 ?_; conv => whnf)
          | ((with_reducible refine atPlan ?_); refine Nx.runP (n := 200) rfl (by repeat (first | exact subB.nil _ | refine subB.cons rfl ?_)) ?_; conv => whnf)
          | ((with_reducible refine atAftL ?_); refine Nx.late ?_)
          | ((fail_if_success (with_reducible refine atRet ?_)); (fail_if_success (with_reducible refine atLoop ?_)); (fail_if_success (with_reducible refine atIn ?_)); (fail_if_success (with_reducible refine atDrawn ?_)); (fail_if_success (with_reducible refine atEnd ?_)); (with_reducible refine atRun ?_); refine go 200 ?_; conv => whnf))
      | 2, _, ha =>
        have hR : readWay s = some ⟨2, 0, 0⟩ := by
          rw [hrw, ha]; rfl
        repeat' (first
          | ((with_reducible refine atBr ?_); (first | refine BrM.t rfl ?_ | refine BrM.f rfl ?_ | refine BrM.dec (fun _ => ?_) (fun _ => ?_) | refine BrM.mk (fun _ => ?_) (fun _ => ?_)) <;> conv => whnf)
          | ((with_reducible refine atAr ?_); refine Ar.i64 (by omega) (by omega) ?_; conv => whnf)
          | ((with_reducible refine atRet ?_); refine Nx.ret [0,1] Tryz.func45 rfl rfl ?_; (exact ⟨⟨2, 0, 0⟩, rfl, (fun w' h => by rw [hR] at h; cases h; rfl), by rw [← hb, hR]; simp⟩))
          | ((with_reducible refine atOps ?_); refine go 200 ?_; conv => whnf)
          | ((with_reducible refine atPlan ?_); refine Nx.runP (n := 200) rfl (by repeat (first | exact subB.nil _ | refine subB.cons rfl ?_)) ?_; conv => whnf)
          | ((with_reducible refine atAftL ?_); refine Nx.late ?_)
          | ((fail_if_success (with_reducible refine atRet ?_)); (fail_if_success (with_reducible refine atLoop ?_)); (fail_if_success (with_reducible refine atIn ?_)); (fail_if_success (with_reducible refine atDrawn ?_)); (fail_if_success (with_reducible refine atEnd ?_)); (with_reducible refine atRun ?_); refine go 200 ?_; conv => whnf))
      | 3, _, ha =>
        have hR : readWay s = none := by
          rw [hrw, ha]; first | decide | rfl
        refine Nx.rdO 1 50 2 rfl fun A c hc => ?_
        refine Nx.inn 50 [0] rfl ⟨rfl, rfl⟩ rfl ⟨rfl, trivial⟩ ?_
        repeat' (first
          | ((with_reducible refine atBr ?_); (first | refine BrM.t rfl ?_ | refine BrM.f rfl ?_ | refine BrM.dec (fun _ => ?_) (fun _ => ?_) | refine BrM.mk (fun _ => ?_) (fun _ => ?_)) <;> conv => whnf)
          | ((with_reducible refine atAr ?_); refine Ar.i64 (by omega) (by omega) ?_; conv => whnf)
          | ((with_reducible refine atRet ?_); refine Nx.out 50 rfl rfl rfl rfl ?_; refine Nx.rdC 50 2 1 rfl (by first | rfl | omega) hc ?_; refine Nx.ret [0,1] Tryz.func45 rfl rfl ?_; (exact ⟨⟨3, 0, 0⟩, rfl, (fun w' h => by rw [hR] at h; cases h), by rw [hR]; simp⟩))
          | ((with_reducible refine atOps ?_); refine go 200 ?_; conv => whnf)
          | ((with_reducible refine atPlan ?_); refine Nx.runP (n := 200) rfl (by repeat (first | exact subB.nil _ | refine subB.cons rfl ?_)) ?_; conv => whnf)
          | ((with_reducible refine atAftL ?_); refine Nx.late ?_)
          | ((fail_if_success (with_reducible refine atRet ?_)); (fail_if_success (with_reducible refine atLoop ?_)); (fail_if_success (with_reducible refine atIn ?_)); (fail_if_success (with_reducible refine atDrawn ?_)); (fail_if_success (with_reducible refine atEnd ?_)); (with_reducible refine atRun ?_); refine go 200 ?_; conv => whnf))
  | some p =>
    obtain ⟨a, b2⟩ := p
    obtain ⟨la, lb⟩ := pair_len hp
    have hrw := rw_some hp
    refine go 200 ?_
    conv => whnf
    refine Nx.call [0] [0] rfl rfl rfl rfl rfl (Named_ok hG a (by omega)) rfl fun v Q hQ => ?_
    obtain ⟨hQ, rfl⟩ := hQ
    cases hk : kOf a with
    | none =>
      rw [hk] at hQ
      obtain ⟨p, rfl⟩ := hQ
      have hn := kOf_none hk
      have hR : readWay s = none := by
        rw [hrw]; cases numOf b2 with | none => rfl | some n => exact (if_neg (hn 1 (by omega))).trans (if_neg (hn 3 (by omega)))
      refine Nx.rdO 1 50 2 rfl fun A c hc => ?_
      refine Nx.inn 50 [0] rfl ⟨rfl, rfl⟩ rfl ⟨rfl, trivial⟩ ?_
      repeat' (first
        | ((with_reducible refine atBr ?_); (first | refine BrM.t rfl ?_ | refine BrM.f rfl ?_ | refine BrM.dec (fun _ => ?_) (fun _ => ?_) | refine BrM.mk (fun _ => ?_) (fun _ => ?_)) <;> conv => whnf)
        | ((with_reducible refine atAr ?_); refine Ar.i64 (by omega) (by omega) ?_; conv => whnf)
        | ((with_reducible refine atRet ?_); refine Nx.out 50 rfl rfl rfl rfl ?_; refine Nx.rdC 50 2 1 rfl (by first | rfl | omega) hc ?_; refine Nx.ret [0,1] Tryz.func45 rfl rfl ?_; (exact ⟨⟨0, 0, 0⟩, rfl, (fun w' h => by rw [hR] at h; cases h), by rw [hR]; simp⟩))
        | ((with_reducible refine atOps ?_); refine go 200 ?_; conv => whnf)
        | ((with_reducible refine atPlan ?_); refine Nx.runP (n := 200) rfl (by repeat (first | exact subB.nil _ | refine subB.cons rfl ?_)) ?_; conv => whnf)
        | ((with_reducible refine atAftL ?_); refine Nx.late ?_)
        | ((fail_if_success (with_reducible refine atRet ?_)); (fail_if_success (with_reducible refine atLoop ?_)); (fail_if_success (with_reducible refine atIn ?_)); (fail_if_success (with_reducible refine atDrawn ?_)); (fail_if_success (with_reducible refine atEnd ?_)); (with_reducible refine atRun ?_); refine go 200 ?_; conv => whnf))
    | some k =>
      rw [hk] at hQ
      simp only at hQ
      subst hQ
      obtain ⟨hk4, ha⟩ := kOf_some hk
      match k, hk4, ha with
      | 0, _, ha =>
        have hR : readWay s = none := by
          rw [hrw, ha]; cases numOf b2 <;> first | rfl | decide
        refine Nx.rdO 1 50 2 rfl fun A c hc => ?_
        refine Nx.inn 50 [0] rfl ⟨rfl, rfl⟩ rfl ⟨rfl, trivial⟩ ?_
        repeat' (first
          | ((with_reducible refine atBr ?_); (first | refine BrM.t rfl ?_ | refine BrM.f rfl ?_ | refine BrM.dec (fun _ => ?_) (fun _ => ?_) | refine BrM.mk (fun _ => ?_) (fun _ => ?_)) <;> conv => whnf)
          | ((with_reducible refine atAr ?_); refine Ar.i64 (by omega) (by omega) ?_; conv => whnf)
          | ((with_reducible refine atRet ?_); refine Nx.out 50 rfl rfl rfl rfl ?_; refine Nx.rdC 50 2 1 rfl (by first | rfl | omega) hc ?_; refine Nx.ret [0,1] Tryz.func45 rfl rfl ?_; (exact ⟨⟨0, 0, 0⟩, rfl, (fun w' h => by rw [hR] at h; cases h), by rw [hR]; simp⟩))
          | ((with_reducible refine atOps ?_); refine go 200 ?_; conv => whnf)
          | ((with_reducible refine atPlan ?_); refine Nx.runP (n := 200) rfl (by repeat (first | exact subB.nil _ | refine subB.cons rfl ?_)) ?_; conv => whnf)
          | ((with_reducible refine atAftL ?_); refine Nx.late ?_)
          | ((fail_if_success (with_reducible refine atRet ?_)); (fail_if_success (with_reducible refine atLoop ?_)); (fail_if_success (with_reducible refine atIn ?_)); (fail_if_success (with_reducible refine atDrawn ?_)); (fail_if_success (with_reducible refine atEnd ?_)); (with_reducible refine atRun ?_); refine go 200 ?_; conv => whnf))
      | 1, _, ha =>
        have hR : readWay s = (numOf b2).map fun n => ⟨1, n, 0⟩ := by
          rw [hrw, ha]; cases numOf b2 <;> rfl
        repeat' (first
          | ((with_reducible refine atBr ?_); (first | refine BrM.t rfl ?_ | refine BrM.f rfl ?_ | refine BrM.dec (fun _ => ?_) (fun _ => ?_) | refine BrM.mk (fun _ => ?_) (fun _ => ?_)) <;> conv => whnf)
          | ((with_reducible refine atAr ?_); refine Ar.i64 (by omega) (by omega) ?_; conv => whnf)
          | ((with_reducible refine (atCall 64) ?_); refine Nx.call [0,1] [0,1] rfl rfl rfl rfl rfl ((value_ok hG b b2 ws.tail bd (by omega))) rfl fun v Q hQ => ?_; obtain ⟨rfl, rfl⟩ := hQ)
          | ((with_reducible refine atRet ?_); refine Nx.ret [0,1] Tryz.func45 rfl rfl ?_; (exact ⟨⟨1, (numOf b2).getD 0, 0⟩, rfl, (fun w' h => by rw [hR] at h; cases hb2 : numOf b2 with | none => rw [hb2] at h; cases h | some n => rw [hb2] at h; cases h; rfl), by rw [← hb, hR]; cases numOf b2 <;> rfl⟩))
          | ((with_reducible refine atOps ?_); refine go 200 ?_; conv => whnf)
          | ((with_reducible refine atPlan ?_); refine Nx.runP (n := 200) rfl (by repeat (first | exact subB.nil _ | refine subB.cons rfl ?_)) ?_; conv => whnf)
          | ((with_reducible refine atAftL ?_); refine Nx.late ?_)
          | ((fail_if_success (with_reducible refine atRet ?_)); (fail_if_success (with_reducible refine atLoop ?_)); (fail_if_success (with_reducible refine atIn ?_)); (fail_if_success (with_reducible refine atDrawn ?_)); (fail_if_success (with_reducible refine atEnd ?_)); (with_reducible refine atRun ?_); refine go 200 ?_; conv => whnf))
      | 2, _, ha =>
        have hR : readWay s = none := by
          rw [hrw, ha]; cases numOf b2 <;> first | rfl | decide
        refine Nx.rdO 1 50 2 rfl fun A c hc => ?_
        refine Nx.inn 50 [0] rfl ⟨rfl, rfl⟩ rfl ⟨rfl, trivial⟩ ?_
        repeat' (first
          | ((with_reducible refine atBr ?_); (first | refine BrM.t rfl ?_ | refine BrM.f rfl ?_ | refine BrM.dec (fun _ => ?_) (fun _ => ?_) | refine BrM.mk (fun _ => ?_) (fun _ => ?_)) <;> conv => whnf)
          | ((with_reducible refine atAr ?_); refine Ar.i64 (by omega) (by omega) ?_; conv => whnf)
          | ((with_reducible refine atRet ?_); refine Nx.out 50 rfl rfl rfl rfl ?_; refine Nx.rdC 50 2 1 rfl (by first | rfl | omega) hc ?_; refine Nx.ret [0,1] Tryz.func45 rfl rfl ?_; (exact ⟨⟨2, 0, 0⟩, rfl, (fun w' h => by rw [hR] at h; cases h), by rw [hR]; simp⟩))
          | ((with_reducible refine atOps ?_); refine go 200 ?_; conv => whnf)
          | ((with_reducible refine atPlan ?_); refine Nx.runP (n := 200) rfl (by repeat (first | exact subB.nil _ | refine subB.cons rfl ?_)) ?_; conv => whnf)
          | ((with_reducible refine atAftL ?_); refine Nx.late ?_)
          | ((fail_if_success (with_reducible refine atRet ?_)); (fail_if_success (with_reducible refine atLoop ?_)); (fail_if_success (with_reducible refine atIn ?_)); (fail_if_success (with_reducible refine atDrawn ?_)); (fail_if_success (with_reducible refine atEnd ?_)); (with_reducible refine atRun ?_); refine go 200 ?_; conv => whnf))
      | 3, _, ha =>
        have hR : readWay s = (numOf b2).map fun n => ⟨3, 0, n⟩ := by
          rw [hrw, ha]; cases numOf b2 <;> rfl
        repeat' (first
          | ((with_reducible refine atBr ?_); (first | refine BrM.t rfl ?_ | refine BrM.f rfl ?_ | refine BrM.dec (fun _ => ?_) (fun _ => ?_) | refine BrM.mk (fun _ => ?_) (fun _ => ?_)) <;> conv => whnf)
          | ((with_reducible refine atAr ?_); refine Ar.i64 (by omega) (by omega) ?_; conv => whnf)
          | ((with_reducible refine (atCall 64) ?_); refine Nx.call [0,1] [0,1] rfl rfl rfl rfl rfl ((value_ok hG b b2 ws.tail bd (by omega))) rfl fun v Q hQ => ?_; obtain ⟨rfl, rfl⟩ := hQ)
          | ((with_reducible refine atRet ?_); refine Nx.ret [0,1] Tryz.func45 rfl rfl ?_; (exact ⟨⟨3, 0, (numOf b2).getD 0⟩, rfl, (fun w' h => by rw [hR] at h; cases hb2 : numOf b2 with | none => rw [hb2] at h; cases h | some n => rw [hb2] at h; cases h; rfl), by rw [← hb, hR]; cases numOf b2 <;> rfl⟩))
          | ((with_reducible refine atOps ?_); refine go 200 ?_; conv => whnf)
          | ((with_reducible refine atPlan ?_); refine Nx.runP (n := 200) rfl (by repeat (first | exact subB.nil _ | refine subB.cons rfl ?_)) ?_; conv => whnf)
          | ((with_reducible refine atAftL ?_); refine Nx.late ?_)
          | ((fail_if_success (with_reducible refine atRet ?_)); (fail_if_success (with_reducible refine atLoop ?_)); (fail_if_success (with_reducible refine atIn ?_)); (fail_if_success (with_reducible refine atDrawn ?_)); (fail_if_success (with_reducible refine atEnd ?_)); (with_reducible refine atRun ?_); refine go 200 ?_; conv => whnf))
end Go.Proofs.YtkfnbpbhcnekiaaGreatDoor
