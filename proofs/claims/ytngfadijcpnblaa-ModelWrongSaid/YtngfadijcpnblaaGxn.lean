/- The evaluator is sound. -/
import Derived.Test.YtngfadijcpnblaaGxm
namespace Go.Proofs.Ytngfadijcpnblaa
open Go.RowKit

theorem calls_of_ret {P : Program} {f : Nat} {fn : Func} {c : Code} {args : Array Value} {R : Value → List SP → Prop} {F : List SP} {w : World} (hf : P.funcs[f]? = some fn) (hb : fn.body = some c)
    (h : Ret ⟨P, f, fn, fn.ntmps, R, F, w.os, w.tape, w.output⟩ [.code c] { tmps := args ++ Array.replicate (fn.ntmps - args.size) undef, defers := [] } w) :
    Calls P f args w fun e w' => ∃ v Q, e = .returned v ∧ R v Q ∧ w'.os = w.os ∧ w'.tape = w.tape ∧ w'.output = w.output ∧ SatW (Q ++ F) w' := by
  intro cs
  obtain ⟨e, w', fr, ⟨v, Q, h1, h2, h3, h4, h5, h6⟩, hc, hfn, hl⟩ := h cs
  have henter : Frame.enter P f args .normal = (base ⟨P, f, fn, fn.ntmps, R, F, w.os, w.tape, w.output⟩).at { tmps := args ++ Array.replicate (fn.ntmps - args.size) undef, defers := [] } [.code c] := by
    simp [Frame.enter, Frame.at, hf, hb, base]
  rw [henter]
  exact ⟨e, w', fr, ⟨v, Q, h1, h2, h3, h4, h5, h6⟩, hc, hfn, hl⟩
theorem look_argG (β : Nat → Nat) : ∀ (vs : List SV) (k s : Nat) (x : SV), look (argG k vs) s = some x → k ≤ s ∧ (vs.map (SV.den β))[s - k]? = some (x.den β)
  | [], k, s, x, h => by cases h
  | v :: r, k, s, x, h => by
    simp only [argG, look_cons] at h
    by_cases e : k = s
    · subst e
      simp at h
      subst h
      simp
    · rw [if_neg e] at h
      obtain ⟨h1, h2⟩ := look_argG β r (k + 1) s x h
      refine ⟨by omega, ?_⟩
      rw [show s - k = (s - (k + 1)) + 1 from by omega]
      exact h2

/-- What was there as a region began. -/
def heldS (β0 : Nat → Nat) (m0 : Mem) (g0 : GMem) (F : List SP) : World → Prop := fun w => SatW (memSP β0 m0 ++ (gmSP β0 g0 ++ F)) w
def Shape (s : GS) (m0 : Mem) (g0 : GMem) (n0 : Nat) : Prop := (∃ n1, s.mem = n1 ++ m0 ∧ ∀ e ∈ n1, n0 ≤ e.1) ∧ (∃ n2, s.gm = n2 ++ g0 ∧ ∀ e ∈ n2, n0 ≤ e.1)
theorem Shape.held {g : Cx} {β β0 : Nat → Nat} {s : GS} {L : Res} {a : Act} {w : World} {m0 : Mem} {g0 : GMem} {n0 : Nat} (h : Shape s m0 g0 n0) (hr : RelG g β s L a w) (hag : agree n0 β0 β) (hm : ltM n0 m0) (hg : ltG n0 g0) : heldS β0 m0 g0 (L.map (·.2) ++ g.F) w := by
  obtain ⟨⟨n1, h1, _⟩, n2, h2, _⟩ := h
  have hs := hr.sat'
  rw [h1, h2] at hs
  unfold heldS
  rw [← memSP_agree hag hm, ← gmSP_agree hag hg]
  have e1 : memSP β (n1 ++ m0) = memSP β n1 ++ memSP β m0 := by simp [memSP]
  have e2 : gmSP β (n2 ++ g0) = gmSP β n2 ++ gmSP β g0 := by simp [gmSP]
  rw [e1, e2, List.append_assoc] at hs
  have h3 := hs.app_right.swapHead
  rw [List.append_assoc] at h3
  exact h3.app_right.swapHead
theorem Keeps.shape {s s' : GS} {m0 : Mem} {g0 : GMem} {n0 : Nat} (h : Keeps n0 s s') (hs : Shape s m0 g0 n0) (hm : ltM n0 m0) (hg : ltG n0 g0) : Shape s' m0 g0 n0 :=
  h m0 g0 hs.1 hs.2 (fun e he => (hm e he).1) (fun e he => by have := (hg e he).1; omega)

section
variable {P : Program} {f : Nat} {fn : Func} {R : Value → List SP → Prop} {F : List SP} {os : Os} {tape : Nat → Question → Nat} {output : Array (Nat × ByteArray)} {β : Nat → Nat} {s : GS} {L : Res} {a : Act} {w : World}

theorem at_world (hr : RelG ⟨P, f, fn, fn.ntmps, R, F, os, tape, output⟩ β s L a w) (m0 : Mem) (g0 : GMem) (X : List SP) (w' : World) (h : SatW (memSP β m0 ++ (gmSP β g0 ++ X)) w') :
    RelG ⟨P, f, fn, fn.ntmps, R, X, w'.os, w'.tape, w'.output⟩ β { s with mem := m0, gm := g0 } [] a w' :=
  RelG.mk' hr.defers hr.size hr.env rfl rfl rfl (by simpa using h)

theorem lookR_sound {all : Array Oper} {Q : Exit → Act → World → Prop} {m0 : Mem} {g0 : GMem} {hold : Bool} {n0 : Nat} {β0 : Nat → Nat} {rest : PT} (hr : RelG ⟨P, f, fn, fn.ntmps, R, F, os, tape, output⟩ β s L a w)
    (hag : agree n0 β0 β) (hm : ltM n0 m0) (hg : ltG n0 g0) (hh : hold = true → heldS β0 m0 g0 (L.map (·.2) ++ F) w) {pi : Bool} {env' : Env} {i : Nat} : ∀ {rd : List Nat}, lookR P fn.ntmps all s.env m0 g0 hold rd = some (pi, env', i) →
    (∀ a', RelG ⟨P, f, fn, fn.ntmps, R, F, os, tape, output⟩ β { s with env := env' } L a' w → planRunT P all Q (heldS β0 m0 g0 (L.map (·.2) ++ F)) rest false a' w) →
    planRunT P all Q (heldS β0 m0 g0 (L.map (·.2) ++ F)) (mkP pi i rest) false a w
  | [], h, _ => by cases h
  | j :: rd, h, hk => by
    simp only [lookR] at h
    split at h <;> try (cases h; done)
    rename_i o ho
    have ho' : all[j]? = some o := by rw [getL_eq, Array.getElem?_toList] at ho; exact ho
    split at h <;> try (cases h; done)
    rename_i hd
    split at h <;> try (cases h; done)
    · rename_i hgd
      split at h <;> cases h
      rename_i hp
      exact ⟨o, undef, ho', .inr ⟨guardG_no hr hgd, rfl⟩, hk _ (RelG.putE (x := .c (.v undef)) hr hd hp)⟩
    · rename_i hgd
      have hw := guardG_yes hr hgd
      split at h
      · rename_i x hx
        split at h <;> cases h
        rename_i hp
        refine ⟨o, x.den β, ho', .inl ⟨hw, fun w' _ => ?_⟩, hk _ (hr.putE hd hp)⟩
        have h0 := at_world hr [] [] [] w' (SatW.nil w')
        exact outV_ok (pureX_ok h0 o) hx
      · split at h
        · exact lookR_sound hr hag hm hg hh h hk
        · split at h
          · rename_i x hx
            split at h <;> cases h
            rename_i hp
            refine ⟨o, x.den β, ho', .inl ⟨hw, fun w' hw' => ?_⟩, hh rfl, hk _ (hr.putE hd hp)⟩
            have h0 := at_world hr m0 g0 (L.map (·.2) ++ F) w' (by
              rw [memSP_agree hag hm, gmSP_agree hag hg]
              exact hw')
            exact outV_ok (pureX_ok h0 o) hx
          · exact lookR_sound hr hag hm hg hh h hk

theorem callF_run (hng : ∀ (f : Nat) (fn : Func), P.funcs[f]? = some fn → (fn.name == "runtime.NumGoroutine") = false) {f' : Nat} {fn' : Func} {c : Code} (hf : P.funcs[f']? = some fn') (hb : fn'.body = some c) (as : Array Value) (w : World) : (callFunc f' as).run P w = .ok (.enter f' as) w := by
  have hname : ¬ fn'.name = "runtime.NumGoroutine" := by simpa using hng _ _ hf
  simp [callFunc, hf, hname, hb]

/-- Behind a call: the caller's state. -/
theorem back (hr : RelG ⟨P, f, fn, fn.ntmps, R, F, os, tape, output⟩ β s L a w) (hb : Bd s) {β' : Nat → Nat} (hag : agree s.nl β β') {t : GS} {w' : World} (h1 : w'.os = w.os) (h2 : w'.tape = w.tape) (h3 : w'.output = w.output)
    (hs : SatW ((memSP β' t.mem ++ (gmSP β' t.gm ++ [])) ++ (L.map (·.2) ++ F)) w') : RelG ⟨P, f, fn, fn.ntmps, R, F, os, tape, output⟩ β' ⟨s.env, t.mem, t.gm, t.nl, t.low⟩ L a w' := by
  have h0 := hr.agree hb hag
  refine RelG.mk' h0.defers h0.size h0.env (h1.trans h0.os) (h2.trans h0.tape) (h3.trans h0.output) ?_
  rw [List.append_nil, List.append_assoc] at hs
  exact hs
end

def GxOk (P : Program) (fn : Func) (s : GS) (c : GC) (r : GR) : Prop :=
  ∀ (f : Nat) (R : Value → List SP → Prop) (F : List SP) (os : Os) (tape : Nat → Question → Nat) (output : Array (Nat × ByteArray)) (β : Nat → Nat) (L : Res) (a : Act) (w : World), P.funcs[f]? = some fn →
    RelG ⟨P, f, fn, fn.ntmps, R, F, os, tape, output⟩ β s L a w → Bd s →
    match c with
    | .run k => (∀ β', agree s.nl β β' → R (r.v.den β') (memSP β' r.s.mem ++ (gmSP β' r.s.gm ++ L.map (·.2)))) → Ret ⟨P, f, fn, fn.ntmps, R, F, os, tape, output⟩ k a w
    | .ops all rest k => (∀ β', agree s.nl β β' → R (r.v.den β') (memSP β' r.s.mem ++ (gmSP β' r.s.gm ++ L.map (·.2)))) → OpsC ⟨P, f, fn, fn.ntmps, R, F, os, tape, output⟩ all rest k a w
    | .dr all _ m0 g0 n0 hold => ∀ (β0 : Nat → Nat) (Q : Exit → Act → World → Prop), agree n0 β0 β → n0 ≤ s.nl → ltM n0 m0 → ltG n0 g0 → (hold = true → Shape s m0 g0 n0) →
        (∀ β' a' w', agree s.nl β β' → RelG ⟨P, f, fn, fn.ntmps, R, F, os, tape, output⟩ β' r.s L a' w' → Q .normal a' w') → planRunT P all Q (heldS β0 m0 g0 (L.map (·.2) ++ F)) r.plan false a w
    | .al _ all _ m0 g0 n0 hold => ∀ (β0 : Nat → Nat) (Q : Exit → Act → World → Prop), agree n0 β0 β → n0 ≤ s.nl → ltM n0 m0 → ltG n0 g0 → (hold = true → Shape s m0 g0 n0) →
        (∀ β' a' w', agree s.nl β β' → RelG ⟨P, f, fn, fn.ntmps, R, F, os, tape, output⟩ β' r.s L a' w' → Q .normal a' w') → ∀ b, planRunT P all Q (heldS β0 m0 g0 (L.map (·.2) ++ F)) r.plan b a w
    | .ef all i => ∃ o, all[i]? = some o ∧ Region.wanted o (yielded all a.tmps) = true ∧ ∀ (N : Act → World → Prop) (Q : Exit → Act → World → Prop),
        (∀ β' a' w', agree s.nl β β' → RelG ⟨P, f, fn, fn.ntmps, R, F, os, tape, output⟩ β' r.s L a' w' → N a' w') → o.wp P a w N Q

theorem ret_done {P : Program} {f : Nat} {fn : Func} {R : Value → List SP → Prop} {F : List SP} {os : Os} {tape : Nat → Question → Nat} {output : Array (Nat × ByteArray)} {β : Nat → Nat} {s : GS} {L : Res} {a : Act} {w : World} {k : List Item} {vs : List SV} {v : SV}
    (hf : P.funcs[f]? = some fn) (hr : RelG ⟨P, f, fn, fn.ntmps, R, F, os, tape, output⟩ β s L a w) (hk : ∀ cs, step P (lone ((base ⟨P, f, fn, fn.ntmps, R, F, os, tape, output⟩).at a k) cs w) = .next (lone { (base ⟨P, f, fn, fn.ntmps, R, F, os, tape, output⟩).at a k with mode := .returning } cs w))
    (hv : retG P s.env s.mem fn.results.toList = some vs) (ho : oneG vs = some v) (hR : R (v.den β) (memSP β s.mem ++ (gmSP β s.gm ++ L.map (·.2)))) : Ret ⟨P, f, fn, fn.ntmps, R, F, os, tape, output⟩ k a w :=
  Ret.leave (fr := default) hf hr.defers hk (retG_ok hr hv ho) ⟨_, _, rfl, hR, hr.os, hr.tape, hr.output, (by
    have := hr.sat'
    rw [List.append_assoc, List.append_assoc]
    exact this)⟩ rfl

set_option maxHeartbeats 8000000 in
theorem gx_sound {P : Program} {exA : Nat → List SV → Option SV} (hex : ExOk P exA) (hng : ∀ (f : Nat) (fn : Func), P.funcs[f]? = some fn → (fn.name == "runtime.NumGoroutine") = false) (hmix : P.follows .mixedOrders = true) :
    ∀ (m : Nat) (fn : Func) (s : GS) (c : GC) (r : GR), gx P exA m fn s c = some r → GxOk P fn s c r
  | 0, _, _, _, _, h => by cases h
  | m + 1, fn, s, .run k, r, h => by
    have ih := gx_sound (P := P) (exA := exA) hex hng hmix m
    have ig := gx_grow (P := P) (exA := exA) hex m
    intro f R F os tape output β L a w hf hr hb hR
    simp only [gx] at h
    split at h <;> try (cases h; done)
    · exact Ret.one (fun cs => step_skip) (ih _ _ _ _ h f R F os tape output β L a w hf hr hb hR)
    · exact Ret.one (fun cs => step_label) (ih _ _ _ _ h f R F os tape output β L a w hf hr hb hR)
    · exact Ret.one (fun cs => step_inBlock) (ih _ _ _ _ h f R F os tape output β L a w hf hr hb hR)
    · exact Ret.one (fun cs => step_lone_go (by simp [stepG, stepG.exec, Frame.at])) (ih _ _ _ _ h f R F os tape output β L a w hf hr hb hR)
    · exact Ret.one (fun cs => step_seq) (ih _ _ _ _ h f R F os tape output β L a w hf hr hb hR)
    · exact Ret.one (fun cs => step_block) (ih _ _ _ _ h f R F os tape output β L a w hf hr hb hR)
    · exact Ret.one (fun cs => step_lone_go (by simp [stepG, stepG.exec, Frame.at])) (ih _ _ _ _ h f R F os tape output β L a w hf hr hb hR)
    · exact Ret.one (fun cs => step_loop) (ih _ _ _ _ h f R F os tape output β L a w hf hr hb hR)
    · exact Ret.one (fun cs => step_inLoop) (ih _ _ _ _ h f R F os tape output β L a w hf hr hb hR)
    · split at h <;> try (cases h; done)
      rename_i k' hk
      exact Ret.one (fun cs => step_exit hk) (ih _ _ _ _ h f R F os tape output β L a w hf hr hb hR)
    · split at h <;> try (cases h; done)
      · rename_i hc
        exact Ret.one (fun cs => step_cond (t := true) (nrm_evn hr hc)) (ih _ _ _ _ h f R F os tape output β L a w hf hr hb hR)
      · rename_i hc
        exact Ret.one (fun cs => step_cond (t := false) (nrm_evn hr hc)) (ih _ _ _ _ h f R F os tape output β L a w hf hr hb hR)
    · exact Ret.region (ih _ _ _ _ h f R F os tape output β L a w hf hr hb hR)
    · rename_i ri ops k
      split at h <;> try (cases h; done)
      rename_i q hq
      split at h <;> try (cases h; done)
      rename_i hok
      split at h <;> try (cases h; done)
      rename_i hsel
      have hg := ig _ _ _ _ hq hb ⟨hb.mem, hb.gm⟩
      have hr' : RelG ⟨P, f, fn, fn.ntmps, R, F, os, tape, output⟩ β s L a { w with drawn := w.drawn + 1 } := Rel.world hr rfl rfl rfl rfl
      refine Ret.code (wp_region_any hmix (wpX_any _ _ _ _ (S := heldS β s.mem s.gm (L.map (·.2) ++ F)) (late := isLateT q.plan) ?_))
      refine (plan_soundT hsel (fun c a w h => h) q.plan).1 _ _ a _ hok ?_
      refine ih _ _ _ _ hq f R F os tape output β L a _ hf hr' hb β (Qn ⟨P, f, fn, fn.ntmps, R, F, os, tape, output⟩ k) (agree.refl _ _) (Nat.le_refl _) hb.mem hb.gm (fun _ => ⟨⟨[], rfl, by simp⟩, ⟨[], rfl, by simp⟩⟩) ?_
      intro β' a' w' hag hr2
      exact ih _ _ _ _ h f R F os tape output β' L a' w' hf hr2 (hg.grow.bd hb) (fun β'' h2 => hR β'' (hag.trans h2 hg.grow.nl))
    · split at h <;> try (cases h; done)
      rename_i vs hv
      split at h <;> cases h
      rename_i v ho
      exact ret_done hf hr (fun cs => step_ret) hv ho (hR β (agree.refl _ _))
    · split at h <;> try (cases h; done)
      rename_i vs hv
      split at h <;> cases h
      rename_i v ho
      exact ret_done hf hr (fun cs => step_end) hv ho (hR β (agree.refl _ _))
  | m + 1, fn, s, .ops all [] k, r, h => by
    have ih := gx_sound (P := P) (exA := exA) hex hng hmix m
    intro f R F os tape output β L a w hf hr hb hR
    simp only [gx] at h
    exact ih _ _ _ _ h f R F os tape output β L a w hf hr hb hR
  | m + 1, fn, s, .ops all (o :: rest) k, r, h => by
    have ih := gx_sound (P := P) (exA := exA) hex hng hmix m
    have ig := gx_grow (P := P) (exA := exA) hex m
    intro f R F os tape output β L a w hf hr hb hR
    simp only [gx] at h
    split at h <;> try (cases h; done)
    · rename_i hg
      split at h <;> try (cases h; done)
      rename_i hd
      split at h <;> try (cases h; done)
      rename_i env hp
      have h1 : Grow s { s with env := env } := Grow.env (x := .c (.v undef)) (fun _ => trivial) hp
      exact OpsC.skipped (guardG_no hr hg) (ih _ _ _ _ h f R F os tape output β L _ w hf (RelG.putE (x := .c (.v undef)) hr hd hp) (h1.bd hb) hR)
    · rename_i hg
      have hw := guardG_yes hr hg
      refine OpsC.wanted hw ?_
      split at h
      · rename_i x hx
        split at h <;> try (cases h; done)
        rename_i hd
        split at h <;> try (cases h; done)
        rename_i env hp
        have h1 : Grow s { s with env := env } := Grow.env (fun b => outV_lt (pureX_lt b.env b.mem b.gm o.op) hx) hp
        exact wp_value (outV_ok (pureX_ok hr o) hx) (ih _ _ _ _ h f R F os tape output β L _ w hf (hr.putE hd hp) (h1.bd hb) hR)
      · split at h
        · rename_i s' hs
          have h1 := effX_grow hs
          obtain ⟨β', a', w', hag, hr2, hwp⟩ := effX_step (g := ⟨P, f, fn, fn.ntmps, R, F, os, tape, output⟩) hr hb hs
          exact hwp _ _ (ih _ _ _ _ h f R F os tape output β' L a' w' hf hr2 (h1.bd hb) (fun β'' h2 => hR β'' (hag.trans h2 h1.nl)))
        · split at h <;> try (cases h; done)
          rename_i f' vs hc
          split at h <;> try (cases h; done)
          rename_i hd
          have hrun0 := calleeG_ok hr hc
          split at h
          · rename_i x hx
            split at h <;> try (cases h; done)
            rename_i env hp
            have h1 : Grow s { s with env := env } := Grow.env (fun _ => (hex _ _ _ hx).1 _) hp
            rcases (hex _ _ _ hx).2 β with hv | hv
            · exact wp_value (hrun0.trans (hv w)) (ih _ _ _ _ h f R F os tape output β L _ w hf (hr.putE hd hp) (h1.bd hb) hR)
            · show o.wp P a w _ _
              unfold Oper.wp
              rw [hrun0]
              show o.upon P a _ _ ((callFunc f' (vs.map (SV.den β)).toArray).run P w)
              rw [hv.1]
              refine (hv.2 (memSP β s.mem ++ (gmSP β s.gm ++ (L.map (·.2) ++ F))) w hr.sat').mono ?_
              rintro e w' ⟨v, Q, rfl, rfl, e1, e2, e3, e4⟩
              have hr2 : RelG ⟨P, f, fn, fn.ntmps, R, F, os, tape, output⟩ β s L a w' := RelG.mk' hr.defers hr.size hr.env (e1.trans hr.os) (e2.trans hr.tape) (e3.trans hr.output) e4.app_right
              exact ih _ _ _ _ h f R F os tape output β L _ w' hf (hr2.putE hd hp) (h1.bd hb) hR
          · split at h <;> try (cases h; done)
            rename_i fn' hf'
            split at h <;> try (cases h; done)
            rename_i c hbd
            split at h <;> try (cases h; done)
            rename_i hle
            split at h <;> try (cases h; done)
            rename_i q hq
            split at h <;> try (cases h; done)
            rename_i env hp
            have hl : ltE s.nl (argG 0 vs) := argG_lt vs 0 (calleeG_lt hb.env hc)
            have h1 := ig _ _ _ _ hq ⟨hl, hb.mem, hb.gm⟩ trivial
            have h2 : Grow s ⟨env, q.s.mem, q.s.gm, q.s.nl, minN s.low q.s.low⟩ := Grow.call (s := s) h1.grow (fun _ => hl) (fun b b' => (b.env.mono h1.grow.nl).putO (h1.v ⟨hl, b.mem, b.gm⟩) hp)
            have hle' : vs.length ≤ fn'.ntmps := by simpa using hle
            have hrel : RelG ⟨P, f', fn', fn'.ntmps, fun v Q => ∃ β', agree s.nl β β' ∧ v = q.v.den β' ∧ Q = memSP β' q.s.mem ++ (gmSP β' q.s.gm ++ []), L.map (·.2) ++ F, w.os, w.tape, w.output⟩ β ⟨argG 0 vs, s.mem, s.gm, s.nl, s.nl⟩ [] { tmps := (vs.map (SV.den β)).toArray ++ Array.replicate (fn'.ntmps - (vs.map (SV.den β)).toArray.size) undef, defers := [] } w := by
              refine RelG.mk' rfl (by simp; omega) ?_ rfl rfl rfl (by simpa using hr.sat')
              intro t x hx
              obtain ⟨_, h2⟩ := look_argG β vs 0 t x hx
              rw [Nat.sub_zero] at h2
              have hlt : t < (vs.map (SV.den β)).length := (List.getElem?_eq_some_iff.1 h2).1
              rw [Array.getElem?_append_left (by simpa using hlt)]
              simpa using h2
            have hcalls := calls_of_ret hf' hbd (ih _ _ _ _ hq f' _ _ _ _ _ β [] _ w hf' hrel ⟨hl, hb.mem, hb.gm⟩ (fun β' h3 => ⟨β', h3, rfl, rfl⟩))
            show o.wp P a w _ _
            unfold Oper.wp
            rw [hrun0]
            show o.upon P a _ _ ((callFunc f' (vs.map (SV.den β)).toArray).run P w)
            rw [callF_run hng hf' hbd]
            refine hcalls.mono ?_
            rintro e w' ⟨v, Q, rfl, ⟨β', hag, rfl, rfl⟩, e1, e2, e3, e4⟩
            have hr2 := (back hr hb hag (t := q.s) e1 e2 e3 e4).putE hd hp
            exact ih _ _ _ _ h f R F os tape output β' L _ w' hf hr2 (h2.bd hb) (fun β'' h3 => hR β'' (hag.trans h3 h2.nl))
  | m + 1, fn, s, .dr all listed m0 g0 n0 hold, r, h => by
    have ih := gx_sound (P := P) (exA := exA) hex hng hmix m
    have ig := gx_grow (P := P) (exA := exA) hex m
    intro f R F os tape output β L a w hf hr hb β0 Q hag0 hn0 hm0 hg0 hsh hQ
    have hd1 : ltM s.nl m0 := hm0.mono hn0
    have hd2 : ltG s.nl g0 := hg0.mono hn0
    simp only [gx] at h
    split at h
    · cases h
      exact hQ β a w (agree.refl _ _) hr
    · split at h
      · rename_i pi env i hl
        split at h <;> cases h
        rename_i q hq
        have h1 := lookR_grow (fun _ => hd1) (fun _ => hd2) hl
        refine lookR_sound hr hag0 hm0 hg0 (fun hh => (hsh hh).held hr hag0 hm0 hg0) hl ?_
        intro a' hr2
        exact ih _ _ _ _ hq f R F os tape output β L a' w hf hr2 (h1.bd hb) β0 Q hag0 hn0 hm0 hg0 hsh (fun β' a'' w' h2 h3 => hQ β' a'' w' h2 h3)
      · exact ih _ _ _ _ h f R F os tape output β L a w hf hr hb β0 Q hag0 hn0 hm0 hg0 hsh hQ false
  | m + 1, fn, s, .al cands all listed m0 g0 n0 hold, r, h => by
    have ih := gx_sound (P := P) (exA := exA) hex hng hmix m
    have ig := gx_grow (P := P) (exA := exA) hex m
    intro f R F os tape output β L a w hf hr hb β0 Q hag0 hn0 hm0 hg0 hsh hQ
    have hd1 : ltM s.nl m0 := hm0.mono hn0
    have hd2 : ltG s.nl g0 := hg0.mono hn0
    simp only [gx] at h
    split at h <;> try (cases h; done)
    rename_i i cs
    split at h <;> try (cases h; done)
    rename_i e he
    split at h <;> try (cases h; done)
    rename_i q hq
    have hb0 : Bd { s with low := s.nl } := ⟨hb.env, hb.mem, hb.gm⟩
    have h0 := (ig _ _ _ _ he hb0 trivial).grow
    have h1 : Grow s { e.s with low := minN s.low e.s.low } := Grow.lowered h0
    have step : ∀ (hQ' : ∀ β' a' w', agree s.nl β β' → RelG ⟨P, f, fn, fn.ntmps, R, F, os, tape, output⟩ β' q.s L a' w' → Q .normal a' w'),
        ∃ o, all[i]? = some o ∧ Region.wanted o (yielded all a.tmps) = true ∧ o.wp P a w (fun a' w' => ((match Nat.ble n0 e.s.low with | true => hold | false => false) = true → heldS β0 m0 g0 (L.map (·.2) ++ F) w → heldS β0 m0 g0 (L.map (·.2) ++ F) w') ∧ planRunT P all Q (heldS β0 m0 g0 (L.map (·.2) ++ F)) q.plan false a' w') Q := by
      intro hQ'
      obtain ⟨o, ho, hw, hwp⟩ := ih _ _ _ _ he f R F os tape output β L a w hf (hr : RelG _ β { s with low := s.nl } L a w) hb0
      refine ⟨o, ho, hw, hwp _ _ ?_⟩
      intro β' a' w' hag hr2
      have hag' : agree n0 β0 β' := hag0.trans hag hn0
      have hsh' : (match Nat.ble n0 e.s.low with | true => hold | false => false) = true → Shape { e.s with low := minN s.low e.s.low } m0 g0 n0 := by
        intro hk
        split at hk
        · rename_i hle
          exact (h0.keeps n0 (by simpa using hle) hn0).shape (hsh hk) hm0 hg0
        · cases hk
      have hr3 : RelG ⟨P, f, fn, fn.ntmps, R, F, os, tape, output⟩ β' { e.s with low := minN s.low e.s.low } L a' w' := hr2
      refine ⟨fun hk _ => (hsh' hk).held hr3 hag' hm0 hg0, ?_⟩
      exact ih _ _ _ _ hq f R F os tape output β' L a' w' hf hr3 (h1.bd hb) β0 Q hag' (Nat.le_trans hn0 h1.nl) hm0 hg0 hsh' (fun β'' a'' w'' h2 h3 => hQ' β'' a'' w'' (agree.trans hag h2 h1.nl) h3)
    split at h
    · cases h
      intro b
      exact ⟨step hQ, trivial⟩
    · split at h <;> try (cases h; done)
      rename_i q2 hq2
      split at h <;> cases h
      rename_i hs
      intro b
      refine ⟨step hQ, ?_⟩
      refine ih _ _ _ _ hq2 f R F os tape output β L a w hf hr hb β0 Q hag0 hn0 hm0 hg0 hsh ?_ true
      intro β' a' w' hag hr2
      obtain ⟨h3, h4⟩ := sameS_ok hs hr2
      exact hQ _ a' w' (hag.trans h4 (Nat.le_refl _)) h3
  | m + 1, fn, s, .ef all i, r, h => by
    have ih := gx_sound (P := P) (exA := exA) hex hng hmix m
    have ig := gx_grow (P := P) (exA := exA) hex m
    intro f R F os tape output β L a w hf hr hb
    simp only [gx] at h
    split at h <;> try (cases h; done)
    rename_i o ho
    have ho' : all[i]? = some o := by rw [getL_eq, Array.getElem?_toList] at ho; exact ho
    split at h <;> try (cases h; done)
    rename_i hgd
    have hw := guardG_yes hr hgd
    split at h
    · rename_i s' hs
      cases h
      obtain ⟨β', a', w', hag, hr2, hwp⟩ := effX_step (g := ⟨P, f, fn, fn.ntmps, R, F, os, tape, output⟩) hr hb hs
      exact ⟨o, ho', hw, fun N Q hN => hwp _ _ (hN β' a' w' hag hr2)⟩
    · split at h <;> try (cases h; done)
      rename_i f' vs hc
      split at h <;> try (cases h; done)
      rename_i hd
      split at h <;> try (cases h; done)
      rename_i fn' hf'
      have hrun0 := calleeG_ok hr hc
      split at h <;> try (cases h; done)
      rename_i c hbd
      split at h <;> try (cases h; done)
      rename_i hle
      split at h <;> try (cases h; done)
      rename_i q hq
      split at h <;> cases h
      rename_i env hp
      have hl : ltE s.nl (argG 0 vs) := argG_lt vs 0 (calleeG_lt hb.env hc)
      have hle' : vs.length ≤ fn'.ntmps := by simpa using hle
      have hrel : RelG ⟨P, f', fn', fn'.ntmps, fun v Q => ∃ β', agree s.nl β β' ∧ v = q.v.den β' ∧ Q = memSP β' q.s.mem ++ (gmSP β' q.s.gm ++ []), L.map (·.2) ++ F, w.os, w.tape, w.output⟩ β ⟨argG 0 vs, s.mem, s.gm, s.nl, s.nl⟩ [] { tmps := (vs.map (SV.den β)).toArray ++ Array.replicate (fn'.ntmps - (vs.map (SV.den β)).toArray.size) undef, defers := [] } w := by
        refine RelG.mk' rfl (by simp; omega) ?_ rfl rfl rfl (by simpa using hr.sat')
        intro t x hx
        obtain ⟨_, h2⟩ := look_argG β vs 0 t x hx
        rw [Nat.sub_zero] at h2
        have hlt : t < (vs.map (SV.den β)).length := (List.getElem?_eq_some_iff.1 h2).1
        rw [Array.getElem?_append_left (by simpa using hlt)]
        simpa using h2
      have hcalls := calls_of_ret hf' hbd (ih _ _ _ _ hq f' _ _ _ _ _ β [] _ w hf' hrel ⟨hl, hb.mem, hb.gm⟩ (fun β' h3 => ⟨β', h3, rfl, rfl⟩))
      refine ⟨o, ho', hw, fun N Q hN => ?_⟩
      show o.wp P a w _ _
      unfold Oper.wp
      rw [hrun0]
      show o.upon P a _ _ ((callFunc f' (vs.map (SV.den β)).toArray).run P w)
      rw [callF_run hng hf' hbd]
      refine hcalls.mono ?_
      rintro e w' ⟨v, Q', rfl, ⟨β', hag, rfl, rfl⟩, e1, e2, e3, e4⟩
      exact hN β' _ w' hag ((back hr hb hag (t := q.s) e1 e2 e3 e4).putE hd hp)
end Go.Proofs.Ytngfadijcpnblaa
