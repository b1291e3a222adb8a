/- The evaluator: whatever it runs only adds to memory, or tells how deep it turned it. -/
import Derived.Test.YtngfadijcpnblaaGxk
namespace Go.Proofs.Ytngfadijcpnblaa
open Go.RowKit

structure GrowR (s : GS) (r : GR) : Prop where
  grow : Grow s r.s
  v : Bd s → r.v.lt r.s.nl
theorem GrowR.of {s s' : GS} {r : GR} (h : Grow s s') (k : GrowR s' r) : GrowR s r := ⟨h.trans k.grow, fun b => k.v (h.bd b)⟩
theorem GrowR.plan {s : GS} {r : GR} (h : GrowR s r) (p : PT) (m : Marks) : GrowR s { r with plan := p, marks := m } := ⟨h.grow, h.v⟩
theorem lookR_grow {P : Program} {n : Nat} {all : Array Oper} {env' : Env} {m0 : Mem} {g0 : GMem} {hold : Bool} {pi : Bool} {i : Nat} {s : GS} {rd : List Nat} (hm : Bd s → ltM s.nl m0) (hg : Bd s → ltG s.nl g0) (h : lookR P n all s.env m0 g0 hold rd = some (pi, env', i)) : Grow s { s with env := env' } :=
  ⟨fun b => ⟨lookR_lt b.env (hm b) (hg b) h, b.mem, b.gm⟩, Nat.le_refl _, Nat.le_refl _, fun b _ _ => Keeps.of_eq rfl rfl⟩

def drOk (s : GS) : GC → Prop
  | .dr _ _ m0 g0 _ _ => ltM s.nl m0 ∧ ltG s.nl g0
  | .al _ _ _ m0 g0 _ _ => ltM s.nl m0 ∧ ltG s.nl g0
  | _ => True

set_option maxHeartbeats 4000000 in
theorem gx_grow {P : Program} {exA : Nat → List SV → Option SV} (hex : ExOk P exA) : ∀ (m : Nat) (fn : Func) (s : GS) (c : GC) (r : GR), gx P exA m fn s c = some r → Bd s → drOk s c → GrowR s r
  | 0, _, _, _, _, h, _, _ => by cases h
  | m + 1, fn, s, .run k, r, h, b, _ => by
    have ih := gx_grow (P := P) (exA := exA) hex m
    simp only [gx] at h
    split at h <;> try (cases h; done)
    · exact ih _ _ _ _ h b trivial
    · exact ih _ _ _ _ h b trivial
    · exact ih _ _ _ _ h b trivial
    · exact ih _ _ _ _ h b trivial
    · exact ih _ _ _ _ h b trivial
    · exact ih _ _ _ _ h b trivial
    · exact ih _ _ _ _ h b trivial
    · exact ih _ _ _ _ h b trivial
    · exact ih _ _ _ _ h b trivial
    · split at h <;> try (cases h; done)
      exact ih _ _ _ _ h b trivial
    · split at h <;> try (cases h; done)
      · exact ih _ _ _ _ h b trivial
      · exact ih _ _ _ _ h b trivial
    · exact ih _ _ _ _ h b trivial
    · split at h <;> try (cases h; done)
      rename_i q hq
      split at h <;> try (cases h; done)
      split at h <;> try (cases h; done)
      have h1 := ih _ _ _ _ hq b ⟨b.mem, b.gm⟩
      exact GrowR.of h1.grow (ih _ _ _ _ h (h1.grow.bd b) trivial)
    · split at h <;> try (cases h; done)
      rename_i vs hv
      split at h <;> cases h
      rename_i v ho
      exact ⟨Grow.refl _, fun b => oneG_lt (retG_lt b.env b.mem hv) ho⟩
    · split at h <;> try (cases h; done)
      rename_i vs hv
      split at h <;> cases h
      rename_i v ho
      exact ⟨Grow.refl _, fun b => oneG_lt (retG_lt b.env b.mem hv) ho⟩
  | m + 1, fn, s, .ops all [] k, r, h, b, _ => by
    have ih := gx_grow (P := P) (exA := exA) hex m
    simp only [gx] at h
    exact ih _ _ _ _ h b trivial
  | m + 1, fn, s, .ops all (o :: rest) k, r, h, b, _ => by
    have ih := gx_grow (P := P) (exA := exA) hex m
    simp only [gx] at h
    split at h <;> try (cases h; done)
    · split at h <;> try (cases h; done)
      split at h <;> try (cases h; done)
      rename_i env hp
      have h1 : Grow s { s with env := env } := Grow.env (x := .c (.v undef)) (fun _ => trivial) hp
      exact GrowR.of h1 (ih _ _ _ _ h (h1.bd b) trivial)
    · split at h
      · rename_i x hx
        split at h <;> try (cases h; done)
        split at h <;> try (cases h; done)
        rename_i env hp
        have h1 : Grow s { s with env := env } := Grow.env (fun b => outV_lt (pureX_lt b.env b.mem b.gm o.op) hx) hp
        exact GrowR.of h1 (ih _ _ _ _ h (h1.bd b) trivial)
      · split at h
        · rename_i s' hs
          have h1 := effX_grow hs
          exact GrowR.of h1 (ih _ _ _ _ h (h1.bd b) trivial)
        · split at h <;> try (cases h; done)
          rename_i f vs hc
          split at h <;> try (cases h; done)
          split at h
          · rename_i x hx
            split at h <;> try (cases h; done)
            rename_i env hp
            have h1 : Grow s { s with env := env } := Grow.env (fun _ => (hex _ _ _ hx).1 _) hp
            exact GrowR.of h1 (ih _ _ _ _ h (h1.bd b) trivial)
          · split at h <;> try (cases h; done)
            rename_i fn' hf
            split at h <;> try (cases h; done)
            rename_i c hb
            split at h <;> try (cases h; done)
            split at h <;> try (cases h; done)
            rename_i q hq
            split at h <;> try (cases h; done)
            rename_i env hp
            have hl : ltE s.nl (argG 0 vs) := argG_lt vs 0 (calleeG_lt b.env hc)
            have h1 := ih _ _ _ _ hq ⟨hl, b.mem, b.gm⟩ trivial
            have h2 : Grow s ⟨env, q.s.mem, q.s.gm, q.s.nl, minN s.low q.s.low⟩ := Grow.call (s := s) h1.grow (fun _ => hl) (fun b b' => (b.env.mono h1.grow.nl).putO (h1.v ⟨hl, b.mem, b.gm⟩) hp)
            exact GrowR.of h2 (ih _ _ _ _ h (h2.bd b) trivial)
  | m + 1, fn, s, .dr all listed m0 g0 n0 hold, r, h, b, hd => by
    have ih := gx_grow (P := P) (exA := exA) hex m
    obtain ⟨hd1, hd2⟩ : ltM s.nl m0 ∧ ltG s.nl g0 := hd
    simp only [gx] at h
    split at h
    · cases h
      exact ⟨Grow.refl _, fun _ => trivial⟩
    · split at h
      · rename_i pi env i hl
        split at h <;> cases h
        rename_i q hq
        have h1 := lookR_grow (fun _ => hd1) (fun _ => hd2) hl
        exact GrowR.plan (GrowR.of h1 (ih _ _ _ _ hq (h1.bd b) ⟨hd1, hd2⟩)) _ _
      · exact ih _ _ _ _ h b ⟨hd1, hd2⟩
  | m + 1, fn, s, .al cands all listed m0 g0 n0 hold, r, h, b, hd => by
    have ih := gx_grow (P := P) (exA := exA) hex m
    obtain ⟨hd1, hd2⟩ : ltM s.nl m0 ∧ ltG s.nl g0 := hd
    simp only [gx] at h
    split at h <;> try (cases h; done)
    split at h <;> try (cases h; done)
    rename_i e he
    split at h <;> try (cases h; done)
    rename_i q hq
    have h0 := (ih _ _ _ _ he ⟨b.env, b.mem, b.gm⟩ trivial).grow
    have h1 : Grow s { e.s with low := minN s.low e.s.low } := Grow.lowered h0
    have h2 := GrowR.of h1 (ih _ _ _ _ hq (h1.bd b) ⟨hd1.mono h1.nl, hd2.mono h1.nl⟩)
    split at h
    · cases h
      exact GrowR.plan h2 _ _
    · split at h <;> try (cases h; done)
      split at h <;> cases h
      exact GrowR.plan h2 _ _
  | m + 1, fn, s, .ef all i, r, h, b, _ => by
    have ih := gx_grow (P := P) (exA := exA) hex m
    simp only [gx] at h
    split at h <;> try (cases h; done)
    rename_i o ho
    split at h <;> try (cases h; done)
    split at h
    · rename_i s' hs
      cases h
      exact ⟨effX_grow hs, fun _ => trivial⟩
    · split at h <;> try (cases h; done)
      rename_i f vs hc
      split at h <;> try (cases h; done)
      split at h <;> try (cases h; done)
      rename_i fn' hf
      split at h <;> try (cases h; done)
      rename_i c hb
      split at h <;> try (cases h; done)
      split at h <;> try (cases h; done)
      rename_i q hq
      split at h <;> cases h
      rename_i env hp
      have hl : ltE s.nl (argG 0 vs) := argG_lt vs 0 (calleeG_lt b.env hc)
      have h1 := ih _ _ _ _ hq ⟨hl, b.mem, b.gm⟩ trivial
      exact ⟨Grow.call (s := s) h1.grow (fun _ => hl) (fun b b' => (b.env.mono h1.grow.nl).putO (h1.v ⟨hl, b.mem, b.gm⟩) hp), fun _ => trivial⟩
end Go.Proofs.Ytngfadijcpnblaa
