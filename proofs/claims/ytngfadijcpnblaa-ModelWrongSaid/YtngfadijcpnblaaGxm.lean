/- The evaluator: calls and results are as the model has them. -/
import Derived.Test.YtngfadijcpnblaaGxl
namespace Go.Proofs.Ytngfadijcpnblaa
open Go.RowKit

section
variable {g : Cx} {β : Nat → Nat} {s : GS} {L : Res} {a : Act} {w : World}

theorem evs_ok (h : RelG g β s L a w) : ∀ {xs : List Operand} {vs : List SV}, evs s.env xs = some vs → xs.map a.eval = vs.map (SV.den β)
  | [], vs, hv => by simp only [evs, Option.some.injEq] at hv; subst hv; rfl
  | x :: r, vs, hv => by
    simp only [evs] at hv
    split at hv <;> try (cases hv; done)
    rename_i u hu
    split at hv <;> cases hv
    rename_i t ht
    simp [nrm_evn h hu, evs_ok h ht]
theorem ofVs_den (l : List Value) : (ofVs l).map (SV.den β) = l := by
  rw [ofVs_eq, List.map_map]
  have : (SV.den β ∘ ofV) = id := by funext x; exact ofV_den β x
  rw [this, List.map_id]

theorem calleeG_ok (h : RelG g β s L a w) {o : Oper} {f : Nat} {us : List SV} (hc : calleeG g.P s.env o = some (f, us)) : (execOp a.eval o).run g.P w = (callFunc f (us.map (SV.den β)).toArray).run g.P w := by
  unfold calleeG at hc
  split at hc <;> try (cases hc; done)
  · rename_i x as ts hop
    split at hc <;> try (cases hc; done)
    rename_i f' first cap hx
    split at hc <;> try (cases hc; done)
    rename_i vs hvs
    rw [appV_eq] at hc
    simp only at hc
    rw [appV_eq] at hc
    simp only [Option.some.injEq, Prod.mk.injEq] at hc
    obtain ⟨rfl, rfl⟩ := hc
    have hargs : as.map a.eval = (vs.map (SV.den β)).toArray := by
      apply Array.ext'
      simpa using evs_ok h hvs
    have hex : a.eval x = .func (.func f') first cap := h.ev hx
    have e : first ++ (vs.map (SV.den β)).toArray ++ cap = ((ofVs first.toList ++ (vs ++ ofVs cap.toList)).map (SV.den β)).toArray := by
      apply Array.ext'
      simp [ofVs_den]
    simp only [execOp, hop, resolve, hargs, hex, Deferred.ofValue, Sem.run_bind, Sem.run_pure, Result.andThen_ok, invoke, e]
  · rename_i r name as ts hop
    split at hc <;> try (cases hc; done)
    rename_i u hu
    split at hc <;> try (cases hc; done)
    rename_i t rv hrv
    have er : a.eval r = .iface t (rv.den β) := by
      rw [h.ev hu]
      split at hrv <;> cases hrv
      · rfl
      · rw [ofV_den]; rfl
    split at hc <;> try (cases hc; done)
    rename_i i hi
    split at hc <;> try (cases hc; done)
    rename_i m hm
    split at hc <;> try (cases hc; done)
    rename_i hp
    split at hc <;> try (cases hc; done)
    rename_i f' ptr hf
    have key : ∀ vs, evs s.env as.toList = some vs → (∀ d, g.P.underlying t = some d → (receiverAt t (.val (rv.den β)) ptr (if m.path.isEmpty then some ((name.splitOn ".").getLastD name) else none)).run g.P w = .ok (rv.den β) w) → (∃ d, g.P.underlying t = some d) →
        (execOp a.eval o).run g.P w = (callFunc f' ((rv :: vs).map (SV.den β)).toArray).run g.P w := by
      intro vs hvs hrec ⟨d, hd⟩
      have hargs : as.map a.eval = (vs.map (SV.den β)).toArray := by
        apply Array.ext'
        simpa using evs_ok h hvs
      have hmeth : (method (g.P.types.size + Made.depth) t (rv.den β) name).run g.P w = .ok (f', rv.den β) w := by
        have hk : g.P.types.size + Made.depth = (g.P.types.size + 99) + 1 := rfl
        rw [hk]
        have h1 := hrec d hd
        generalize g.P.types.size + 99 = k
        simp only [method, typeInfo, Sem.run_bind, run_program, hi, Sem.run_pure, Result.andThen_ok, hm, hp, follow, hf, h1]
      have e2 : (#[a.eval r] ++ as.map a.eval).extract 1 (#[a.eval r] ++ as.map a.eval).size = as.map a.eval := by
        apply Array.ext'
        simp
        exact List.take_of_length_le (by simp)
      have e3 : #[rv.den β] ++ as.map a.eval = ((rv :: vs).map (SV.den β)).toArray := by
        rw [hargs]
        apply Array.ext'
        simp
      have e4 : (#[a.eval r] ++ as.map a.eval)[0]? = some (.iface t (rv.den β)) := by
        rw [← er, Array.getElem?_append_left (by simp)]
        rfl
      simp only [execOp, hop, resolve, Sem.run_bind, Sem.run_pure, Result.andThen_ok, invoke, e4, e2, callMethod, run_program, hmeth, e3]
    split at hc <;> try (cases hc; done)
    · rename_i el hu2
      split at hc <;> cases hc
      rename_i vs hvs
      refine key vs ?_ (fun d hd => ?_) ⟨_, hu2⟩
      · assumption
      · simp [receiverAt, run_underlying hu2, Place.get]
    · rename_i d hne hu2
      split at hc <;> cases hc
      rename_i vs hvs
      refine key vs ?_ (fun d' hd => ?_) ⟨_, hu2⟩
      · assumption
      · cases d <;> first | (exact absurd rfl (hne _)) | (simp [receiverAt, run_underlying hu2, Place.get])

theorem retG_run (hr : RelG g β s L a w) : ∀ (rs : List ResultVar) (vs : List SV), retG g.P s.env s.mem rs = some vs → Sem.run g.P (rs.mapM (resS a.tmps)) w = .ok (vs.map (SV.den β)) w
  | [], vs, h => by simp only [retG, Option.some.injEq] at h; subst h; rfl
  | .tmp t :: r, vs, h => by
    simp only [retG] at h
    split at h <;> try (cases h; done)
    rename_i u hu
    split at h <;> cases h
    rename_i ss hs
    have ih := retG_run hr r ss hs
    have he : a.tmps.getD t undef = u.den β := by rw [Array.getD_eq_getD_getElem?, hr.env t u hu]; rfl
    rw [List.mapM_cons]
    simp only [resS, Sem.run_bind, Sem.run_pure, Result.andThen_ok, he, ih, List.map_cons]
  | .cell x t :: r, vs, h => by
    simp only [retG] at h
    split at h <;> try (cases h; done)
    rename_i l o hx
    have he : a.tmps.getD x undef = .pointer (some ⟨β l, o, none⟩) := by rw [Array.getD_eq_getD_getElem?, hr.env x _ hx]; rfl
    split at h <;> try (cases h; done)
    rename_i tt cs hl
    split at h <;> try (cases h; done)
    · rename_i ha
      split at h <;> try (cases h; done)
      rename_i y hy
      split at h <;> cases h
      rename_i ss hs
      have ih := retG_run hr r ss hs
      rw [List.mapM_cons]
      simp only [resS, Sem.run_bind, Sem.run_pure, Result.andThen_ok, he, asAddr, run_load_one hr hl ha hy, ih, List.map_cons]
      rfl
    · rename_i n ha
      split at h <;> try (cases h; done)
      rename_i ys hy
      split at h <;> cases h
      rename_i ss hs
      have ih := retG_run hr r ss hs
      rw [List.mapM_cons]
      simp only [resS, Sem.run_bind, Sem.run_pure, Result.andThen_ok, he, asAddr, run_load_many hr hl ha hy, ih, List.map_cons]
      rfl
theorem tupG_den : ∀ {ss : List SV} {ps : List (Bool × List Ce)}, tupG ss = some ps → ps.map (tpDen β) = ss.map (SV.den β)
  | [], ps, h => by simp only [tupG, Option.some.injEq] at h; subst h; rfl
  | s :: r, ps, h => by
    simp only [tupG] at h
    split at h <;> try (cases h; done)
    rename_i p hp
    split at h <;> cases h
    rename_i qs hq
    simp [tOf_den hp, tupG_den hq]
theorem oneG_den {vs : List SV} {v : SV} (h : oneG vs = some v) : oneV (vs.map (SV.den β)) = v.den β := by
  unfold oneG at h
  split at h
  · cases h; rfl
  · rename_i hne
    split at h <;> cases h
    rename_i ps hp
    have e := tupG_den (β := β) hp
    show oneV (vs.map (SV.den β)) = .tuple (ps.map (tpDen β)).toArray
    rw [e]
    match vs, hne with
    | [], _ => rfl
    | [x], hne => exact absurd rfl (hne x)
    | _ :: _ :: _, _ => rfl
theorem retG_ok (hr : RelG g β s L a w) {vs : List SV} {v : SV} (h : retG g.P s.env s.mem g.fn.results.toList = some vs) (h1 : oneG vs = some v) : (results g.fn a.tmps).run g.P w = .ok (v.den β) w := by
  have h2 := retG_run hr _ _ h
  have e : results g.fn a.tmps = (do
      let vs ← g.fn.results.mapM (resS a.tmps)
      pure (if h : vs.size = 1 then vs[0] else .tuple vs)) := by
    unfold results
    congr 1
  rw [e, Array.mapM_eq_mapM_toList]
  simp only [Sem.run_bind, Sem.run_map, h2]
  simp only [Result.andThen_ok, Sem.run_pure]
  rw [← oneG_den h1]
  match vs with
  | [] => rfl
  | [v] => rfl
  | v :: u :: r => rfl
end
end Go.Proofs.Ytngfadijcpnblaa
