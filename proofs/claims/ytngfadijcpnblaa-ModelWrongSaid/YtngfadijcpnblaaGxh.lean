/- The evaluator: operations that make or turn memory are as the model has them. -/
import Derived.Test.YtngfadijcpnblaaGxg
namespace Go.Proofs.Ytngfadijcpnblaa
open Go.RowKit

section
variable {g : Cx} {β : Nat → Nat} {s : GS} {L : Res} {a : Act} {w : World}

abbrev StepEx (g : Cx) (β : Nat → Nat) (s s' : GS) (L : Res) (a : Act) (w : World) (o : Oper) : Prop :=
  ∃ β' a' w', agree s.nl β β' ∧ RelG g β' s' L a' w' ∧ ∀ N Q, N a' w' → o.wp g.P a w N Q

theorem own_some {e n c sz : Nat} {A : Option Addr} {cells : List Value} {Ls : List SP} (h : SatW (ownS e A n c sz cells :: Ls) w) (hn : 0 < n) : ∃ b, A = some ⟨b, 0, none⟩ := by
  obtain ⟨r, hh, x1, x2, x3, r1, k1, k2, y1, y2, y3, y4, y5, y6⟩ := h
  rcases y5.2 with ⟨_, h0, _⟩ | ⟨b, cur, z3, _⟩
  · omega
  · exact ⟨b, z3⟩
theorem sat_nil {e sz : Nat} {Ls : List SP} (h : SatW Ls w) : SatW (ownS e none 0 0 sz [] :: Ls) w := by
  obtain ⟨r, hh, y1, y2, y3, y4⟩ := h
  exact ⟨r, hh, y1, y2, y3, PH.em, PH.em, hh, PH.em_le _, PH.em_le _, PH.le_refl _, PH.em_dj _, own_nil _ _ _ _, y4⟩

/-- append to a slice without room: a new block; all that was stays. -/
theorem app_full {P : Program} {t ty e : TypeId} {i : TypeInfo} {z : Value} {b o n b2 o2 m c : Nat} {olds news : List Value} (ht : P.underlying t = some (.slice e)) (hi : P.info? e = some i) (hz : i.zero = some z) (hzs : z.cells.size = i.size)
    (hlo : olds.length = n * i.size) (hold : ∀ j u, olds[j]? = some u → w.cell? ⟨b, o + j, none⟩ = some u) (hln : news.length = m * i.size) (hnew : ∀ j u, news[j]? = some u → w.cell? ⟨b2, o2 + j, none⟩ = some u) (hm : 0 < m)
    (h63 : n + m ≤ maxLen) (hbytes : (n + m) * i.bytes ≤ 140737488355328) :
    ∃ c' w', (Builtin.append_ #[t, t] ty #[.slice (some ⟨b, o, none⟩) n n, .slice (some ⟨b2, o2, none⟩) m c]).run P w = .ok (.slice (some ⟨w.heap.size, 0, none⟩) (n + m) c') w' ∧ w'.os = w.os ∧ w'.tape = w.tape ∧ w'.output = w.output ∧
      ∀ Ls, SatW Ls w → SatW (ownS e (some ⟨w.heap.size, 0, none⟩) (n + m) c' i.size (olds ++ news) :: Ls) w' := by
  have hsm : n + m ≤ 9223372036854775807 := by simp only [maxLen] at h63; omega
  have hge := grownCap_ge w (n + m) n e
  have hcm := grownCap_le_maxLen w (n + m) n e h63
  refine ⟨grownCap w (n + m) n e, w.drew.alloc (.cells (olds.toArray ++ news.toArray ++ Builtin.zeroCells z.cells (grownCap w (n + m) n e - (n + m))) e), ?_, rfl, rfl, rfl, fun Ls hs => ?_⟩
  · exact run_append_grow (P := P) w t ty e i z ht hi hz ⟨b, o, none⟩ n n olds hlo (fun j u hu => by rw [add_plain']; exact hold j u hu) ⟨b2, o2, none⟩ m c news hln (fun j u hu => by rw [add_plain']; exact hnew j u hu) (by omega) (by omega) (growslice_fits (by omega) hbytes)
  · have h1 := (hs.heap (w' := w.drew) rfl).alloc (.cells (olds.toArray ++ news.toArray ++ Builtin.zeroCells z.cells (grownCap w (n + m) n e - (n + m))) e)
    refine h1.imp fun r h hb => ⟨by rw [List.length_append, hlo, hln, Nat.add_mul], .inr ⟨w.heap.size, _, rfl, hb, hge, hcm, ?_, ?_⟩⟩
    · simp only [Array.size_append, List.size_toArray, size_zeroCells, hzs, hlo, hln, ← Nat.add_mul]
      congr 1
      omega
    · have hlen2 : (olds ++ news).length = (n + m) * i.size := by rw [List.length_append, hlo, hln, Nat.add_mul]
      simp only [Array.toList_append, List.append_assoc]
      rw [← List.append_assoc, ← hlen2]
      exact List.take_left

set_option maxHeartbeats 1000000 in
theorem appE_step {s' : GS} {o : Oper} {t : TypeId} {xo yo : Operand} {x y : SV} (hr : RelG g β s L a w) (hb : Bd s) (hd : dstOk g.n o.dst = true) (ho : o.op = .call ⟨.builtin .append, #[xo, yo], #[t, t]⟩)
    (hx : ev s.env xo = some x) (hy : ev s.env yo = some y) (h : appE g.P s o.dst t x y = some s') : StepEx g β s s' L a w o := by
  have ex := hr.ev hx
  have ey := hr.ev hy
  have hrun : ∀ v w', (Builtin.append_ #[t, t] o.type #[x.den β, y.den β]).run g.P w = .ok v w' → (execOp a.eval o).run g.P w = .ok (.value v) w' := fun v w' hw => by
    simp [execOp, ho, resolve, ex, ey, invoke, builtin, hw]
  unfold appE at h
  split at h <;> try (cases h; done)
  rename_i e ht
  split at h <;> try (cases h; done)
  rename_i sz by_ he
  obtain ⟨ei, z, hei, hz, hzs, hpos, hes, hby⟩ := elemI_ok he
  have same : ∀ env, putO o.dst x s.env = some env → (Builtin.append_ #[t, t] o.type #[x.den β, y.den β]).run g.P w = .ok (x.den β) w → StepEx g β s { s with env := env } L a w o := fun env hp hw =>
    ⟨β, a.put o.dst (x.den β), w, agree.refl _ _, hr.putE hd hp, fun N Q hn => wp_value (hrun _ _ hw) hn⟩
  split at h
  · split at h <;> try (cases h; done)
    split at h <;> try (cases h; done)
    rename_i c2
    split at h <;> try (cases h; done)
    · split at h <;> cases h
      rename_i env hp
      exact same _ hp (app_nil ht hei (Nat.zero_le _) w)
    · split at h <;> try (cases h; done)
      rename_i hle
      split at h <;> cases h
      rename_i env hp
      exact same _ hp (app_nil ht hei (by simpa using hle) w)
    · split at h <;> try (cases h; done)
      rename_i l o' n e' _ N hN
      split at h <;> try (cases h; done)
      rename_i hle
      split at h <;> cases h
      rename_i env hp
      have h1 := gmLen_ok hr _ _ hN
      have h2 : e' + n ≤ N := by simpa using hle
      exact same _ hp (app_nil ht hei (by omega) w)
  · cases h
  · rename_i m news hrow
    obtain ⟨b2, o2, c2, hyd, hnl, hnc⟩ := rowCells_ok hr hrow
    have hnlt := rowCells_lt hb hrow
    have hnl' : (news.map (Ce.den β)).length = (m + 1) * ei.size := by rw [List.length_map, hnl, hes]
    have hnc' : ∀ j u, (news.map (Ce.den β))[j]? = some u → w.cell? ((⟨b2, o2, none⟩ : Addr).add j) = some u := fun j u hu => by rw [add_plain']; exact hnc j u hu
    split at h <;> try (cases h; done)
    rename_i hpl
    have hone := allPl_one (β := β) hpl
    split at h <;> try (cases h; done)
    · -- the first ones
      split at h <;> try (cases h; done)
      rename_i hsm
      obtain ⟨s1, s2⟩ := small_ok hsm
      obtain ⟨A', c'', w', r1, r2, r3, r4, r5⟩ := own_append (P := g.P) (ty := o.type) ht hei hz hzs hpos (sat_nil (e := e) (sz := ei.size) hr.sat') ⟨b2, o2, none⟩ (m + 1) c2 _ hnl' hnc' hone (by omega) (by rw [hby, Nat.zero_add]; exact s2)
      rw [Nat.zero_add] at r1 r5
      obtain ⟨b, rfl⟩ := own_some r5 (by omega)
      rw [hes] at r5
      refine newG_step (b := b) (c := c'') hr hb hd hnlt hb.gm h (hrun _ _ ?_) ⟨r2, r3, r4⟩ r5
      rw [hyd]
      exact r1
    · -- more
      rename_i l n
      split at h <;> try (cases h; done)
      rename_i e2 N sz2 cs hl
      split at h <;> try (cases h; done)
      rename_i he2
      obtain rfl : e2 = e := Nat.eq_of_beq_eq_true he2
      split at h <;> try (cases h; done)
      rename_i hN
      obtain rfl : N = n := Nat.eq_of_beq_eq_true hN
      split at h <;> try (cases h; done)
      rename_i hz2
      obtain rfl : sz2 = sz := Nat.eq_of_beq_eq_true hz2
      split at h <;> try (cases h; done)
      rename_i hsm
      obtain ⟨s1, s2⟩ := small_ok hsm
      split at h <;> try (cases h; done)
      rename_i gm' hdel
      split at h <;> try (cases h; done)
      rename_i zs hzz
      rw [appS_eq] at hzz
      cases hzz
      have hsat : SatW (grSP β (l, e2, N, sz2, cs) :: (memSP β s.mem ++ (gmSP β gm' ++ (L.map (·.2) ++ g.F)))) w := by
        have h1 := hr.sat'.swapHead
        have h2 := h1.perm ((lookG_perm hl hdel).append_right _)
        have h3 : SatW ((grSP β (l, e2, N, sz2, cs) :: gmSP β gm') ++ (memSP β s.mem ++ (L.map (·.2) ++ g.F))) w := h2
        exact h3.swapHead.perm List.perm_middle
      unfold grSP at hsat
      simp only at hsat
      rw [← hes] at hsat
      obtain ⟨A', c'', w', r1, r2, r3, r4, r5⟩ := own_append (P := g.P) (ty := o.type) ht hei hz hzs hpos hsat ⟨b2, o2, none⟩ (m + 1) c2 _ hnl' hnc' hone (by omega) (by rw [hby]; exact s2)
      obtain ⟨b, rfl⟩ := own_some r5 (by omega)
      rw [hes, ← List.map_append] at r5
      refine newG_step (b := b) (c := c'') hr hb hd ?_ (delG_lt hb.gm hdel) h (hrun _ _ ?_) ⟨r2, r3, r4⟩ r5
      · intro u hu
        rcases List.mem_append.1 hu with hu | hu
        · exact (hb.gm _ (lookG_mem hl)).2 u hu
        · exact hnlt u hu
      · rw [hyd]
        simpa [SV.den, Ce.den] using r1
    · -- without room
      rename_i l o' n c
      split at h <;> try (cases h; done)
      rename_i hnc2
      obtain rfl : n = c := Nat.eq_of_beq_eq_true hnc2
      split at h <;> try (cases h; done)
      rename_i hsm
      obtain ⟨s1, s2⟩ := small_ok hsm
      split at h <;> try (cases h; done)
      rename_i tt cs hl
      split at h <;> try (cases h; done)
      rename_i olds hcut
      split at h <;> try (cases h; done)
      rename_i zs hzz
      rw [appS_eq] at hzz
      cases hzz
      obtain ⟨c1, c3⟩ := cutL_spec cs o' _ olds hcut
      have hold : ∀ j u, (olds.map (Ce.den β))[j]? = some u → w.cell? ⟨β l, o' + j, none⟩ = some u := by
        intro j u hu
        rw [List.getElem?_map] at hu
        cases hj : olds[j]? with
        | none => rw [hj] at hu; cases hu
        | some x =>
          rw [hj] at hu
          cases hu
          have hlt : j < n * sz := by have := (List.getElem?_eq_some_iff.1 hj).1; omega
          rw [hr.cell hl, c3 j hlt, hj]
          rfl
      obtain ⟨c', w', r1, r2, r3, r4, r5⟩ := app_full (P := g.P) (ty := o.type) (m := m + 1) (c := c2) ht hei hz hzs (by rw [List.length_map, c1, hes]) hold hnl' hnc (by omega) (by omega) (by rw [hby]; exact s2)
      have r6 := r5 _ hr.sat'
      rw [hes, ← List.map_append] at r6
      refine newG_step (b := w.heap.size) (c := c') hr hb hd ?_ hb.gm h (hrun _ _ ?_) ⟨r2, r3, r4⟩ r6
      · intro u hu
        rcases List.mem_append.1 hu with hu | hu
        · exact (hb.mem _ (lookM_mem hl)).2 u (cutL_mem hcut u hu)
        · exact hnlt u hu
      · rw [hyd]
        exact r1
end
end Go.Proofs.Ytngfadijcpnblaa
