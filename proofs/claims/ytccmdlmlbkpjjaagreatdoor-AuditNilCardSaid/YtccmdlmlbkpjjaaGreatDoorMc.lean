/- What the rows give: the variables as they are laid; arguments opened. -/
import Derived.Test.YtccmdlmlbkpjjaaGreatDoorMb
import Derived.Lib.Join
import Derived.KernelRfl
import Derived.Shelf.Strings.OnBuilder
import Derived.Shelf.LaysM
import Derived.Shelf.Strconv.Itoa4
import Derived.Shelf.LaysC
import Derived.Shelf.Strconv.ParseIntPublic10
import Derived.Shelf.Strings.Cut
import Derived.Shelf.Strings.Split
import Derived.Test.YtccmdlmlbkpjjaaGreatDoorProg
import Derived.Test.YtccmdlmlbkpjjaaGreatDoorRows
import Derived.MakeChecks
import Derived.ChangeMaps5
set_option linter.unusedSimpArgs false
set_option linter.unusedVariables false
/- The evaluator: operations that make or turn memory are as the model has them. -/
namespace Go.Proofs.YtccmdlmlbkpjjaaGreatDoor
open Go.RowKit

section
variable {g : Cx} {β : Nat → Nat} {s : GS} {L : Res} {a : Act} {w : World}

abbrev StepEx (g : Cx) (β : Nat → Nat) (s s' : GS) (L : Res) (a : Act) (w : World) (o : Oper) : Prop :=
  ∃ β' a' w', agree s.nl β β' ∧ RelG g β' s' L a' w' ∧ ∀ N Q, N a' w' → o.wp g.P a w N Q

theorem own_some {e n c sz : Nat} {A : Option Addr} {cells : List Value} {Ls : List SP} (h : SatW (ownS e A n c sz cells :: Ls) w) (hn : 0 < n) : ∃ b, A = some ⟨b, 0, none⟩ := by
  obtain ⟨r, hh, x1, x2, x3, r1, k1, k2, y1, y2, y3, y4, y5, y6⟩ := h
  rcases y5.2 with ⟨_, h0, _⟩ | ⟨b, cur, z3, _⟩
  · omega
  · exact ⟨b, z3⟩
theorem sat_nil {e sz : Nat} {Ls : List SP} (h : SatW Ls w) : SatW (ownS e none 0 0 sz [] :: Ls) w := by
  obtain ⟨r, hh, y1, y2, y3, y4⟩ := h
  exact ⟨r, hh, y1, y2, y3, PH.em, PH.em, hh, PH.em_le _, PH.em_le _, PH.le_refl _, PH.em_dj _, own_nil _ _ _ _, y4⟩

/-- append to a slice without room: a new block; all that was stays. -/
theorem app_full {P : Program} {t ty e : TypeId} {i : TypeInfo} {z : Value} {b o n b2 o2 m c : Nat} {olds news : List Value} (ht : P.underlying t = some (.slice e)) (hi : P.info? e = some i) (hz : i.zero = some z) (hzs : z.cells.size = i.size)
    (hlo : olds.length = n * i.size) (hold : ∀ j u, olds[j]? = some u → w.cell? ⟨b, o + j, none⟩ = some u) (hln : news.length = m * i.size) (hnew : ∀ j u, news[j]? = some u → w.cell? ⟨b2, o2 + j, none⟩ = some u) (hm : 0 < m)
    (h63 : n + m ≤ maxLen) (hbytes : (n + m) * i.bytes ≤ 140737488355328) :
    ∃ c' w', (Builtin.append_ #[t, t] ty #[.slice (some ⟨b, o, none⟩) n n, .slice (some ⟨b2, o2, none⟩) m c]).run P w = .ok (.slice (some ⟨w.heap.size, 0, none⟩) (n + m) c') w' ∧ w'.os = w.os ∧ w'.tape = w.tape ∧ w'.output = w.output ∧
      ∀ Ls, SatW Ls w → SatW (ownS e (some ⟨w.heap.size, 0, none⟩) (n + m) c' i.size (olds ++ news) :: Ls) w' := by
  have hsm : n + m ≤ 9223372036854775807 := by simp only [maxLen] at h63; omega
  have hge := grownCap_ge w (n + m) n e
  have hcm := grownCap_le_maxLen w (n + m) n e h63
  refine ⟨grownCap w (n + m) n e, w.drew.alloc (.cells (olds.toArray ++ news.toArray ++ Builtin.zeroCells z.cells (grownCap w (n + m) n e - (n + m))) e), ?_, rfl, rfl, rfl, fun Ls hs => ?_⟩
  · exact run_append_grow (P := P) w t ty e i z ht hi hz ⟨b, o, none⟩ n n olds hlo (fun j u hu => by rw [add_plain']; exact hold j u hu) ⟨b2, o2, none⟩ m c news hln (fun j u hu => by rw [add_plain']; exact hnew j u hu) (by omega) (by omega) (growslice_fits (by omega) hbytes)
  · have h1 := (hs.heap (w' := w.drew) rfl).alloc (.cells (olds.toArray ++ news.toArray ++ Builtin.zeroCells z.cells (grownCap w (n + m) n e - (n + m))) e)
    refine h1.imp fun r h hb => ⟨by rw [List.length_append, hlo, hln, Nat.add_mul], .inr ⟨w.heap.size, _, rfl, hb, hge, hcm, ?_, ?_⟩⟩
    · simp only [Array.size_append, List.size_toArray, size_zeroCells, hzs, hlo, hln, ← Nat.add_mul]
      congr 1
      omega
    · have hlen2 : (olds ++ news).length = (n + m) * i.size := by rw [List.length_append, hlo, hln, Nat.add_mul]
      simp only [Array.toList_append, List.append_assoc]
      rw [← List.append_assoc, ← hlen2]
      exact List.take_left

set_option maxHeartbeats 1000000 in
theorem appE_step {s' : GS} {o : Oper} {t : TypeId} {xo yo : Operand} {x y : SV} (hr : RelG g β s L a w) (hb : Bd s) (hd : dstOk g.n o.dst = true) (ho : o.op = .call ⟨.builtin .append, #[xo, yo], #[t, t]⟩)
    (hx : ev s.env xo = some x) (hy : ev s.env yo = some y) (h : appE g.P s o.dst t x y = some s') : StepEx g β s s' L a w o := by
  have ex := hr.ev hx
  have ey := hr.ev hy
  have hrun : ∀ v w', (Builtin.append_ #[t, t] o.type #[x.den β, y.den β]).run g.P w = .ok v w' → (execOp a.eval o).run g.P w = .ok (.value v) w' := fun v w' hw => by
    simp [execOp, ho, resolve, ex, ey, invoke, builtin, hw]
  unfold appE at h
  split at h <;> try (cases h; done)
  rename_i e ht
  split at h <;> try (cases h; done)
  rename_i sz by_ he
  obtain ⟨ei, z, hei, hz, hzs, hpos, hes, hby⟩ := elemI_ok he
  have same : ∀ env, putO o.dst x s.env = some env → (Builtin.append_ #[t, t] o.type #[x.den β, y.den β]).run g.P w = .ok (x.den β) w → StepEx g β s { s with env := env } L a w o := fun env hp hw =>
    ⟨β, a.put o.dst (x.den β), w, agree.refl _ _, hr.putE hd hp, fun N Q hn => wp_value (hrun _ _ hw) hn⟩
  split at h
  · split at h <;> try (cases h; done)
    split at h <;> try (cases h; done)
    rename_i c2
    split at h <;> try (cases h; done)
    · split at h <;> cases h
      rename_i env hp
      exact same _ hp (app_nil ht hei (Nat.zero_le _) w)
    · split at h <;> try (cases h; done)
      rename_i hle
      split at h <;> cases h
      rename_i env hp
      exact same _ hp (app_nil ht hei (by simpa using hle) w)
    · split at h <;> try (cases h; done)
      rename_i l o' n e' _ N hN
      split at h <;> try (cases h; done)
      rename_i hle
      split at h <;> cases h
      rename_i env hp
      have h1 := gmLen_ok hr _ _ hN
      have h2 : e' + n ≤ N := by simpa using hle
      exact same _ hp (app_nil ht hei (by omega) w)
  · cases h
  · rename_i m news hrow
    obtain ⟨b2, o2, c2, hyd, hnl, hnc⟩ := rowCells_ok hr hrow
    have hnlt := rowCells_lt hb hrow
    have hnl' : (news.map (Ce.den β)).length = (m + 1) * ei.size := by rw [List.length_map, hnl, hes]
    have hnc' : ∀ j u, (news.map (Ce.den β))[j]? = some u → w.cell? ((⟨b2, o2, none⟩ : Addr).add j) = some u := fun j u hu => by rw [add_plain']; exact hnc j u hu
    split at h <;> try (cases h; done)
    rename_i hpl
    have hone := allPl_one (β := β) hpl
    split at h <;> try (cases h; done)
    · -- the first ones
      split at h <;> try (cases h; done)
      rename_i hsm
      obtain ⟨s1, s2⟩ := small_ok hsm
      obtain ⟨A', c'', w', r1, r2, r3, r4, r5⟩ := own_append (P := g.P) (ty := o.type) ht hei hz hzs hpos (sat_nil (e := e) (sz := ei.size) hr.sat') ⟨b2, o2, none⟩ (m + 1) c2 _ hnl' hnc' hone (by omega) (by rw [hby, Nat.zero_add]; exact s2)
      rw [Nat.zero_add] at r1 r5
      obtain ⟨b, rfl⟩ := own_some r5 (by omega)
      rw [hes] at r5
      refine newG_step (b := b) (c := c'') hr hb hd hnlt hb.gm h (hrun _ _ ?_) ⟨r2, r3, r4⟩ r5
      rw [hyd]
      exact r1
    · -- more
      rename_i l n
      split at h <;> try (cases h; done)
      rename_i e2 N sz2 cs hl
      split at h <;> try (cases h; done)
      rename_i he2
      obtain rfl : e2 = e := Nat.eq_of_beq_eq_true he2
      split at h <;> try (cases h; done)
      rename_i hN
      obtain rfl : N = n := Nat.eq_of_beq_eq_true hN
      split at h <;> try (cases h; done)
      rename_i hz2
      obtain rfl : sz2 = sz := Nat.eq_of_beq_eq_true hz2
      split at h <;> try (cases h; done)
      rename_i hsm
      obtain ⟨s1, s2⟩ := small_ok hsm
      split at h <;> try (cases h; done)
      rename_i gm' hdel
      split at h <;> try (cases h; done)
      rename_i zs hzz
      rw [appS_eq] at hzz
      cases hzz
      have hsat : SatW (grSP β (l, e2, N, sz2, cs) :: (memSP β s.mem ++ (gmSP β gm' ++ (L.map (·.2) ++ g.F)))) w := by
        have h1 := hr.sat'.swapHead
        have h2 := h1.perm ((lookG_perm hl hdel).append_right _)
        have h3 : SatW ((grSP β (l, e2, N, sz2, cs) :: gmSP β gm') ++ (memSP β s.mem ++ (L.map (·.2) ++ g.F))) w := h2
        exact h3.swapHead.perm List.perm_middle
      unfold grSP at hsat
      simp only at hsat
      rw [← hes] at hsat
      obtain ⟨A', c'', w', r1, r2, r3, r4, r5⟩ := own_append (P := g.P) (ty := o.type) ht hei hz hzs hpos hsat ⟨b2, o2, none⟩ (m + 1) c2 _ hnl' hnc' hone (by omega) (by rw [hby]; exact s2)
      obtain ⟨b, rfl⟩ := own_some r5 (by omega)
      rw [hes, ← List.map_append] at r5
      refine newG_step (b := b) (c := c'') hr hb hd ?_ (delG_lt hb.gm hdel) h (hrun _ _ ?_) ⟨r2, r3, r4⟩ r5
      · intro u hu
        rcases List.mem_append.1 hu with hu | hu
        · exact (hb.gm _ (lookG_mem hl)).2 u hu
        · exact hnlt u hu
      · rw [hyd]
        simpa [SV.den, Ce.den] using r1
    · -- without room
      rename_i l o' n c
      split at h <;> try (cases h; done)
      rename_i hnc2
      obtain rfl : n = c := Nat.eq_of_beq_eq_true hnc2
      split at h <;> try (cases h; done)
      rename_i hsm
      obtain ⟨s1, s2⟩ := small_ok hsm
      split at h <;> try (cases h; done)
      rename_i tt cs hl
      split at h <;> try (cases h; done)
      rename_i olds hcut
      split at h <;> try (cases h; done)
      rename_i zs hzz
      rw [appS_eq] at hzz
      cases hzz
      obtain ⟨c1, c3⟩ := cutL_spec cs o' _ olds hcut
      have hold : ∀ j u, (olds.map (Ce.den β))[j]? = some u → w.cell? ⟨β l, o' + j, none⟩ = some u := by
        intro j u hu
        rw [List.getElem?_map] at hu
        cases hj : olds[j]? with
        | none => rw [hj] at hu; cases hu
        | some x =>
          rw [hj] at hu
          cases hu
          have hlt : j < n * sz := by have := (List.getElem?_eq_some_iff.1 hj).1; omega
          rw [hr.cell hl, c3 j hlt, hj]
          rfl
      obtain ⟨c', w', r1, r2, r3, r4, r5⟩ := app_full (P := g.P) (ty := o.type) (m := m + 1) (c := c2) ht hei hz hzs (by rw [List.length_map, c1, hes]) hold hnl' hnc (by omega) (by omega) (by rw [hby]; exact s2)
      have r6 := r5 _ hr.sat'
      rw [hes, ← List.map_append] at r6
      refine newG_step (b := w.heap.size) (c := c') hr hb hd ?_ hb.gm h (hrun _ _ ?_) ⟨r2, r3, r4⟩ r6
      · intro u hu
        rcases List.mem_append.1 hu with hu | hu
        · exact (hb.mem _ (lookM_mem hl)).2 u (cutL_mem hcut u hu)
        · exact hnlt u hu
      · rw [hyd]
        exact r1
end
end Go.Proofs.YtccmdlmlbkpjjaaGreatDoor

/- The evaluator: stores, make, and all operations that are no calls of functions: 'effX'. -/
namespace Go.Proofs.YtccmdlmlbkpjjaaGreatDoor
open Go.RowKit

section
variable {g : Cx} {β : Nat → Nat} {s : GS} {L : Res} {a : Act} {w : World}

theorem setMo_keeps {b l : Nat} {zs : List Ce} (hl : b ≤ l) : ∀ {m m' m0 : Mem}, (∃ n1, m = n1 ++ m0 ∧ ∀ e ∈ n1, b ≤ e.1) → (∀ e ∈ m0, e.1 < b) → setMo m l zs = some m' → ∃ n1, m' = n1 ++ m0 ∧ ∀ e ∈ n1, b ≤ e.1
  | [], m', m0, ⟨n1, h1, h2⟩, h3, hd => by
    simp only [setMo, Option.some.injEq] at hd
    subst hd
    exact ⟨n1, h1, h2⟩
  | (k, t, y) :: r, m', m0, ⟨n1, h1, h2⟩, h3, hd => by
    cases n1 with
    | nil =>
      simp only [List.nil_append] at h1
      have hno : ∀ (q : Mem), (∀ e ∈ q, e.1 < b) → setMo q l zs = some q := by
        intro q
        induction q with
        | nil => intro _; rfl
        | cons z q ih =>
          obtain ⟨kz, tz, yz⟩ := z
          intro hq
          have hk : kz ≠ l := by have := hq (kz, tz, yz) (by simp); simp at this; omega
          have hbq : Nat.beq kz l = false := by rw [← Bool.not_eq_true, Nat.beq_eq]; exact hk
          simp only [setMo, hbq, ih fun e he => hq e (List.mem_cons_of_mem _ he)]
      rw [h1, hno m0 h3] at hd
      cases hd
      exact ⟨[], rfl, by simp⟩
    | cons z n1 =>
      simp only [List.cons_append, List.cons.injEq] at h1
      obtain ⟨rfl, h1⟩ := h1
      simp only [setMo] at hd
      split at hd
      · cases hd
        refine ⟨(k, t, zs) :: n1, by rw [h1]; rfl, ?_⟩
        intro e he
        rcases List.mem_cons.1 he with rfl | he
        · exact h2 (k, t, y) (by simp)
        · exact h2 e (List.mem_cons_of_mem _ he)
      · split at hd <;> cases hd
        rename_i r' hr
        obtain ⟨n3, k1, k2⟩ := setMo_keeps hl ⟨n1, h1, fun e he => h2 e (List.mem_cons_of_mem _ he)⟩ h3 hr
        refine ⟨(k, t, y) :: n3, by rw [k1]; rfl, ?_⟩
        intro e he
        rcases List.mem_cons.1 he with rfl | he
        · exact h2 _ (by simp)
        · exact k2 e he
theorem setG_keeps {b l : Nat} {zs : List Ce} (hl : b ≤ l) : ∀ {m m' m0 : GMem}, (∃ n1, m = n1 ++ m0 ∧ ∀ e ∈ n1, b ≤ e.1) → (∀ e ∈ m0, e.1 < b) → setG m l zs = some m' → ∃ n1, m' = n1 ++ m0 ∧ ∀ e ∈ n1, b ≤ e.1
  | [], m', m0, ⟨n1, h1, h2⟩, h3, hd => by
    simp only [setG, Option.some.injEq] at hd
    subst hd
    exact ⟨n1, h1, h2⟩
  | (k, t, u, v, y) :: r, m', m0, ⟨n1, h1, h2⟩, h3, hd => by
    cases n1 with
    | nil =>
      simp only [List.nil_append] at h1
      have hno : ∀ (q : GMem), (∀ e ∈ q, e.1 < b) → setG q l zs = some q := by
        intro q
        induction q with
        | nil => intro _; rfl
        | cons z q ih =>
          obtain ⟨kz, tz, uz, vz, yz⟩ := z
          intro hq
          have hk : kz ≠ l := by have := hq (kz, tz, uz, vz, yz) (by simp); simp at this; omega
          have hbq : Nat.beq kz l = false := by rw [← Bool.not_eq_true, Nat.beq_eq]; exact hk
          simp only [setG, hbq, ih fun e he => hq e (List.mem_cons_of_mem _ he)]
      rw [h1, hno m0 h3] at hd
      cases hd
      exact ⟨[], rfl, by simp⟩
    | cons z n1 =>
      simp only [List.cons_append, List.cons.injEq] at h1
      obtain ⟨rfl, h1⟩ := h1
      simp only [setG] at hd
      split at hd
      · cases hd
        refine ⟨(k, t, u, v, zs) :: n1, by rw [h1]; rfl, ?_⟩
        intro e he
        rcases List.mem_cons.1 he with rfl | he
        · exact h2 (k, t, u, v, y) (by simp)
        · exact h2 e (List.mem_cons_of_mem _ he)
      · split at hd <;> cases hd
        rename_i r' hr
        obtain ⟨n3, k1, k2⟩ := setG_keeps hl ⟨n1, h1, fun e he => h2 e (List.mem_cons_of_mem _ he)⟩ h3 hr
        refine ⟨(k, t, u, v, y) :: n3, by rw [k1]; rfl, ?_⟩
        intro e he
        rcases List.mem_cons.1 he with rfl | he
        · exact h2 _ (by simp)
        · exact k2 e he
theorem setMo_lt {n l : Nat} {zs : List Ce} (hz : ∀ z ∈ zs, z.lt n) : ∀ {m m' : Mem}, ltM n m → setMo m l zs = some m' → ltM n m'
  | [], m', h, hd => by simp only [setMo, Option.some.injEq] at hd; subst hd; exact h
  | (k, t, y) :: r, m', h, hd => by
    simp only [setMo] at hd
    split at hd
    · cases hd
      intro e he
      rcases List.mem_cons.1 he with rfl | he
      · exact ⟨(h (k, t, y) (by simp)).1, hz⟩
      · exact h e (List.mem_cons_of_mem _ he)
    · split at hd <;> cases hd
      rename_i r' hr
      intro e he
      rcases List.mem_cons.1 he with rfl | he
      · exact h _ (by simp)
      · exact setMo_lt hz (fun e he => h e (List.mem_cons_of_mem _ he)) hr e he
theorem setG_lt {n l : Nat} {zs : List Ce} (hz : ∀ z ∈ zs, z.lt n) : ∀ {m m' : GMem}, ltG n m → setG m l zs = some m' → ltG n m'
  | [], m', h, hd => by simp only [setG, Option.some.injEq] at hd; subst hd; exact h
  | (k, t, u, v, y) :: r, m', h, hd => by
    simp only [setG] at hd
    split at hd
    · cases hd
      intro e he
      rcases List.mem_cons.1 he with rfl | he
      · exact ⟨(h (k, t, u, v, y) (by simp)).1, hz⟩
      · exact h e (List.mem_cons_of_mem _ he)
    · split at hd <;> cases hd
      rename_i r' hr
      intro e he
      rcases List.mem_cons.1 he with rfl | he
      · exact h _ (by simp)
      · exact setG_lt hz (fun e he => h e (List.mem_cons_of_mem _ he)) hr e he
theorem setG_perm : ∀ {gm gm' gd : GMem} {l e n sz : Nat} {cs zs : List Ce}, lookG gm l = some (e, n, sz, cs) → setG gm l zs = some gm' → delG gm l = some gd → (gmSP β gm').Perm (grSP β (l, e, n, sz, zs) :: gmSP β gd)
  | [], _, _, _, _, _, _, _, _, h, _, _ => by cases h
  | (k, t, u, v, y) :: r, gm', gd, l, e, n, sz, cs, zs, h, hs, hd => by
    rw [lookG_cons] at h
    simp only [setG] at hs
    simp only [delG] at hd
    by_cases ek : k = l
    · subst ek
      rw [if_pos rfl] at h
      cases h
      simp at hs hd
      subst hs
      subst hd
      exact List.Perm.refl _
    · rw [if_neg ek] at h
      have hb : Nat.beq k l = false := by rw [← Bool.not_eq_true, Nat.beq_eq]; exact ek
      rw [hb] at hs hd
      simp only at hs hd
      split at hs <;> cases hs
      rename_i r1 h1
      split at hd <;> cases hd
      rename_i r2 h2
      exact (List.Perm.cons _ (setG_perm h h1 h2)).trans (List.Perm.swap _ _ _)

theorem gr_store {l e n sz off : Nat} {cs ys zs : List Ce} {gm' : GMem} {t : TypeId} {i : TypeInfo} {v : Value} (hr : RelG g β s L a w) (hl : lookG s.gm l = some (e, n, sz, cs)) (hv : v.cells = cellsOf β ys) (hi : g.P.info? t = some i) (hs : ys.length = i.size)
    (hfit : off + ys.length ≤ cs.length) (hp : allPlain ys = true) (hz : fillS.setsO cs off ys = some zs) (hg : setG s.gm l zs = some gm') :
    ∃ w', (Instr.storeAt t (.pointer (some ⟨β l, off, none⟩)) v).run g.P w = .ok () w' ∧ RelG g β { s with gm := gm' } L a w' := by
  obtain ⟨gd, hd⟩ := delG_some s.gm l
  have h2 := hr.sat'.swapHead.perm ((lookG_perm hl hd).append_right _)
  obtain ⟨r, hh, x1, x2, x3, r1, k1, k2, y1, y2, y3, y4, y5, y6⟩ := h2
  obtain ⟨z1, z2⟩ := y5
  rcases z2 with ⟨z3, _⟩ | ⟨b, cur, z3, z4, z5, z6, z7, z8⟩
  · cases z3
  cases z3
  simp only at z1 z4 z5 z6 z7 z8
  rw [List.length_map] at z1
  have hblk : SatW (blk (β l) (.cells cur e (0, 0)) :: (gmSP β gd ++ (memSP β s.mem ++ (L.map (·.2) ++ g.F)))) w := ⟨r, hh, x1, x2, x3, r1, k1, k2, y1, y2, y3, y4, z4, y6⟩
  have hw := hblk.get
  have hcs : n * sz ≤ cur.size := by rw [z7]; exact Nat.mul_le_mul_right _ z5
  have hst := run_storeCells_at g.P (β l) off e (ys.map (Ce.den β)) 0 cur w hw (by simp; omega) (by
    intro v hv
    obtain ⟨x, hx, rfl⟩ := List.mem_map.1 hv
    exact plain_one (allPlain_mem hp x hx))
  obtain ⟨q1, q2⟩ := setsO_spec cs off ys zs hz
  refine ⟨w.setRow (β l) (cur.toList.take (off + 0) ++ ys.map (Ce.den β) ++ cur.toList.drop (off + 0 + (ys.map (Ce.den β)).length)).toArray, ?_, ?_⟩
  · have e : v.cells.toList = ys.map (Ce.den β) := by rw [hv]; simp [cellsOf]
    have e2 : v.cells.size = i.size := by rw [hv, size_cellsOf, hs]
    simp [Instr.storeAt, Instr.sureAddr, storeVar, sizeOf, typeInfo, hi, e, e2] at hst ⊢
    simp [hst]
  · have h3 := SatW.set hblk (o' := .cells (cur.toList.take (off + 0) ++ ys.map (Ce.den β) ++ cur.toList.drop (off + 0 + (ys.map (Ce.den β)).length)).toArray e (0, 0)) (fun n hn => setRow_other w _ n _ hn) (setRow_heap w _ _ _ _ _ hw)
    have h4 := h3.imp (Q := grSP β (l, e, n, sz, zs)) (fun r h hb => by
      refine ⟨by rw [List.length_map, q1, z1], .inr ⟨β l, _, rfl, hb, z5, z6, ?_, ?_⟩⟩
      · simp only [List.size_toArray, List.length_append, List.length_take, List.length_drop, List.length_map, Array.length_toList, ← z7]
        omega
      · apply List.ext_getElem?
        intro j
        have zj := congrArg (fun q : List Value => q[j]?) z8
        simp only [List.getElem?_take, List.getElem?_map] at zj ⊢
        rw [q2 j]
        by_cases hj : j < n * sz
        · rw [if_pos hj] at zj ⊢
          simp only [Nat.add_zero, List.getElem?_append, List.length_take, List.length_append, List.length_map, Array.length_toList, List.getElem?_take, List.getElem?_drop, List.getElem?_map]
          by_cases c1 : j < off
          · rw [if_pos (by omega), if_pos (by omega), if_pos c1, if_neg (by omega)]
            exact zj
          · by_cases c2 : j < off + ys.length
            · rw [if_pos (by omega), if_neg (by omega), if_pos ⟨by omega, c2⟩, Nat.min_eq_left (by omega)]
            · rw [if_neg (by omega), if_neg (by omega), Nat.min_eq_left (by omega), show off + ys.length + (j - (off + ys.length)) = j from by omega]
              exact zj
        · rw [if_neg hj, if_neg (by omega), List.getElem?_eq_none (by omega)]
          rfl)
    refine RelG.mk' hr.defers hr.size hr.env hr.os hr.tape hr.output ?_
    have h5 : SatW (gmSP β gm' ++ (memSP β s.mem ++ (L.map (·.2) ++ g.F))) _ := SatW.perm (L := (grSP β (l, e, n, sz, zs) :: gmSP β gd) ++ (memSP β s.mem ++ (L.map (·.2) ++ g.F))) h4 ((setG_perm hl hg hd).symm.append_right _)
    exact h5.swapHead

theorem made_eq {P : Program} {e n : Nat} {i : TypeInfo} {z : List Ce} {zv : Value} (hzc : zv.cells = cellsOf β z) (e1 : z.length = i.size) (e3 : 0 < i.size) : (Array.range (n * i.size)).map (zv.cells[· % zv.cells.size]!) = cellsOf β (List.replicate n z).flatten := by
  rw [hzc, size_cellsOf]
  apply Array.ext_getElem?
  intro j
  rw [getElem?_cellsOf]
  simp only [Array.getElem?_map]
  by_cases hj : j < n * i.size
  · rw [rep_get z (by omega) n j (by rw [e1]; exact hj)]
    have hm : j % z.length < z.length := Nat.mod_lt _ (by omega)
    have e5 : (cellsOf β z)[j % z.length]! = z[j % z.length].den β := by
      rw [getElem!_pos _ _ (by rw [size_cellsOf]; exact hm)]
      simp [cellsOf]
    simp [hj, e5, List.getElem?_eq_getElem hm]
  · rw [List.getElem?_eq_none (by simp [e1]; omega)]
    simp [hj]
end

theorem run_makeSlice' {P : Program} {w : World} {t e : TypeId} {i : TypeInfo} {z : Value} (ht : P.underlying t = some (.slice e)) (hi : P.info? e = some i) (hz : i.zero = some z) (kl kc : IntKind) (l c : Nat) (hlc : l ≤ c) (hb : i.bytes * c ≤ 281474976710656) (h63 : c ≤ 9223372036854775807) :
    (Instr.makeSlice t (.int kl (Int.ofNat l)) (.int kc (Int.ofNat c))).run P w = .ok (.slice (some ⟨w.heap.size, 0, none⟩) l c) (w.alloc (.cells (madeCells z.cells (c * i.size)) e)) :=
  run_make w t e i z ht hi hz kl kc (Int.ofNat l) (Int.ofNat c) (Int.natCast_nonneg _) (Int.ofNat_le.2 hlc) (by show (i.bytes : Int) * (c : Int) ≤ _; rw [← Int.natCast_mul]; omega) (by show (c : Int) ≤ _; omega)

/-- An operation that makes or turns memory. -/
def effX (P : Program) (n : Nat) (s : GS) (o : Oper) : Option GS :=
  match dstOk n o.dst with
  | false => none
  | true => match o.op with
    | .pick c x y => match nrm (ev s.env c) with
      | some (.c (.v (.bool b))) => match ev s.env (match b with | true => x | false => y) with
        | some u => match putO o.dst u s.env with
          | some env => some { s with env := env }
          | none => none
        | none => none
      | _ => none
    | .alloc t => match zeroS P t with
      | some cs => newL s o.dst (.c (.loc s.nl 0)) t cs
      | none => none
    | .box t x => match ev s.env x with
      | some u => match cellsS u with
        | some cs => newL s o.dst (.c (.loc s.nl 0)) t cs
        | none => none
      | none => none
    | .buildSlice t m ps => match P.underlying t with
      | some (.slice e) => match rowS P s.env e m ps.toList with
        | some cs => newL s o.dst (.c (.locs s.nl 0 m m)) e cs
        | none => none
      | _ => none
    | .makeSlice t l c => match P.underlying t with
      | some (.slice e) => match nrm (ev s.env l) with
        | some (.c (.v (.int _ (.ofNat l)))) => match nrm (ev s.env c) with
          | some (.c (.v (.int _ (.ofNat c)))) => match P.info? e with
            | some i => match i.zero with
              | some _ => match zeroS P e with
                | some z => match Nat.beq z.length i.size with
                  | true => match Nat.blt 0 i.size with
                    | true => match Nat.ble l c with
                      | true => match Nat.ble (i.bytes * c) 281474976710656 with
                        | true => match Nat.ble c 9223372036854775807 with
                          | true => match repS c z with
                            | some cs => newL s o.dst (.c (.locs s.nl 0 l c)) e cs
                            | none => none
                          | false => none
                        | false => none
                      | false => none
                    | false => none
                  | false => none
                | none => none
              | none => none
            | none => none
          | _ => none
        | _ => none
      | _ => none
    | .store t x y => match ev s.env x with
      | some (.c (.loc l off)) => match ev s.env y with
        | some u => match cellsS u with
          | some ys => match P.info? t with
            | some i => match Nat.beq ys.length i.size with
              | true => match allPlain ys with
                | true => match lookM s.mem l with
                  | some (_, cs) => match Nat.ble (off + ys.length) cs.length with
                    | true => match fillS.setsO cs off ys with
                      | some zs => match setMo s.mem l zs with
                        | some mem' => match putO o.dst (.c (.v undef)) s.env with
                          | some env => some { s with env := env, mem := mem', low := minN s.low l }
                          | none => none
                        | none => none
                      | none => none
                    | false => none
                  | none => match lookG s.gm l with
                    | some (_, _, _, cs) => match Nat.ble (off + ys.length) cs.length with
                      | true => match fillS.setsO cs off ys with
                        | some zs => match setG s.gm l zs with
                          | some gm' => match putO o.dst (.c (.v undef)) s.env with
                            | some env => some { s with env := env, gm := gm', low := minN s.low l }
                            | none => none
                          | none => none
                        | none => none
                      | false => none
                    | none => none
                | false => none
              | false => none
            | none => none
          | none => none
        | none => none
      | _ => none
    | .call ⟨.builtin .append, args, ts⟩ => match args.toList with
      | [x, y] => match ts.toList with
        | [t, t'] => match Nat.beq t t' with
          | true => match ev s.env x with
            | some u => match ev s.env y with
              | some v => appE P s o.dst t u v
              | none => none
            | none => none
          | false => none
        | _ => none
      | _ => none
    | _ => none

theorem effX_grow {P : Program} {n : Nat} {s s' : GS} {o : Oper} (h : effX P n s o = some s') : Grow s s' := by
  unfold effX at h
  split at h <;> try (cases h; done)
  split at h <;> try (cases h; done)
  · -- pick
    split at h <;> try (cases h; done)
    split at h <;> try (cases h; done)
    rename_i u hu
    split at h <;> cases h
    rename_i hp
    exact Grow.env (fun b => ev_lt b.env hu) hp
  · split at h <;> try (cases h; done)
    rename_i hz
    exact newL_grow (fun b => zeroS_lt hz) (Nat.lt_succ_self _) h
  · split at h <;> try (cases h; done)
    rename_i hu
    split at h <;> try (cases h; done)
    rename_i hc
    exact newL_grow (fun b => cellsS_lt (ev_lt b.env hu) hc) (Nat.lt_succ_self _) h
  · split at h <;> try (cases h; done)
    split at h <;> try (cases h; done)
    rename_i hr
    exact newL_grow (fun b => rowS_lt b.env hr) (Nat.lt_succ_self _) h
  · split at h <;> try (cases h; done)
    split at h <;> try (cases h; done)
    split at h <;> try (cases h; done)
    split at h <;> try (cases h; done)
    split at h <;> try (cases h; done)
    split at h <;> try (cases h; done)
    rename_i z hz
    split at h <;> try (cases h; done)
    split at h <;> try (cases h; done)
    split at h <;> try (cases h; done)
    split at h <;> try (cases h; done)
    split at h <;> try (cases h; done)
    split at h <;> try (cases h; done)
    rename_i cs hr
    rw [repS_eq] at hr
    cases hr
    refine newL_grow (fun b => ?_) (Nat.lt_succ_self _) h
    intro x hx
    obtain ⟨l, hl, hx2⟩ := List.mem_flatten.1 hx
    obtain rfl := List.eq_of_mem_replicate hl
    exact zeroS_lt hz x hx2
  · split at h <;> try (cases h; done)
    split at h <;> try (cases h; done)
    rename_i u hu
    split at h <;> try (cases h; done)
    rename_i ys hys
    split at h <;> try (cases h; done)
    split at h <;> try (cases h; done)
    split at h <;> try (cases h; done)
    split at h
    · rename_i cs hl
      split at h <;> try (cases h; done)
      split at h <;> try (cases h; done)
      rename_i zs hz
      split at h <;> try (cases h; done)
      rename_i mem' hm
      split at h <;> cases h
      rename_i env hp
      have hzl : ∀ (b : Bd s), ∀ x ∈ zs, x.lt s.nl := fun b x hx => by
        rcases setsO_mem hz x hx with h1 | h1
        · exact (b.mem _ (lookM_mem hl)).2 x h1
        · exact cellsS_lt (ev_lt b.env hu) hys x h1
      exact ⟨fun b => ⟨b.env.putO (x := .c (.v undef)) trivial hp, setMo_lt (hzl b) b.mem hm, b.gm⟩, Nat.le_refl _, (minN_le _ _).1, fun b hb hn m0 g0 k1 k2 k3 k4 => ⟨setMo_keeps (Nat.le_trans hb (minN_le _ _).2) k1 k3 hm, k2⟩⟩
    · split at h <;> try (cases h; done)
      rename_i e nn sz cs hl
      split at h <;> try (cases h; done)
      split at h <;> try (cases h; done)
      rename_i zs hz
      split at h <;> try (cases h; done)
      rename_i gm' hm
      split at h <;> cases h
      rename_i env hp
      have hzl : ∀ (b : Bd s), ∀ x ∈ zs, x.lt s.nl := fun b x hx => by
        rcases setsO_mem hz x hx with h1 | h1
        · exact (b.gm _ (lookG_mem hl)).2 x h1
        · exact cellsS_lt (ev_lt b.env hu) hys x h1
      exact ⟨fun b => ⟨b.env.putO (x := .c (.v undef)) trivial hp, b.mem, setG_lt (hzl b) b.gm hm⟩, Nat.le_refl _, (minN_le _ _).1, fun b hb hn m0 g0 k1 k2 k3 k4 => ⟨k1, setG_keeps (Nat.le_trans hb (minN_le _ _).2) k2 k4 hm⟩⟩
  · split at h <;> try (cases h; done)
    split at h <;> try (cases h; done)
    split at h <;> try (cases h; done)
    split at h <;> try (cases h; done)
    rename_i u hu
    split at h <;> try (cases h; done)
    exact appE_grow (fun b => ev_lt b.env hu) h
end Go.Proofs.YtccmdlmlbkpjjaaGreatDoor

/- The evaluator: plans with several orders; states that are alike up to the labels' names. -/
namespace Go.Proofs.YtccmdlmlbkpjjaaGreatDoor
open Go.RowKit

/-! ### Plans with several orders -/
inductive PT where
  | nil
  | pure (i : Nat) (r : PT)
  | held (i : Nat) (r : PT)
  /-- One that acts, the plan behind it, and what else may come first. -/
  | alt (i : Nat) (keep : Bool) (r o : PT)

section
variable {P : Program} {ops : Array Oper} {Q : Exit → Act → World → Prop} {S T : World → Prop} {late : Nat → Bool}
def planRunT (P : Program) (ops : Array Oper) (Q : Exit → Act → World → Prop) (S : World → Prop) : PT → Bool → Act → World → Prop
  | .nil, false, a, w => Q .normal a w
  | .nil, true, _, _ => True
  | .pure i r, _, a, w => ∃ o v, ops[i]? = some o ∧ YieldsIf P ops (fun _ => True) o v a ∧ planRunT P ops Q S r false (a.put o.dst v) w
  | .held i r, _, a, w => ∃ o v, ops[i]? = some o ∧ YieldsIf P ops S o v a ∧ S w ∧ planRunT P ops Q S r false (a.put o.dst v) w
  | .alt i keep r q, _, a, w => (∃ o, ops[i]? = some o ∧ Region.wanted o (yielded ops a.tmps) = true ∧ o.wp P a w (fun a' w' => (keep = true → S w → S w') ∧ planRunT P ops Q S r false a' w') Q) ∧ planRunT P ops Q S q true a w
def isLateT : PT → Nat → Bool
  | .nil, _ => false
  | .pure _ r, j => isLateT r j
  | .held _ r, j => isLateT r j
  | .alt i keep r q, j => (match keep with | true => false | false => Nat.beq i j) || isLateT r j || isLateT q j
def idsT : PT → List Nat
  | .alt i _ _ q => i :: idsT q
  | _ => []
def planOkT (ops : Array Oper) (late : Nat → Bool) : PT → Bool → Nat → Array Bool → Bool
  | .nil, false, n, listed => Nat.beq n 0 && (Region.ready .any ops listed).isEmpty
  | .nil, true, _, _ => true
  | .pure i r, false, n + 1, listed => (Region.ready .any ops listed).contains i && Region.free .any ops listed i && planOkT ops late r false n (listed.setIfInBounds i true)
  | .held i r, false, n + 1, listed => (Region.ready .any ops listed).contains i && Region.free .any ops listed i && lateWait ops late i && planOkT ops late r false n (listed.setIfInBounds i true)
  | .alt i keep r q, b, n + 1, listed => (b || Region.ready .any ops listed == idsT (.alt i keep r q)) && (late i == !keep) && planOkT ops late r false n (listed.setIfInBounds i true) && planOkT ops late q true (n + 1) listed
  | _, _, _, _ => false

theorem plan_soundT (hsel : Region.noSelect ops = true) (hQ : ∀ c a w, ¬ Q (.panic c) a w) : ∀ (p : PT),
    (∀ (n : Nat) (listed : Array Bool) (a : Act) (w : World), planOkT ops late p false n listed = true → planRunT P ops Q S p false a w → wpX P ops Q S late n listed a w) ∧
    (∀ (n : Nat) (listed : Array Bool) (a : Act) (w : World), planOkT ops late p true (n + 1) listed = true → planRunT P ops Q S p true a w → ∀ i ∈ idsT p, wpOp P ops Q i (fun a' w' => (late i = false → S w → S w') ∧ wpX P ops Q S late n (listed.setIfInBounds i true) a' w') a w)
  | .nil => ⟨fun n listed a w hp h => by
      simp only [planOkT, Bool.and_eq_true, List.isEmpty_iff, Nat.beq_eq] at hp
      obtain ⟨rfl, hp⟩ := hp
      exact ⟨hp, h⟩, fun n listed a w _ _ i hi => by cases hi⟩
  | .pure i r => ⟨fun n listed a w hp h => by
      cases n with
      | zero => cases hp
      | succ n =>
        simp only [planOkT, Bool.and_eq_true] at hp
        obtain ⟨o, v, ho, hy, hr⟩ := h
        refine wpX_first ho (Region.noSelect_spec hsel) (fun c a w hq => absurd hq (hQ c _ w)) (T := fun _ => True) (fun _ _ _ _ _ _ _ _ => trivial) n listed a w (Region.free_spec ho hp.1.2) (by simpa using hp.1.1) hy trivial ?_
        exact (plan_soundT hsel hQ r).1 n _ _ w hp.2 hr, fun n listed a w _ _ i hi => by cases hi⟩
  | .held i r => ⟨fun n listed a w hp h => by
      cases n with
      | zero => cases hp
      | succ n =>
        simp only [planOkT, Bool.and_eq_true] at hp
        obtain ⟨o, v, ho, hy, hS, hr⟩ := h
        refine wpX_first ho (Region.noSelect_spec hsel) (fun c a w hq => absurd hq (hQ c _ w)) (T := S) (fun j oj hj hno w w' hw hk => ?_) n listed a w (Region.free_spec ho hp.1.1.2) (by simpa using hp.1.1.1) hy hS ?_
        · refine hk ?_ hw
          have hl := hp.1.2
          simp only [lateWait, List.all_eq_true, List.mem_range] at hl
          have h1 := hl j (Array.getElem?_eq_some_iff.1 hj).1
          simp only [hj, Bool.or_eq_true, Bool.not_eq_true'] at h1
          rcases h1 with h1 | h1
          · exact h1
          · obtain ⟨e, he, hb⟩ := Array.any_eq_true'.1 h1
            simp only [Bool.and_eq_true, beq_iff_eq] at hb
            exact absurd hb.2 (hno e he hb.1)
        · exact (plan_soundT hsel hQ r).1 n _ _ w hp.2 hr, fun n listed a w _ _ i hi => by cases hi⟩
  | .alt i keep r q => by
    have key : ∀ (b : Bool) (n : Nat) (listed : Array Bool) (a : Act) (w : World), planOkT ops late (.alt i keep r q) b (n + 1) listed = true → planRunT P ops Q S (.alt i keep r q) b a w →
        ∀ j ∈ idsT (.alt i keep r q), wpOp P ops Q j (fun a' w' => (late j = false → S w → S w') ∧ wpX P ops Q S late n (listed.setIfInBounds j true) a' w') a w := by
      intro b n listed a w hp h j hj
      simp only [planOkT, Bool.and_eq_true, beq_iff_eq] at hp
      simp only [planRunT] at h
      obtain ⟨⟨o, ho, hw, h1⟩, h2⟩ := h
      rcases List.mem_cons.1 hj with rfl | hj
      · unfold wpOp
        simp only [ho]
        rw [if_pos hw]
        left
        refine Oper.wp_mono (fun a' w' h3 => ⟨fun hl hS => h3.1 (by rw [hp.1.1.2] at hl; simpa using hl) hS, (plan_soundT hsel hQ r).1 n _ a' w' hp.1.2 h3.2⟩) h1
      · exact (plan_soundT hsel hQ q).2 n listed a w hp.2 h2 j hj
    refine ⟨fun n listed a w hp h => ?_, fun n listed a w hp h => key true n listed a w hp h⟩
    cases n with
    | zero => simp [planOkT] at hp
    | succ n =>
      have hk := key false n listed a w hp h
      simp only [planOkT, Bool.and_eq_true, beq_iff_eq, Bool.false_or] at hp
      rw [← hp.1.1.1] at hk
      exact ⟨fun h0 => (by rw [hp.1.1.1] at h0; cases h0), hk⟩
end

/-! ### States alike -/
def beqB (x y : Bool) : Bool := match x, y with
  | true, true => true
  | false, false => true
  | _, _ => false
theorem beqB_ok {x y : Bool} (h : beqB x y = true) : x = y := by cases x <;> cases y <;> simp_all [beqB]
def beqV0 : Value → Value → Bool
  | .int k n, .int k' n' => decide (k = k') && decide (n = n')
  | .bool b, .bool b' => beqB b b'
  | .pointer none, .pointer none => true
  | .slice none n c, .slice none n' c' => Nat.beq n n' && Nat.beq c c'
  | .nilIface, .nilIface => true
  | .nilFunc, .nilFunc => true
  | .string s, .string s' => decide (s = s')
  | .tuple ⟨[]⟩, .tuple ⟨[]⟩ => true
  | _, _ => false
theorem beqV0_ok {x y : Value} (h : beqV0 x y = true) : x = y := by
  unfold beqV0 at h
  split at h <;> first
    | rfl
    | (cases h; done)
    | (simp only [Bool.and_eq_true, decide_eq_true_eq, Nat.beq_eq] at h; obtain ⟨rfl, rfl⟩ := h; rfl)
    | (have := beqB_ok h; subst this; rfl)
    | (simp only [decide_eq_true_eq] at h; subst h; rfl)
def beqV (x y : Value) : Bool := match x, y with
  | .iface t v, .iface t' v' => Nat.beq t t' && beqV0 v v'
  | x, y => beqV0 x y
theorem beqV_ok {x y : Value} (h : beqV x y = true) : x = y := by
  unfold beqV at h
  split at h
  · simp only [Bool.and_eq_true, Nat.beq_eq] at h
    obtain ⟨rfl, h⟩ := h
    rw [beqV0_ok h]
  · exact beqV0_ok h
section
variable (ρ : Nat → Nat)
def sameCe : Ce → Ce → Bool
  | .v x, .v y => beqV x y
  | .loc l o, .loc l' o' => Nat.beq (ρ l) l' && Nat.beq o o'
  | .locs l o n c, .locs l' o' n' c' => Nat.beq (ρ l) l' && Nat.beq o o' && Nat.beq n n' && Nat.beq c c'
  | .ifl t l o, .ifl t' l' o' => Nat.beq t t' && Nat.beq (ρ l) l' && Nat.beq o o'
  | .gro l o n e, .gro l' o' n' e' => Nat.beq (ρ l) l' && Nat.beq (ρ (l + 1)) (l' + 1) && Nat.beq o o' && Nat.beq n n' && Nat.beq e e'
  | .tl l o k z e, .tl l' o' k' z' e' => Nat.beq (ρ l) l' && Nat.beq (ρ (l + 1)) (l' + 1) && Nat.beq o o' && Nat.beq k k' && Nat.beq z z' && Nat.beq e e'
  | _, _ => false
theorem sameCe_ok {x y : Ce} (h : sameCe ρ x y = true) (β : Nat → Nat) : x.den (fun l => β (ρ l)) = y.den β := by
  unfold sameCe at h
  split at h <;> try (cases h; done)
  · rw [beqV_ok h]; rfl
  · simp only [Bool.and_eq_true, Nat.beq_eq] at h
    obtain ⟨h, rfl⟩ := h
    simp [Ce.den, h]
  · simp only [Bool.and_eq_true, Nat.beq_eq] at h
    obtain ⟨⟨⟨h, rfl⟩, rfl⟩, rfl⟩ := h
    simp [Ce.den, h]
  · simp only [Bool.and_eq_true, Nat.beq_eq] at h
    obtain ⟨⟨rfl, h⟩, rfl⟩ := h
    simp [Ce.den, h]
  · simp only [Bool.and_eq_true, Nat.beq_eq] at h
    obtain ⟨⟨⟨⟨h, h'⟩, rfl⟩, rfl⟩, rfl⟩ := h
    simp [Ce.den, h, h']
  · simp only [Bool.and_eq_true, Nat.beq_eq] at h
    obtain ⟨⟨⟨⟨⟨h, h'⟩, rfl⟩, rfl⟩, rfl⟩, rfl⟩ := h
    simp [Ce.den, h, h']
def sameCes : List Ce → List Ce → Bool
  | [], [] => true
  | x :: r, y :: s => sameCe ρ x y && sameCes r s
  | _, _ => false
theorem sameCes_ok (β : Nat → Nat) : ∀ {xs ys : List Ce}, sameCes ρ xs ys = true → xs.map (Ce.den fun l => β (ρ l)) = ys.map (Ce.den β)
  | [], [], _ => rfl
  | x :: r, y :: s, h => by
    simp only [sameCes, Bool.and_eq_true] at h
    simp only [List.map_cons]
    rw [sameCe_ok ρ h.1 β, sameCes_ok β h.2]
  | [], _ :: _, h => by cases h
  | _ :: _, [], h => by cases h
def sameTs : List (Bool × List Ce) → List (Bool × List Ce) → Bool
  | [], [] => true
  | (b, x) :: r, (c, y) :: s => beqB b c && sameCes ρ x y && sameTs r s
  | _, _ => false
theorem sameTp_ok (β : Nat → Nat) {b : Bool} {x y : List Ce} (h : sameCes ρ x y = true) : tpDen (fun l => β (ρ l)) (b, x) = tpDen β (b, y) := by
  have hm := sameCes_ok ρ β h
  cases b with
  | true => simp only [tpDen, hm]
  | false =>
    rcases x with _ | ⟨x, _ | ⟨x2, xs⟩⟩ <;> rcases y with _ | ⟨y, _ | ⟨y2, ys⟩⟩ <;> first
      | rfl
      | (simp at hm; done)
      | (simp only [List.map_cons, List.map_nil, List.cons.injEq, and_true] at hm; exact hm)
theorem sameTs_ok (β : Nat → Nat) : ∀ {xs ys : List (Bool × List Ce)}, sameTs ρ xs ys = true → xs.map (tpDen fun l => β (ρ l)) = ys.map (tpDen β)
  | [], [], _ => rfl
  | (b, x) :: r, (c, y) :: s, h => by
    simp only [sameTs, Bool.and_eq_true] at h
    obtain rfl := beqB_ok h.1.1
    simp only [List.map_cons]
    rw [sameTp_ok ρ β h.1.2, sameTs_ok β h.2]
  | [], _ :: _, h => by cases h
  | _ :: _, [], h => by cases h
def sameSV : SV → SV → Bool
  | .c x, .c y => sameCe ρ x y
  | .agg x, .agg y => sameCes ρ x y
  | .tup [], .tup [] => true
  | .kb b, .kb c => beqB b c
  | .tps x, .tps y => sameTs ρ x y
  | _, _ => false
theorem sameSV_ok {x y : SV} (h : sameSV ρ x y = true) (β : Nat → Nat) : x.den (fun l => β (ρ l)) = y.den β := by
  unfold sameSV at h
  split at h <;> try (cases h; done)
  · exact sameCe_ok ρ h β
  · simp only [SV.den]; rw [sameCes_ok ρ β h]
  · rfl
  · rw [beqB_ok h]; rfl
  · simp only [SV.den]; rw [sameTs_ok ρ β h]
def sameE : Env → Env → Bool
  | [], _ => true
  | (t, x) :: r, e => match look e t with
    | some y => sameSV ρ x y && sameE r e
    | none => false
theorem sameE_ok (β : Nat → Nat) {e : Env} : ∀ {r : Env}, sameE ρ r e = true → ∀ t x, look r t = some x → ∃ y, look e t = some y ∧ x.den (fun l => β (ρ l)) = y.den β
  | [], _, t, x, h => by cases h
  | (u, v) :: r, h, t, x, hx => by
    simp only [sameE] at h
    split at h <;> try (cases h; done)
    rename_i y hy
    simp only [Bool.and_eq_true] at h
    simp only [look_cons] at hx
    split at hx
    · rename_i e1
      subst e1
      cases hx
      exact ⟨y, hy, sameSV_ok ρ h.1 β⟩
    · exact sameE_ok β h.2 t x hx
def takeM : Mem → Nat → Option ((Nat × List Ce) × Mem)
  | [], _ => none
  | (l, x) :: r, k => match Nat.beq l k with
    | true => some (x, r)
    | false => match takeM r k with
      | some (y, r') => some (y, (l, x) :: r')
      | none => none
theorem takeM_perm {k : Nat} : ∀ {m m' : Mem} {x : Nat × List Ce}, takeM m k = some (x, m') → m.Perm ((k, x) :: m')
  | [], _, _, h => by cases h
  | (l, x) :: r, m', y, h => by
    simp only [takeM] at h
    split at h
    · rename_i e
      cases h
      rw [Nat.beq_eq] at e
      subst e
      exact .refl _
    · split at h <;> cases h
      rename_i y r' hr
      exact ((takeM_perm hr).cons (l, x)).trans (.swap _ _ _)
def sameM : Mem → Mem → Bool
  | [], _ => true
  | (l, t, cs) :: r, m => match takeM m (ρ l) with
    | some ((t', cs'), m') => Nat.beq t t' && sameCes ρ cs cs' && sameM r m'
    | none => false
theorem sameM_ok (β : Nat → Nat) {w : World} {X : List SP} : ∀ {r m : Mem} {Y : List SP}, sameM ρ r m = true → SatW (memSP β m ++ (Y ++ X)) w → SatW (Y ++ (memSP (fun l => β (ρ l)) r ++ X)) w
  | [], m, Y, _, h => by
    have := h.app_right
    simpa [memSP] using this
  | (l, t, cs) :: r, m, Y, h, hs => by
    simp only [sameM] at h
    split at h <;> try (cases h; done)
    rename_i t' cs' m' hm
    simp only [Bool.and_eq_true, Nat.beq_eq] at h
    obtain ⟨⟨rfl, h1⟩, h2⟩ := h
    have e : cellsOf β cs' = cellsOf (fun l => β (ρ l)) cs := by
      unfold cellsOf
      rw [sameCes_ok ρ β h1]
    have hp : (memSP β m).Perm (memSP β ((ρ l, t, cs') :: m')) := (takeM_perm hm).map _
    have h3 : SatW (blk (β (ρ l)) (.cells (cellsOf (fun l => β (ρ l)) cs) t (0, 0)) :: (memSP β m' ++ (Y ++ X))) w := by
      have := hs.perm (hp.append_right (Y ++ X))
      simpa [memSP, e] using this
    have h4 : SatW (memSP β m' ++ ((Y ++ [blk (β (ρ l)) (.cells (cellsOf (fun l => β (ρ l)) cs) t (0, 0))]) ++ X)) w := by
      refine h3.perm ?_
      rw [List.append_assoc]
      simpa using (List.perm_middle (a := blk (β (ρ l)) (.cells (cellsOf (fun l => β (ρ l)) cs) t (0, 0))) (l₁ := memSP β m' ++ Y) (l₂ := X)).symm
    have h5 := sameM_ok β h2 h4
    simpa [memSP] using h5
def takeG : GMem → Nat → Option ((Nat × Nat × Nat × List Ce) × GMem)
  | [], _ => none
  | (l, x) :: r, k => match Nat.beq l k with
    | true => some (x, r)
    | false => match takeG r k with
      | some (y, r') => some (y, (l, x) :: r')
      | none => none
theorem takeG_perm {k : Nat} : ∀ {m m' : GMem} {x : Nat × Nat × Nat × List Ce}, takeG m k = some (x, m') → m.Perm ((k, x) :: m')
  | [], _, _, h => by cases h
  | (l, x) :: r, m', y, h => by
    simp only [takeG] at h
    split at h
    · rename_i e
      cases h
      rw [Nat.beq_eq] at e
      subst e
      exact .refl _
    · split at h <;> cases h
      rename_i y r' hr
      exact ((takeG_perm hr).cons (l, x)).trans (.swap _ _ _)
def sameG : GMem → GMem → Bool
  | [], _ => true
  | (l, e, n, sz, cs) :: r, m => match takeG m (ρ l) with
    | some ((e', n', sz', cs'), m') => Nat.beq (ρ (l + 1)) (ρ l + 1) && Nat.beq e e' && Nat.beq n n' && Nat.beq sz sz' && sameCes ρ cs cs' && sameG r m'
    | none => false
theorem sameG_ok (β : Nat → Nat) {w : World} {X : List SP} : ∀ {r m : GMem} {Y : List SP}, sameG ρ r m = true → SatW (gmSP β m ++ (Y ++ X)) w → SatW (Y ++ (gmSP (fun l => β (ρ l)) r ++ X)) w
  | [], m, Y, _, h => by
    have := h.app_right
    simpa [gmSP] using this
  | (l, e, n, sz, cs) :: r, m, Y, h, hs => by
    simp only [sameG] at h
    split at h <;> try (cases h; done)
    rename_i e' n' sz' cs' m' hm
    simp only [Bool.and_eq_true, Nat.beq_eq] at h
    obtain ⟨⟨⟨⟨⟨h0, rfl⟩, rfl⟩, rfl⟩, h1⟩, h2⟩ := h
    have ee : grSP (fun l => β (ρ l)) (l, e, n, sz, cs) = grSP β (ρ l, e, n, sz, cs') := by
      simp only [grSP, h0]
      rw [sameCes_ok ρ β h1]
    have hp : (gmSP β m).Perm (gmSP β ((ρ l, e, n, sz, cs') :: m')) := (takeG_perm hm).map _
    have h3 : SatW (grSP (fun l => β (ρ l)) (l, e, n, sz, cs) :: (gmSP β m' ++ (Y ++ X))) w := by
      have := hs.perm (hp.append_right (Y ++ X))
      rw [ee]
      simpa [gmSP] using this
    have h4 : SatW (gmSP β m' ++ ((Y ++ [grSP (fun l => β (ρ l)) (l, e, n, sz, cs)]) ++ X)) w := by
      refine h3.perm ?_
      rw [List.append_assoc]
      simpa using (List.perm_middle (a := grSP (fun l => β (ρ l)) (l, e, n, sz, cs)) (l₁ := gmSP β m' ++ Y) (l₂ := X)).symm
    have h5 := sameG_ok β h2 h4
    simpa [gmSP] using h5
end
/-- Which labels an operation bore: the operation, from, to. -/
abbrev Marks := List (Nat × Nat × Nat)
def markAt : Marks → Nat → Nat
  | [], _ => 0
  | (i, a, _) :: r, k => match Nat.beq i k with
    | true => a
    | false => markAt r k
def renM : Marks → Marks → Nat → Nat
  | [], _, l => l
  | (i, a, b) :: r, m2, l => match Nat.ble a l with
    | true => match Nat.blt l b with
      | true => markAt m2 i + (l - a)
      | false => renM r m2 l
    | false => renM r m2 l
/-- A label's other name: those below n keep theirs. -/
def ren (n : Nat) (m1 m2 : Marks) (l : Nat) : Nat :=
  match Nat.blt l n with
  | true => l
  | false => renM m1 m2 l
def sameS (ρ : Nat → Nat) (r q : GS) : Bool := sameE ρ r.env q.env && sameM ρ r.mem q.mem && sameG ρ r.gm q.gm
theorem sameS_ok {g : Cx} {β : Nat → Nat} {r q : GS} {L : Res} {a : Act} {w : World} {n : Nat} {m1 m2 : Marks} (h : sameS (ren n m1 m2) r q = true) (hr : RelG g β q L a w) :
    RelG g (fun l => β (ren n m1 m2 l)) r L a w ∧ agree n β (fun l => β (ren n m1 m2 l)) := by
  simp only [sameS, Bool.and_eq_true] at h
  refine ⟨RelG.mk' hr.defers hr.size (fun t x hx => ?_) hr.os hr.tape hr.output ?_, fun l hl => ?_⟩
  · obtain ⟨y, hy, e⟩ := sameE_ok _ β h.1.1 t x hx
    rw [e]
    exact hr.env t y hy
  · have h1 := hr.sat'
    have h2 := sameM_ok _ β (Y := gmSP β q.gm) h.1.2 h1
    exact sameG_ok _ β (Y := memSP _ r.mem) h.2 h2
  · have : Nat.blt l n = true := by simpa [Nat.blt_eq] using hl
    simp only [ren, this]
end Go.Proofs.YtccmdlmlbkpjjaaGreatDoor

/- The evaluator: package-level variables that stay as they are. -/
namespace Go.Proofs.YtccmdlmlbkpjjaaGreatDoor
open Go.RowKit

/-- A block has these cells, from its first one on. -/
def blkAt (m : PH) (b : Nat) (ys : List Value) : Prop := ∃ cs t fr, m b = some (.cells cs t fr) ∧ ∀ j, j < ys.length → cs[j]? = ys[j]?
theorem blkAt.mono {m m' : PH} {b : Nat} {ys : List Value} (h : blkAt m b ys) (hm : m.le m') : blkAt m' b ys := (let ⟨cs, t, fr, h1, h2⟩ := h; ⟨cs, t, fr, hm _ _ h1, h2⟩)
/-- Block, cells. -/
abbrev Gl := List (Nat × List Value)
def GlobW (gl : Gl) (w : World) : Prop := ∀ e ∈ gl, blkAt (hw w) e.1 e.2
/-- Whatever else holds, the variables are there, and what stays (pre) may be had once more. -/
def Glob (gl : Gl) (pre : List SP) (F : List SP) : Prop := ∀ X w, SatW (X ++ F) w → GlobW gl w ∧ SatW (pre ++ (X ++ F)) w
theorem Glob.app {gl : Gl} {pre F L : List SP} (h : Glob gl pre F) : Glob gl pre (L ++ F) := fun X w hs => (by
  have := h (X ++ L) w (by rw [List.append_assoc]; exact hs)
  rw [List.append_assoc] at this
  exact this)
theorem Glob.nil (F : List SP) : Glob [] [] F := fun _ _ h => ⟨fun _ he => (by cases he), h⟩
def lookGl : Gl → Nat → Option (List Value)
  | [], _ => none
  | (b, cs) :: r, k => match Nat.beq b k with
    | true => some cs
    | false => lookGl r k
theorem lookGl_mem : ∀ {gl : Gl} {k : Nat} {cs : List Value}, lookGl gl k = some cs → (k, cs) ∈ gl
  | [], _, _, h => by cases h
  | (b, c) :: r, k, cs, h => by
    simp only [lookGl] at h
    split at h
    · rename_i e
      cases h
      rw [Nat.beq_eq] at e
      subst e
      exact List.mem_cons_self
    · exact List.mem_cons_of_mem _ (lookGl_mem h)
/-- A load from such a variable: what it comes to, of one cell. -/
def globX (gl : Gl) (P : Program) (env : Env) (op : Op) : Option Value :=
  match op with
  | .load t x => match ev env x with
    | some (.c (.v (.pointer (some ⟨b, off, none⟩)))) => match lookGl gl b with
      | some cs => match aggOf P t with
        | .one => getL cs off
        | _ => none
      | none => none
    | _ => none
  | _ => none
theorem globX_ok {gl : Gl} {g : Cx} {β : Nat → Nat} {s : GS} {L : Res} {a : Act} {w w' : World} {o : Oper} {v : Value} (h : RelG g β s L a w) (hw : GlobW gl w') (hx : globX gl g.P s.env o.op = some v) : (execOp a.eval o).run g.P w' = .ok (.value v) w' := by
  unfold globX at hx
  split at hx <;> try (cases hx; done)
  rename_i t x hop
  split at hx <;> try (cases hx; done)
  rename_i b off he0
  split at hx <;> try (cases hx; done)
  rename_i cs hl
  split at hx <;> try (cases hx; done)
  rename_i ha
  have he : a.eval x = .pointer (some ⟨b, off, none⟩) := h.ev he0
  obtain ⟨cs', t', fr', hb, hj⟩ := hw _ (lookGl_mem hl)
  rw [getL_eq] at hx
  have hlt : off < cs.length := (List.getElem?_eq_some_iff.1 hx).1
  have hcell : w'.cell? ⟨b, off, none⟩ = some v := by
    have hb' : w'.heap[b]? = some (.cells cs' t' fr') := hb
    unfold World.cell?
    simp only
    rw [hb']
    simp only [if_true]
    rw [hj off hlt]
    exact hx
  simp [execOp, hop, he, Instr.loadAt, Instr.sureAddr, loadVar, aggOf_one ha, hcell]
end Go.Proofs.YtccmdlmlbkpjjaaGreatDoor

/- The evaluator 'gx' of code, calls and all. -/
namespace Go.Proofs.YtccmdlmlbkpjjaaGreatDoor
open Go.RowKit

theorem effX_step {g : Cx} {β : Nat → Nat} {s s' : GS} {L : Res} {a : Act} {w : World} {o : Oper} (hr : RelG g β s L a w) (hb : Bd s) (h : effX g.P g.n s o = some s') : StepEx g β s s' L a w o := by
  unfold effX at h
  split at h <;> try (cases h; done)
  rename_i hd
  split at h <;> try (cases h; done)
  · -- pick
    rename_i c x y hop
    split at h <;> try (cases h; done)
    rename_i b hc
    have ecb : a.eval c = .bool b := nrm_evn hr hc
    split at h <;> try (cases h; done)
    rename_i u hu
    split at h <;> cases h
    rename_i env hp
    have eu := hr.ev hu
    refine ⟨β, a.put o.dst (u.den β), w, agree.refl _ _, hr.putE hd hp, fun N Q hn => wp_value ?_ hn⟩
    cases b <;> simp only at eu <;> simp [execOp, hop, ecb, asBool, eu]
  · -- alloc
    rename_i t hop
    split at h <;> try (cases h; done)
    rename_i cs hz
    obtain ⟨z, hzr, hzc⟩ := zeroS_den hz w
    exact newL_step (v := .pointer (some ⟨w.heap.size, 0, none⟩)) hr hb hd (zeroS_lt hz) h (by simp [execOp, hop, Instr.alloc, hzr, newVar, newRow, hzc β]) (by simp [SV.den, Ce.den, upd_self])
  · -- box
    rename_i t x hop
    split at h <;> try (cases h; done)
    rename_i u hu
    split at h <;> try (cases h; done)
    rename_i cs hcs
    refine newL_step (v := .pointer (some ⟨w.heap.size, 0, none⟩)) hr hb hd (cellsS_lt (ev_lt hb.env hu) hcs) h ?_ (by simp [SV.den, Ce.den, upd_self])
    simp only [execOp, hop, hr.ev hu, Instr.box, newVar, newRow, cellsS_den hcs β, Sem.run_bind, run_newObj, Sem.run_pure, Result.andThen_ok, World.alloc_eq]
  · -- buildSlice
    rename_i t m ps hop
    split at h <;> try (cases h; done)
    rename_i e hu
    split at h <;> try (cases h; done)
    rename_i cs hcs
    have := rowS_ok hr hu hcs
    exact newL_step (v := .slice (some ⟨w.heap.size, 0, none⟩) m m) hr hb hd (rowS_lt hb.env hcs) h (by simp [execOp, hop, this]) (by simp [SV.den, Ce.den, upd_self])
  · -- makeSlice
    rename_i t l c hop
    split at h <;> try (cases h; done)
    rename_i e hu
    split at h <;> try (cases h; done)
    rename_i kl ln hl
    split at h <;> try (cases h; done)
    rename_i kc cn hc
    split at h <;> try (cases h; done)
    rename_i i hi
    split at h <;> try (cases h; done)
    rename_i zv hzv
    split at h <;> try (cases h; done)
    rename_i z hz
    split at h <;> try (cases h; done)
    rename_i h1
    split at h <;> try (cases h; done)
    rename_i h2
    split at h <;> try (cases h; done)
    rename_i h3
    split at h <;> try (cases h; done)
    rename_i h4
    split at h <;> try (cases h; done)
    rename_i h5
    split at h <;> try (cases h; done)
    rename_i cs hr'
    rw [repS_eq] at hr'
    cases hr'
    have e1 : z.length = i.size := by simpa using h1
    have e2 : 0 < i.size := by simpa [Nat.blt_eq] using h2
    have e3 : ln ≤ cn := by simpa using h3
    have e4 : i.bytes * cn ≤ 281474976710656 := by simpa using h4
    have e5 : cn ≤ 9223372036854775807 := by simpa using h5
    have el : a.eval l = .int kl (Int.ofNat ln) := nrm_evn hr hl
    have ec : a.eval c = .int kc (Int.ofNat cn) := nrm_evn hr hc
    obtain ⟨z2, hzr, hzc⟩ := zeroS_den hz w
    have hz2 : z2 = zv := by
      have : (zeroValue e).run g.P w = .ok zv w := by simp [zeroValue, typeInfo, hi, hzv]
      rw [this] at hzr
      cases hzr
      rfl
    subst hz2
    have hrun := run_makeSlice' (P := g.P) (w := w) hu hi hzv kl kc ln cn e3 e4 e5
    have hm : madeCells z2.cells (cn * i.size) = cellsOf β (List.replicate cn z).flatten := made_eq (P := g.P) (e := e) (hzc β) e1 e2
    rw [hm] at hrun
    refine newL_step (v := .slice (some ⟨w.heap.size, 0, none⟩) ln cn) hr hb hd (fun x hx => ?_) h ?_ (by simp [SV.den, Ce.den, upd_self])
    · obtain ⟨l', hl', hx2⟩ := List.mem_flatten.1 hx
      obtain rfl := List.eq_of_mem_replicate hl'
      exact zeroS_lt hz x hx2
    · simp only [execOp, hop, el, ec, Sem.run_bind, hrun, Result.andThen_ok, Sem.run_pure]
  · -- store
    rename_i t x y hop
    split at h <;> try (cases h; done)
    rename_i l off hx
    split at h <;> try (cases h; done)
    rename_i u hu
    split at h <;> try (cases h; done)
    rename_i ys hys
    split at h <;> try (cases h; done)
    rename_i i hi
    split at h <;> try (cases h; done)
    rename_i hsz
    split at h <;> try (cases h; done)
    rename_i hpl
    have ex : a.eval x = .pointer (some ⟨β l, off, none⟩) := hr.ev hx
    have ey := hr.ev hu
    split at h
    · rename_i tt cs hl
      split at h <;> try (cases h; done)
      rename_i hfit
      split at h <;> try (cases h; done)
      rename_i zs hz
      split at h <;> try (cases h; done)
      rename_i mem' hm
      split at h <;> cases h
      rename_i env hp
      rw [setMo_eq] at hm
      cases hm
      obtain ⟨w', hrun, hR⟩ := store_ok hr hl (cellsS_den hys β) hi (by simpa using hsz) (by simpa using hfit) hpl hz
      refine ⟨β, a.put o.dst undef, w', agree.refl _ _, ?_, fun N Q hn => wp_skip' (w' := w') ?_ hn⟩
      · exact Rel.putO (x := .c (.v undef)) hR hd hp
      · simp only [execOp, hop, ex, ey, Sem.run_bind, hrun, Result.andThen_ok, Sem.run_pure]
    · split at h <;> try (cases h; done)
      rename_i e nn sz cs hl
      split at h <;> try (cases h; done)
      rename_i hfit
      split at h <;> try (cases h; done)
      rename_i zs hz
      split at h <;> try (cases h; done)
      rename_i gm' hm
      split at h <;> cases h
      rename_i env hp
      obtain ⟨w', hrun, hR⟩ := gr_store hr hl (cellsS_den hys β) hi (by simpa using hsz) (by simpa using hfit) hpl hz hm
      refine ⟨β, a.put o.dst undef, w', agree.refl _ _, ?_, fun N Q hn => wp_skip' (w' := w') ?_ hn⟩
      · exact Rel.putO (x := .c (.v undef)) hR hd hp
      · simp only [execOp, hop, ex, ey, Sem.run_bind, hrun, Result.andThen_ok, Sem.run_pure]
  · -- append
    rename_i args ts hop
    split at h <;> try (cases h; done)
    rename_i x y hargs
    split at h <;> try (cases h; done)
    rename_i t t' hts
    split at h <;> try (cases h; done)
    rename_i ht
    obtain rfl : t = t' := Nat.eq_of_beq_eq_true ht
    split at h <;> try (cases h; done)
    rename_i u hu
    split at h <;> try (cases h; done)
    rename_i v hv
    have ea : args = #[x, y] := by apply Array.ext'; simpa using hargs
    have et : ts = #[t, t] := by apply Array.ext'; simpa using hts
    subst ea
    subst et
    exact appE_step hr hb hd hop hu hv h

/-! ### Code -/
inductive GC where
  | run (k : List Item)
  | ops (all : Array Oper) (rest : List Oper) (k : List Item)
  /-- A region whose order is drawn: what is listed; what was there as it began; is that so still? -/
  | dr (all : Array Oper) (listed : Array Bool) (m0 : Mem) (g0 : GMem) (n0 : Nat) (hold : Bool)
  /-- .. these may come next. -/
  | al (cands : List Nat) (all : Array Oper) (listed : Array Bool) (m0 : Mem) (g0 : GMem) (n0 : Nat) (hold : Bool)
  /-- One operation of it that acts. -/
  | ef (all : Array Oper) (i : Nat)
structure GR where
  s : GS
  v : SV
  plan : PT
  marks : Marks
def mkP : Bool → Nat → PT → PT
  | false, i, r => .pure i r
  | true, i, r => .held i r

/-- Arguments as slots. -/
def argG : Nat → List SV → Env
  | _, [] => []
  | k, v :: r => (k, v) :: argG (k + 1) r
def evs (env : Env) : List Operand → Option (List SV)
  | [] => some []
  | x :: r => match nrm (ev env x) with
    | some s => match evs env r with
      | some t => some (s :: t)
      | none => none
    | none => none
def ofVs : List Value → List SV
  | [] => []
  | v :: r => ofV v :: ofVs r
def appV {α : Type} : List α → List α → Option (List α)
  | [], r => some r
  | x :: z, r => match appV z r with
    | some q => some (x :: q)
    | none => none
/-- Which function is called, with which arguments. -/
def calleeG (P : Program) (env : Env) (o : Oper) : Option (Nat × List SV) :=
  match o.op with
  | .call ⟨.value x, ars, _⟩ => match ev env x with
    | some (.c (.v (.func (.func f) first cap))) => match evs env ars.toList with
      | some vs => match appV vs (ofVs cap.toList) with
        | some ws => match appV (ofVs first.toList) ws with
          | some us => some (f, us)
          | none => none
        | none => none
      | none => none
    | _ => none
  | .call ⟨.invoke r name, ars, _⟩ => match ev env r with
    | some u => match (match u with
        | .c (.ifl t l o) => some (t, SV.c (.loc l o))
        | .c (.v (.iface t v)) => some (t, ofV v)
        | _ => none) with
      | some (t, rv) => match P.info? t with
        | some i => match i.methods.find? (·.name == name) with
          | some m => match m.path.toList with
            | [] => match m.func with
              | some (f, ptr) => match P.underlying t, ptr with
                | some (.pointer _), true => match evs env ars.toList with
                  | some vs => some (f, rv :: vs)
                  | none => none
                | some (.pointer _), false => none
                | some _, false => match evs env ars.toList with
                  | some vs => some (f, rv :: vs)
                  | none => none
                | _, _ => none
              | none => none
            | _ :: _ => none
          | none => none
        | none => none
      | none => none
    | none => none
  | _ => none
/-- Results as one value. -/
def retG (P : Program) (env : Env) (mem : Mem) : List ResultVar → Option (List SV)
  | [] => some []
  | .tmp t :: r => match look env t with
    | some s => match retG P env mem r with
      | some ss => some (s :: ss)
      | none => none
    | none => none
  | .cell x t :: r => match look env x with
    | some (.c (.loc l o)) => match lookM mem l with
      | some (_, cs) => match aggOf P t with
        | .one => match getL cs o with
          | some y => match retG P env mem r with
            | some ss => some (.c y :: ss)
            | none => none
          | none => none
        | .many n => match cutL cs o n with
          | some ys => match retG P env mem r with
            | some ss => some (.agg ys :: ss)
            | none => none
          | none => none
        | .no => none
      | none => none
    | _ => none
def tupG : List SV → Option (List (Bool × List Ce))
  | [] => some []
  | s :: r => match tOf s with
    | some p => match tupG r with
      | some ps => some (p :: ps)
      | none => none
    | none => none
def oneG : List SV → Option SV
  | [s] => some s
  | ss => match tupG ss with
    | some ps => some (.tps ps)
    | none => none

/-- Is it wanted? What is decided counts, in either form. -/
def guardG (ops : List Oper) (env : Env) (o : Oper) : Gd :=
  match o.guard with
  | none => .yes
  | some (j, want) => match getL ops j with
    | some oj => match oj.dst with
      | some d => match look env d with
        | some (.kb true) => match want with
          | true => .yes
          | false => .no
        | some (.kb false) => match want with
          | true => .no
          | false => .yes
        | some (.c (.v (.bool true))) => match want with
          | true => .yes
          | false => .no
        | some (.c (.v (.bool false))) => match want with
          | true => .no
          | false => .yes
        | some (.c (.v (.tuple _))) => .no
        | _ => .st
      | none => .st
    | none => .st
theorem guardG_yes {g : Cx} {env : Env} {mem : Mem} {β : Nat → Nat} {bnd : Bnd} {L : Res} {a : Act} {w : World} (hr : Rel g β env mem bnd L a w) {ops : Array Oper} {o : Oper} (h : guardG ops.toList env o = .yes) : Region.wanted o (yielded ops a.tmps) = true := by
  unfold guardG at h
  split at h
  · rename_i hg; simp [Region.wanted, hg]
  · rename_i j want hg
    split at h <;> try (cases h; done)
    rename_i oj hj
    split at h <;> try (cases h; done)
    rename_i d hd
    split at h <;> try (cases h; done)
    all_goals
      rename_i hl
      have hy := yielded_of hr hj hd hl
      split at h <;> first | (cases h; done) | simp [Region.wanted, hg, hy, SV.den, Ce.den]
theorem guardG_no {g : Cx} {env : Env} {mem : Mem} {β : Nat → Nat} {bnd : Bnd} {L : Res} {a : Act} {w : World} (hr : Rel g β env mem bnd L a w) {ops : Array Oper} {o : Oper} (h : guardG ops.toList env o = .no) : Region.wanted o (yielded ops a.tmps) = false := by
  unfold guardG at h
  split at h
  · cases h
  · rename_i j want hg
    split at h <;> try (cases h; done)
    rename_i oj hj
    split at h <;> try (cases h; done)
    rename_i d hd
    split at h <;> try (cases h; done)
    · rename_i hl
      have hy := yielded_of hr hj hd hl
      split at h <;> first | (cases h; done) | simp [Region.wanted, hg, hy, SV.den, Ce.den]
    · rename_i hl
      have hy := yielded_of hr hj hd hl
      split at h <;> first | (cases h; done) | simp [Region.wanted, hg, hy, SV.den, Ce.den]
    · rename_i hl
      have hy := yielded_of hr hj hd hl
      split at h <;> first | (cases h; done) | simp [Region.wanted, hg, hy, SV.den, Ce.den]
    · rename_i hl
      have hy := yielded_of hr hj hd hl
      split at h <;> first | (cases h; done) | simp [Region.wanted, hg, hy, SV.den, Ce.den]
    · rename_i hl
      have hy := yielded_of hr hj hd hl
      simp [Region.wanted, hg, hy, SV.den, Ce.den]

/-- The value that it comes to. -/
def outV (o : Out) : Option SV :=
  match o with
  | .val x => some x
  | .cells cs => some (.agg cs)
  | .ar k m => some (.c (.v (.int k (k.wrap m))))
  | .no => none
/-- The first of those ready that only looks: with the state behind it, and how it is met. -/
def lookR (gl : Gl) (P : Program) (n : Nat) (all : Array Oper) (env : Env) (m0 : Mem) (g0 : GMem) (hold : Bool) : List Nat → Option (Bool × Env × Nat)
  | [] => none
  | i :: r => match getL all.toList i with
    | some o => match dstOk n o.dst with
      | true => match guardG all.toList env o with
        | .no => match putO o.dst (.c (.v undef)) env with
          | some env' => some (false, env', i)
          | none => none
        | .br _ _ => none
        | .st => none
        | .yes => match outV (pureX P env [] [] o.op) with
          | some x => match putO o.dst x env with
            | some env' => some (false, env', i)
            | none => none
          | none => match hold with
            | false => lookR gl P n all env m0 g0 hold r
            | true => match outV (pureX P env m0 g0 o.op) with
              | some x => match putO o.dst x env with
                | some env' => some (true, env', i)
                | none => none
              | none => match globX gl P env o.op with
                | some v => match putO o.dst (ofV v) env with
                  | some env' => some (true, env', i)
                  | none => none
                | none => lookR gl P n all env m0 g0 hold r
      | false => none
    | none => none

def memN : Nat → List Nat → Bool
  | _, [] => false
  | k, l :: r => match Nat.beq k l with
    | true => true
    | false => memN k r
/-- Which blocks the loads of a region read, as far as that is known as it begins. -/
def shadow (P : Program) (all : List Oper) (mem : Mem) (gm : GMem) : List Oper → Env → List Nat → List Nat
  | [], _, acc => acc
  | o :: r, env, acc => match guardG all env o with
    | .no => match putO o.dst (.c (.v undef)) env with
      | some env' => shadow P all mem gm r env' acc
      | none => acc
    | .yes => match outV (pureX P env mem gm o.op) with
      | some x => match putO o.dst x env with
        | some env' => match o.op with
          | .load _ y => match ev env y with
            | some (.c (.loc l _)) => shadow P all mem gm r env' (l :: acc)
            | _ => shadow P all mem gm r env' acc
          | _ => shadow P all mem gm r env' acc
        | none => acc
      | none => match o.op with
        | .pick c x y => match nrm (ev env c) with
          | some (.c (.v (.bool b))) => match nrm (ev env (match b with | true => x | false => y)) with
            | some u => match putO o.dst u env with
              | some env' => shadow P all mem gm r env' acc
              | none => acc
            | none => shadow P all mem gm r env acc
          | _ => shadow P all mem gm r env acc
        | _ => shadow P all mem gm r env acc
    | _ => shadow P all mem gm r env acc
def keepM (ls : List Nat) : Mem → Mem
  | [] => []
  | (l, x) :: r => match memN l ls with
    | true => (l, x) :: keepM ls r
    | false => keepM ls r
def keepG (ls : List Nat) : GMem → GMem
  | [] => []
  | (l, x) :: r => match memN l ls with
    | true => (l, x) :: keepG ls r
    | false => keepG ls r
def heldOf (P : Program) (ops : Array Oper) (s : GS) : Mem × GMem :=
  match shadow P ops.toList s.mem s.gm ops.toList s.env [] with
  | ls => (keepM ls s.mem, keepG ls s.gm)
def heldIn (m0 : Mem) (g0 : GMem) (s : GS) : Bool := sameM (fun l => l) m0 s.mem && sameG (fun l => l) g0 s.gm
def keepIn (hold : Bool) (m0 : Mem) (g0 : GMem) (s : GS) : Bool :=
  match hold with
  | true => heldIn m0 g0 s
  | false => false
theorem keepM_mem {ls : List Nat} : ∀ {m : Mem}, ∀ e ∈ keepM ls m, e ∈ m
  | [], e, h => by cases h
  | (l, x) :: r, e, h => by
    simp only [keepM] at h
    split at h
    · rcases List.mem_cons.1 h with rfl | h
      · exact List.mem_cons_self
      · exact List.mem_cons_of_mem _ (keepM_mem e h)
    · exact List.mem_cons_of_mem _ (keepM_mem e h)
theorem keepG_mem {ls : List Nat} : ∀ {m : GMem}, ∀ e ∈ keepG ls m, e ∈ m
  | [], e, h => by cases h
  | (l, x) :: r, e, h => by
    simp only [keepG] at h
    split at h
    · rcases List.mem_cons.1 h with rfl | h
      · exact List.mem_cons_self
      · exact List.mem_cons_of_mem _ (keepG_mem e h)
    · exact List.mem_cons_of_mem _ (keepG_mem e h)
theorem heldOf_lt {P : Program} {ops : Array Oper} {s : GS} (h1 : ltM s.nl s.mem) (h2 : ltG s.nl s.gm) : ltM s.nl (heldOf P ops s).1 ∧ ltG s.nl (heldOf P ops s).2 :=
  ⟨fun e he => h1 e (keepM_mem e he), fun e he => h2 e (keepG_mem e he)⟩

/-- Cells that hold strings. -/
def strCe : List Ce → Option (List ByteArray)
  | [] => some []
  | .v (.string b) :: r => match strCe r with
    | some l => some (b :: l)
    | none => none
  | _ => none
/-- A slice, with elements of one cell each, in a state: its label, its place, its cells. -/
def slOf (s : GS) : SV → Option (Nat × Nat × List Ce)
  | .c (.locs l o n c) => match Nat.ble n c with
    | true => match lookM s.mem l with
      | some (_, cs) => match cutL cs o n with
        | some ys => some (l, o, ys)
        | none => none
      | none => none
    | false => none
  | .c (.gro l o n e) => match lookG s.gm l with
    | some (_, nt, _, cs) => match Nat.ble (n + e) nt with
      | true => match cutL cs o n with
        | some ys => some (l, o, ys)
        | none => none
      | false => none
    | none => none
  | _ => none
/-- strings.Join (its number: jn). -/
def joinX (jn : Nat) (s : GS) (f : Nat) (vs : List SV) : Option ByteArray :=
  match Nat.beq f jn with
  | true => match Nat.ble jn 999999 with
   | false => none
   | true => match vs with
    | [v, .c (.v (.string sep))] => match slOf s v with
      | some (_, _, ys) => match strCe ys with
        | some xs => match Nat.ble xs.length 140737488355328 with
          | true => match Nat.ble (Lib.join (xs.map (·.data.toList)) sep.data.toList).length 140737488355328 with
            | true => some ⟨(Lib.join (xs.map (·.data.toList)) sep.data.toList).toArray⟩
            | false => none
          | false => none
        | none => none
      | none => none
    | _ => none
  | false => none
/-- What is known of functions, and of package-level variables. -/
structure Kn where
  ex : Nat → List SV → Option SV
  gl : Gl
  pre : List SP
  jn : Nat
/-- So many steps. -/
def gx (P : Program) (kn : Kn) : Nat → Func → GS → GC → Option GR
  | 0, _, _, _ => none
  | m + 1, fn, s, .run k => match k with
    | .code .skip :: k => gx P kn m fn s (.run k)
    | .code (.label _) :: k => gx P kn m fn s (.run k)
    | .inBlock _ :: k => gx P kn m fn s (.run k)
    | .inScope _ :: k => gx P kn m fn s (.run k)
    | .code (.seq x y) :: k => gx P kn m fn s (.run (.code x :: .code y :: k))
    | .code (.block i x) :: k => gx P kn m fn s (.run (.code x :: .inBlock i :: k))
    | .code (.scope x) :: k => gx P kn m fn s (.run (.code x :: .inScope x :: k))
    | .code (.loop x) :: k => gx P kn m fn s (.run (.code x :: .inLoop x :: k))
    | .inLoop x :: k => gx P kn m fn s (.run (.code x :: .inLoop x :: k))
    | .code (.exit i) :: k => match exitTo i k with
      | some k' => gx P kn m fn s (.run k')
      | none => none
    | .code (.cond c x y) :: k => match nrm (ev s.env c) with
      | some (.c (.v (.bool true))) => gx P kn m fn s (.run (.code x :: k))
      | some (.c (.v (.bool false))) => gx P kn m fn s (.run (.code y :: k))
      | _ => none
    | .code (.region _ ops false) :: k => gx P kn m fn s (.ops ops ops.toList k)
    | .code (.region _ ops true) :: k => match gx P kn m fn s (.dr ops (Array.replicate ops.size false) (heldOf P ops s).1 (heldOf P ops s).2 s.nl (heldIn (heldOf P ops s).1 (heldOf P ops s).2 s)) with
      | some r => match planOkT ops (isLateT r.plan) r.plan false ops.size (Array.replicate ops.size false) with
        | true => match Region.noSelect ops with
          | true => gx P kn m fn r.s (.run k)
          | false => none
        | false => none
      | none => none
    | .code .ret :: _ => match retG P s.env s.mem fn.results.toList with
      | some vs => match oneG vs with
        | some v => some ⟨s, v, .nil, []⟩
        | none => none
      | none => none
    | [] => match retG P s.env s.mem fn.results.toList with
      | some vs => match oneG vs with
        | some v => some ⟨s, v, .nil, []⟩
        | none => none
      | none => none
    | _ => none
  | m + 1, fn, s, .ops all rest k => match rest with
    | [] => gx P kn m fn s (.run k)
    | o :: rest => match guardG all.toList s.env o with
      | .no => match dstOk fn.ntmps o.dst with
        | true => match putO o.dst (.c (.v undef)) s.env with
          | some env => gx P kn m fn { s with env := env } (.ops all rest k)
          | none => none
        | false => none
      | .yes => match outV (pureX P s.env s.mem s.gm o.op) with
        | some x => match dstOk fn.ntmps o.dst with
          | true => match putO o.dst x s.env with
            | some env => gx P kn m fn { s with env := env } (.ops all rest k)
            | none => none
          | false => none
        | none => match globX kn.gl P s.env o.op with
         | some v => match dstOk fn.ntmps o.dst with
          | true => match putO o.dst (ofV v) s.env with
            | some env => gx P kn m fn { s with env := env } (.ops all rest k)
            | none => none
          | false => none
         | none => match effX P fn.ntmps s o with
          | some s' => gx P kn m fn s' (.ops all rest k)
          | none => match calleeG P s.env o with
            | some (f, vs) => match dstOk fn.ntmps o.dst with
              | true => match kn.ex f vs with
                | some x => match putO o.dst x s.env with
                  | some env => gx P kn m fn { s with env := env } (.ops all rest k)
                  | none => none
                | none => match joinX kn.jn s f vs with
                 | some b => match putO o.dst (.c (.v (.string b))) s.env with
                  | some env => gx P kn m fn { s with env := env } (.ops all rest k)
                  | none => none
                 | none => match P.funcs[f]? with
                  | some fn' => match fn'.body with
                    | some c => match Nat.ble vs.length fn'.ntmps with
                      | true => match gx P kn m fn' ⟨argG 0 vs, s.mem, s.gm, s.nl, s.nl⟩ (.run [.code c]) with
                        | some r => match putO o.dst r.v s.env with
                          | some env => gx P kn m fn ⟨env, r.s.mem, r.s.gm, r.s.nl, minN s.low r.s.low⟩ (.ops all rest k)
                          | none => none
                        | none => none
                      | false => none
                    | none => none
                  | none => none
              | false => none
            | none => none
      | _ => none
  | m + 1, fn, s, .dr all listed m0 g0 n0 hold => match Region.ready .any all listed with
    | [] => some ⟨s, .kb true, .nil, []⟩
    | rd => match lookR kn.gl P fn.ntmps all s.env m0 g0 hold rd with
      | some (b, env, i) => match gx P kn m fn { s with env := env } (.dr all (listed.setIfInBounds i true) m0 g0 n0 hold) with
        | some r => some { r with plan := mkP b i r.plan }
        | none => none
      | none => gx P kn m fn s (.al rd all listed m0 g0 n0 hold)
  | m + 1, fn, s, .al cands all listed m0 g0 n0 hold => match cands with
    | [] => none
    | i :: cs => match gx P kn m fn { s with low := s.nl } (.ef all i) with
      | some e => match gx P kn m fn { e.s with low := minN s.low e.s.low } (.dr all (listed.setIfInBounds i true) m0 g0 n0 (keepIn hold m0 g0 e.s)) with
        | some r => match cs with
          | [] => some { r with plan := .alt i (keepIn hold m0 g0 e.s) r.plan .nil, marks := (i, s.nl, e.s.nl) :: r.marks }
          | _ :: _ => match gx P kn m fn s (.al cs all listed m0 g0 n0 hold) with
            | some q => match sameS (ren s.nl ((i, s.nl, e.s.nl) :: r.marks) q.marks) r.s q.s with
              | true => some { r with plan := .alt i (keepIn hold m0 g0 e.s) r.plan q.plan, marks := (i, s.nl, e.s.nl) :: r.marks }
              | false => none
            | none => none
        | none => none
      | none => none
  | m + 1, fn, s, .ef all i => match getL all.toList i with
    | some o => match guardG all.toList s.env o with
      | .yes => match effX P fn.ntmps s o with
        | some s' => some ⟨s', .kb true, .nil, []⟩
        | none => match calleeG P s.env o with
          | some (f, vs) => match dstOk fn.ntmps o.dst with
            | true => match P.funcs[f]? with
              | some fn' => match fn'.body with
                | some c => match Nat.ble vs.length fn'.ntmps with
                  | true => match gx P kn m fn' ⟨argG 0 vs, s.mem, s.gm, s.nl, s.nl⟩ (.run [.code c]) with
                    | some r => match putO o.dst r.v s.env with
                      | some env => some ⟨⟨env, r.s.mem, r.s.gm, r.s.nl, minN s.low r.s.low⟩, .kb true, .nil, []⟩
                      | none => none
                    | none => none
                  | false => none
                | none => none
              | none => none
            | false => none
          | none => none
      | _ => none
    | none => none
end Go.Proofs.YtccmdlmlbkpjjaaGreatDoor

/- The evaluator: it only adds to memory, or tells how deep it turned it. -/
namespace Go.Proofs.YtccmdlmlbkpjjaaGreatDoor
open Go.RowKit

/-- What is known of functions: without a body they give a value; with one there is a contract. -/
def ExOk (P : Program) (exA : Nat → List SV → Option SV) (pre : List SP) : Prop := ∀ f vs x, exA f vs = some x → (∀ n, x.lt n) ∧ ∀ β, ((∀ w, (callFunc f (vs.map (SV.den β)).toArray).run P w = .ok (.value (x.den β)) w) ∨ FnOk P f (vs.map (SV.den β)) pre fun v _ => v = x.den β)

theorem evs_lt {n : Nat} {env : Env} (h : ltE n env) : ∀ {xs : List Operand} {vs : List SV}, evs env xs = some vs → ∀ v ∈ vs, v.lt n
  | [], vs, hv => by simp only [evs, Option.some.injEq] at hv; subst hv; simp
  | x :: r, vs, hv => by
    simp only [evs] at hv
    split at hv <;> try (cases hv; done)
    rename_i s hs
    split at hv <;> cases hv
    rename_i t ht
    intro v hm
    rcases List.mem_cons.1 hm with rfl | hm
    · exact nrm_lt h hs
    · exact evs_lt h ht v hm
theorem ofV_lt (n : Nat) (v : Value) : (ofV v).lt n := by
  cases v <;> first | trivial | exact vs_lt _ _
theorem ofVs_eq : ∀ l : List Value, ofVs l = l.map ofV
  | [] => rfl
  | _ :: r => by simp [ofVs, ofVs_eq r]
theorem ofVs_lt (n : Nat) (l : List Value) : ∀ v ∈ ofVs l, v.lt n := by
  rw [ofVs_eq]
  intro v hv
  obtain ⟨x, _, rfl⟩ := List.mem_map.1 hv
  exact ofV_lt n x
theorem appV_eq {α : Type} : ∀ (z r : List α), appV z r = some (z ++ r)
  | [], r => rfl
  | x :: z, r => by simp [appV, appV_eq z r]
theorem calleeG_lt {P : Program} {n f : Nat} {env : Env} {o : Oper} {us : List SV} (h : ltE n env) (hc : calleeG P env o = some (f, us)) : ∀ v ∈ us, v.lt n := by
  unfold calleeG at hc
  split at hc <;> try (cases hc; done)
  · split at hc <;> try (cases hc; done)
    split at hc <;> try (cases hc; done)
    rename_i vs hvs
    rw [appV_eq] at hc
    simp only at hc
    rw [appV_eq] at hc
    simp only [Option.some.injEq, Prod.mk.injEq] at hc
    obtain ⟨_, rfl⟩ := hc
    intro v hv
    rcases List.mem_append.1 hv with hv | hv
    · exact ofVs_lt n _ v hv
    · rcases List.mem_append.1 hv with hv | hv
      · exact evs_lt h hvs v hv
      · exact ofVs_lt n _ v hv
  · split at hc <;> try (cases hc; done)
    rename_i u hu
    split at hc <;> try (cases hc; done)
    rename_i t rv hrv
    have hrl : rv.lt n := by
      split at hrv <;> cases hrv
      · exact (ev_lt (s := SV.c (.ifl _ _ _)) h hu : _ < n)
      · exact ofV_lt n _
    split at hc <;> try (cases hc; done)
    split at hc <;> try (cases hc; done)
    split at hc <;> try (cases hc; done)
    split at hc <;> try (cases hc; done)
    split at hc <;> try (cases hc; done)
    · split at hc <;> cases hc
      rename_i vs hvs _
      intro v hv
      rcases List.mem_cons.1 hv with rfl | hv
      · exact hrl
      · exact evs_lt h hvs v hv
    · split at hc <;> cases hc
      rename_i vs hvs _
      intro v hv
      rcases List.mem_cons.1 hv with rfl | hv
      · exact hrl
      · exact evs_lt h hvs v hv
theorem retG_lt {P : Program} {n : Nat} {env : Env} {mem : Mem} (h : ltE n env) (hm : ltM n mem) : ∀ {rs : List ResultVar} {vs : List SV}, retG P env mem rs = some vs → ∀ v ∈ vs, v.lt n
  | [], vs, hv => by simp only [retG, Option.some.injEq] at hv; subst hv; simp
  | .tmp t :: r, vs, hv => by
    simp only [retG] at hv
    split at hv <;> try (cases hv; done)
    rename_i s hs
    split at hv <;> cases hv
    rename_i ss hss
    intro v hv
    rcases List.mem_cons.1 hv with rfl | hv
    · exact h _ _ hs
    · exact retG_lt h hm hss v hv
  | .cell x t :: r, vs, hv => by
    simp only [retG] at hv
    split at hv <;> try (cases hv; done)
    split at hv <;> try (cases hv; done)
    rename_i hl
    split at hv <;> try (cases hv; done)
    · split at hv <;> try (cases hv; done)
      rename_i y hy
      split at hv <;> cases hv
      rename_i ss hss
      intro v hv
      rcases List.mem_cons.1 hv with rfl | hv
      · exact (hm _ (lookM_mem hl)).2 _ (getL_mem hy)
      · exact retG_lt h hm hss v hv
    · split at hv <;> try (cases hv; done)
      rename_i ys hy
      split at hv <;> cases hv
      rename_i ss hss
      intro v hv
      rcases List.mem_cons.1 hv with rfl | hv
      · exact fun x hx => (hm _ (lookM_mem hl)).2 _ (cutL_mem hy x hx)
      · exact retG_lt h hm hss v hv
theorem tupG_lt {n : Nat} : ∀ {ss : List SV} {ps : List (Bool × List Ce)}, (∀ v ∈ ss, v.lt n) → tupG ss = some ps → ∀ p ∈ ps, ∀ x ∈ p.2, x.lt n
  | [], ps, _, h => by simp only [tupG, Option.some.injEq] at h; subst h; simp
  | s :: r, ps, hl, h => by
    simp only [tupG] at h
    split at h <;> try (cases h; done)
    rename_i p hp
    split at h <;> cases h
    rename_i qs hq
    intro q hm
    rcases List.mem_cons.1 hm with rfl | hm
    · exact tOf_lt (hl s (by simp)) hp
    · exact tupG_lt (fun v hv => hl v (List.mem_cons_of_mem _ hv)) hq q hm
theorem oneG_lt {n : Nat} {ss : List SV} {v : SV} (hl : ∀ v ∈ ss, v.lt n) (h : oneG ss = some v) : v.lt n := by
  unfold oneG at h
  split at h
  · cases h; exact hl _ (by simp)
  · split at h <;> cases h
    rename_i ps hp
    exact tupG_lt hl hp

theorem argG_lt {n : Nat} : ∀ (vs : List SV) (k : Nat), (∀ v ∈ vs, v.lt n) → ltE n (argG k vs)
  | [], _, _ => fun t x hx => by cases hx
  | v :: r, k, h => fun t x hx => by
    simp only [argG, look_cons] at hx
    split at hx
    · cases hx; exact h v (by simp)
    · exact argG_lt r (k + 1) (fun v hv => h v (List.mem_cons_of_mem _ hv)) t x hx

theorem outV_lt {n : Nat} {o : Out} {x : SV} (h : OutLt n o) (hx : outV o = some x) : x.lt n := by
  unfold outV at hx
  split at hx <;> cases hx
  · exact h
  · exact h
  · trivial
theorem outV_ok {P : Program} {β : Nat → Nat} {s : Sem Next} {w : World} {o : Out} {x : SV} (h : OutOk P β s w o) (hx : outV o = some x) : s.run P w = .ok (.value (x.den β)) w := by
  unfold outV at hx
  split at hx <;> cases hx <;> exact h

theorem lookR_lt {gl : Gl} {P : Program} {n k : Nat} {all : Array Oper} {env env' : Env} {m0 : Mem} {g0 : GMem} {hold : Bool} {pi : Bool} {i : Nat} (h : ltE k env) (hm : ltM k m0) (hg : ltG k g0) : ∀ {rd : List Nat}, lookR gl P n all env m0 g0 hold rd = some (pi, env', i) → ltE k env'
  | [], hl => by cases hl
  | j :: r, hl => by
    simp only [lookR] at hl
    split at hl <;> try (cases hl; done)
    rename_i o ho
    split at hl <;> try (cases hl; done)
    split at hl <;> try (cases hl; done)
    · split at hl <;> cases hl
      rename_i hp
      exact h.putO (x := .c (.v undef)) trivial hp
    · split at hl
      · rename_i x hx
        split at hl <;> cases hl
        rename_i hp
        exact h.putO (outV_lt (pureX_lt h (fun _ he => by cases he) (fun _ he => by cases he) o.op) hx) hp
      · split at hl
        · exact lookR_lt h hm hg hl
        · split at hl
          · rename_i x hx
            split at hl <;> cases hl
            rename_i hp
            exact h.putO (outV_lt (pureX_lt h hm hg o.op) hx) hp
          · split at hl
            · rename_i v hv
              split at hl <;> cases hl
              rename_i hp
              exact h.putO (ofV_lt k v) hp
            · exact lookR_lt h hm hg hl

theorem Grow.lowered {s s' : GS} (h : Grow { s with low := s.nl } s') : Grow s { s' with low := minN s.low s'.low } :=
  ⟨fun b => (let c := h.bd ⟨b.env, b.mem, b.gm⟩; ⟨c.env, c.mem, c.gm⟩), h.nl, (minN_le _ _).1, fun b hb hn m0 g0 k1 k2 k3 k4 => h.keeps b (Nat.le_trans hb (minN_le _ _).2) hn m0 g0 k1 k2 k3 k4⟩
theorem Grow.call {s t : GS} {env : Env} {env0 : Env} (h : Grow ⟨env0, s.mem, s.gm, s.nl, s.nl⟩ t) (h0 : Bd s → ltE s.nl env0) (he : Bd s → Bd t → ltE t.nl env) : Grow s ⟨env, t.mem, t.gm, t.nl, minN s.low t.low⟩ :=
  ⟨fun b => (let c := h.bd ⟨h0 b, b.mem, b.gm⟩; ⟨he b c, c.mem, c.gm⟩), h.nl, (minN_le _ _).1, fun b hb hn m0 g0 k1 k2 k3 k4 => h.keeps b (Nat.le_trans hb (minN_le _ _).2) hn m0 g0 k1 k2 k3 k4⟩
end Go.Proofs.YtccmdlmlbkpjjaaGreatDoor

/- The evaluator: whatever it runs only adds to memory, or tells how deep it turned it. -/
namespace Go.Proofs.YtccmdlmlbkpjjaaGreatDoor
open Go.RowKit

structure GrowR (s : GS) (r : GR) : Prop where
  grow : Grow s r.s
  v : Bd s → r.v.lt r.s.nl
theorem GrowR.of {s s' : GS} {r : GR} (h : Grow s s') (k : GrowR s' r) : GrowR s r := ⟨h.trans k.grow, fun b => k.v (h.bd b)⟩
theorem GrowR.plan {s : GS} {r : GR} (h : GrowR s r) (p : PT) (m : Marks) : GrowR s { r with plan := p, marks := m } := ⟨h.grow, h.v⟩
theorem lookR_grow {gl : Gl} {P : Program} {n : Nat} {all : Array Oper} {env' : Env} {m0 : Mem} {g0 : GMem} {hold : Bool} {pi : Bool} {i : Nat} {s : GS} {rd : List Nat} (hm : Bd s → ltM s.nl m0) (hg : Bd s → ltG s.nl g0) (h : lookR gl P n all s.env m0 g0 hold rd = some (pi, env', i)) : Grow s { s with env := env' } :=
  ⟨fun b => ⟨lookR_lt b.env (hm b) (hg b) h, b.mem, b.gm⟩, Nat.le_refl _, Nat.le_refl _, fun b _ _ => Keeps.of_eq rfl rfl⟩

def drOk (s : GS) : GC → Prop
  | .dr _ _ m0 g0 _ _ => ltM s.nl m0 ∧ ltG s.nl g0
  | .al _ _ _ m0 g0 _ _ => ltM s.nl m0 ∧ ltG s.nl g0
  | _ => True

set_option maxHeartbeats 4000000 in
theorem gx_grow {P : Program} {kn : Kn} (hex : ExOk P kn.ex kn.pre) : ∀ (m : Nat) (fn : Func) (s : GS) (c : GC) (r : GR), gx P kn m fn s c = some r → Bd s → drOk s c → GrowR s r
  | 0, _, _, _, _, h, _, _ => by cases h
  | m + 1, fn, s, .run k, r, h, b, _ => by
    have ih := gx_grow (P := P) (kn := kn) hex m
    simp only [gx] at h
    split at h <;> try (cases h; done)
    · exact ih _ _ _ _ h b trivial
    · exact ih _ _ _ _ h b trivial
    · exact ih _ _ _ _ h b trivial
    · exact ih _ _ _ _ h b trivial
    · exact ih _ _ _ _ h b trivial
    · exact ih _ _ _ _ h b trivial
    · exact ih _ _ _ _ h b trivial
    · exact ih _ _ _ _ h b trivial
    · exact ih _ _ _ _ h b trivial
    · split at h <;> try (cases h; done)
      exact ih _ _ _ _ h b trivial
    · split at h <;> try (cases h; done)
      · exact ih _ _ _ _ h b trivial
      · exact ih _ _ _ _ h b trivial
    · exact ih _ _ _ _ h b trivial
    · split at h <;> try (cases h; done)
      rename_i q hq
      split at h <;> try (cases h; done)
      split at h <;> try (cases h; done)
      have h1 := ih _ _ _ _ hq b (heldOf_lt b.mem b.gm)
      exact GrowR.of h1.grow (ih _ _ _ _ h (h1.grow.bd b) trivial)
    · split at h <;> try (cases h; done)
      rename_i vs hv
      split at h <;> cases h
      rename_i v ho
      exact ⟨Grow.refl _, fun b => oneG_lt (retG_lt b.env b.mem hv) ho⟩
    · split at h <;> try (cases h; done)
      rename_i vs hv
      split at h <;> cases h
      rename_i v ho
      exact ⟨Grow.refl _, fun b => oneG_lt (retG_lt b.env b.mem hv) ho⟩
  | m + 1, fn, s, .ops all [] k, r, h, b, _ => by
    have ih := gx_grow (P := P) (kn := kn) hex m
    simp only [gx] at h
    exact ih _ _ _ _ h b trivial
  | m + 1, fn, s, .ops all (o :: rest) k, r, h, b, _ => by
    have ih := gx_grow (P := P) (kn := kn) hex m
    simp only [gx] at h
    split at h <;> try (cases h; done)
    · split at h <;> try (cases h; done)
      split at h <;> try (cases h; done)
      rename_i env hp
      have h1 : Grow s { s with env := env } := Grow.env (x := .c (.v undef)) (fun _ => trivial) hp
      exact GrowR.of h1 (ih _ _ _ _ h (h1.bd b) trivial)
    · split at h
      · rename_i x hx
        split at h <;> try (cases h; done)
        split at h <;> try (cases h; done)
        rename_i env hp
        have h1 : Grow s { s with env := env } := Grow.env (fun b => outV_lt (pureX_lt b.env b.mem b.gm o.op) hx) hp
        exact GrowR.of h1 (ih _ _ _ _ h (h1.bd b) trivial)
      · split at h
        · rename_i v hv
          split at h <;> try (cases h; done)
          split at h <;> try (cases h; done)
          rename_i env hp
          have h1 : Grow s { s with env := env } := Grow.env (fun _ => ofV_lt _ v) hp
          exact GrowR.of h1 (ih _ _ _ _ h (h1.bd b) trivial)
        split at h
        · rename_i s' hs
          have h1 := effX_grow hs
          exact GrowR.of h1 (ih _ _ _ _ h (h1.bd b) trivial)
        · split at h <;> try (cases h; done)
          rename_i f vs hc
          split at h <;> try (cases h; done)
          split at h
          · rename_i x hx
            split at h <;> try (cases h; done)
            rename_i env hp
            have h1 : Grow s { s with env := env } := Grow.env (fun _ => (hex _ _ _ hx).1 _) hp
            exact GrowR.of h1 (ih _ _ _ _ h (h1.bd b) trivial)
          · split at h
            · split at h <;> try (cases h; done)
              rename_i env hp
              have h1 : Grow s { s with env := env } := Grow.env (x := .c (.v (.string _))) (fun _ => trivial) hp
              exact GrowR.of h1 (ih _ _ _ _ h (h1.bd b) trivial)
            split at h <;> try (cases h; done)
            rename_i fn' hf
            split at h <;> try (cases h; done)
            rename_i c hb
            split at h <;> try (cases h; done)
            split at h <;> try (cases h; done)
            rename_i q hq
            split at h <;> try (cases h; done)
            rename_i env hp
            have hl : ltE s.nl (argG 0 vs) := argG_lt vs 0 (calleeG_lt b.env hc)
            have h1 := ih _ _ _ _ hq ⟨hl, b.mem, b.gm⟩ trivial
            have h2 : Grow s ⟨env, q.s.mem, q.s.gm, q.s.nl, minN s.low q.s.low⟩ := Grow.call (s := s) h1.grow (fun _ => hl) (fun b b' => (b.env.mono h1.grow.nl).putO (h1.v ⟨hl, b.mem, b.gm⟩) hp)
            exact GrowR.of h2 (ih _ _ _ _ h (h2.bd b) trivial)
  | m + 1, fn, s, .dr all listed m0 g0 n0 hold, r, h, b, hd => by
    have ih := gx_grow (P := P) (kn := kn) hex m
    obtain ⟨hd1, hd2⟩ : ltM s.nl m0 ∧ ltG s.nl g0 := hd
    simp only [gx] at h
    split at h
    · cases h
      exact ⟨Grow.refl _, fun _ => trivial⟩
    · split at h
      · rename_i pi env i hl
        split at h <;> cases h
        rename_i q hq
        have h1 := lookR_grow (fun _ => hd1) (fun _ => hd2) hl
        exact GrowR.plan (GrowR.of h1 (ih _ _ _ _ hq (h1.bd b) ⟨hd1, hd2⟩)) _ _
      · exact ih _ _ _ _ h b ⟨hd1, hd2⟩
  | m + 1, fn, s, .al cands all listed m0 g0 n0 hold, r, h, b, hd => by
    have ih := gx_grow (P := P) (kn := kn) hex m
    obtain ⟨hd1, hd2⟩ : ltM s.nl m0 ∧ ltG s.nl g0 := hd
    simp only [gx] at h
    split at h <;> try (cases h; done)
    split at h <;> try (cases h; done)
    rename_i e he
    split at h <;> try (cases h; done)
    rename_i q hq
    have h0 := (ih _ _ _ _ he ⟨b.env, b.mem, b.gm⟩ trivial).grow
    have h1 : Grow s { e.s with low := minN s.low e.s.low } := Grow.lowered h0
    have h2 := GrowR.of h1 (ih _ _ _ _ hq (h1.bd b) ⟨hd1.mono h1.nl, hd2.mono h1.nl⟩)
    split at h
    · cases h
      exact GrowR.plan h2 _ _
    · split at h <;> try (cases h; done)
      split at h <;> cases h
      exact GrowR.plan h2 _ _
  | m + 1, fn, s, .ef all i, r, h, b, _ => by
    have ih := gx_grow (P := P) (kn := kn) hex m
    simp only [gx] at h
    split at h <;> try (cases h; done)
    rename_i o ho
    split at h <;> try (cases h; done)
    split at h
    · rename_i s' hs
      cases h
      exact ⟨effX_grow hs, fun _ => trivial⟩
    · split at h <;> try (cases h; done)
      rename_i f vs hc
      split at h <;> try (cases h; done)
      split at h <;> try (cases h; done)
      rename_i fn' hf
      split at h <;> try (cases h; done)
      rename_i c hb
      split at h <;> try (cases h; done)
      split at h <;> try (cases h; done)
      rename_i q hq
      split at h <;> cases h
      rename_i env hp
      have hl : ltE s.nl (argG 0 vs) := argG_lt vs 0 (calleeG_lt b.env hc)
      have h1 := ih _ _ _ _ hq ⟨hl, b.mem, b.gm⟩ trivial
      exact ⟨Grow.call (s := s) h1.grow (fun _ => hl) (fun b b' => (b.env.mono h1.grow.nl).putO (h1.v ⟨hl, b.mem, b.gm⟩) hp), fun _ => trivial⟩
end Go.Proofs.YtccmdlmlbkpjjaaGreatDoor

/- The evaluator: calls and results are as the model has them. -/
namespace Go.Proofs.YtccmdlmlbkpjjaaGreatDoor
open Go.RowKit

section
variable {g : Cx} {β : Nat → Nat} {s : GS} {L : Res} {a : Act} {w : World}

theorem evs_ok (h : RelG g β s L a w) : ∀ {xs : List Operand} {vs : List SV}, evs s.env xs = some vs → xs.map a.eval = vs.map (SV.den β)
  | [], vs, hv => by simp only [evs, Option.some.injEq] at hv; subst hv; rfl
  | x :: r, vs, hv => by
    simp only [evs] at hv
    split at hv <;> try (cases hv; done)
    rename_i u hu
    split at hv <;> cases hv
    rename_i t ht
    simp [nrm_evn h hu, evs_ok h ht]
theorem ofVs_den (l : List Value) : (ofVs l).map (SV.den β) = l := by
  rw [ofVs_eq, List.map_map]
  have : (SV.den β ∘ ofV) = id := by funext x; exact ofV_den β x
  rw [this, List.map_id]

theorem calleeG_ok (h : RelG g β s L a w) {o : Oper} {f : Nat} {us : List SV} (hc : calleeG g.P s.env o = some (f, us)) : (execOp a.eval o).run g.P w = (callFunc f (us.map (SV.den β)).toArray).run g.P w := by
  unfold calleeG at hc
  split at hc <;> try (cases hc; done)
  · rename_i x ars ts hop
    split at hc <;> try (cases hc; done)
    rename_i f' first cap hx
    split at hc <;> try (cases hc; done)
    rename_i vs hvs
    rw [appV_eq] at hc
    simp only at hc
    rw [appV_eq] at hc
    simp only [Option.some.injEq, Prod.mk.injEq] at hc
    obtain ⟨rfl, rfl⟩ := hc
    have hargs : ars.map a.eval = (vs.map (SV.den β)).toArray := by
      apply Array.ext'
      simpa using evs_ok h hvs
    have hex : a.eval x = .func (.func f') first cap := h.ev hx
    have e : first ++ (vs.map (SV.den β)).toArray ++ cap = ((ofVs first.toList ++ (vs ++ ofVs cap.toList)).map (SV.den β)).toArray := by
      apply Array.ext'
      simp [ofVs_den]
    simp only [execOp, hop, resolve, hargs, hex, Deferred.ofValue, Sem.run_bind, Sem.run_pure, Result.andThen_ok, invoke, e]
  · rename_i r name ars ts hop
    split at hc <;> try (cases hc; done)
    rename_i u hu
    split at hc <;> try (cases hc; done)
    rename_i t rv hrv
    have er : a.eval r = .iface t (rv.den β) := by
      rw [h.ev hu]
      split at hrv <;> cases hrv
      · rfl
      · rw [ofV_den]; rfl
    split at hc <;> try (cases hc; done)
    rename_i i hi
    split at hc <;> try (cases hc; done)
    rename_i m hm
    split at hc <;> try (cases hc; done)
    rename_i hp
    split at hc <;> try (cases hc; done)
    rename_i f' ptr hf
    have key : ∀ vs, evs s.env ars.toList = some vs → (∀ d, g.P.underlying t = some d → (receiverAt t (.val (rv.den β)) ptr (if m.path.isEmpty then some ((name.splitOn ".").getLastD name) else none)).run g.P w = .ok (rv.den β) w) → (∃ d, g.P.underlying t = some d) →
        (execOp a.eval o).run g.P w = (callFunc f' ((rv :: vs).map (SV.den β)).toArray).run g.P w := by
      intro vs hvs hrec ⟨d, hd⟩
      have hargs : ars.map a.eval = (vs.map (SV.den β)).toArray := by
        apply Array.ext'
        simpa using evs_ok h hvs
      have hmeth : (method (g.P.types.size + Made.depth) t (rv.den β) name).run g.P w = .ok (f', rv.den β) w := by
        have hk : g.P.types.size + Made.depth = (g.P.types.size + 99) + 1 := rfl
        rw [hk]
        have h1 := hrec d hd
        generalize g.P.types.size + 99 = k
        simp only [method, typeInfo, Sem.run_bind, run_program, hi, Sem.run_pure, Result.andThen_ok, hm, hp, follow, hf, h1]
      have e2 : (#[a.eval r] ++ ars.map a.eval).extract 1 (#[a.eval r] ++ ars.map a.eval).size = ars.map a.eval := by
        apply Array.ext'
        simp
        exact List.take_of_length_le (by simp)
      have e3 : #[rv.den β] ++ ars.map a.eval = ((rv :: vs).map (SV.den β)).toArray := by
        rw [hargs]
        apply Array.ext'
        simp
      have e4 : (#[a.eval r] ++ ars.map a.eval)[0]? = some (.iface t (rv.den β)) := by
        rw [← er, Array.getElem?_append_left (by simp)]
        rfl
      simp only [execOp, hop, resolve, Sem.run_bind, Sem.run_pure, Result.andThen_ok, invoke, e4, e2, callMethod, run_program, hmeth, e3]
    split at hc <;> try (cases hc; done)
    · rename_i el hu2
      split at hc <;> cases hc
      rename_i vs hvs
      refine key vs ?_ (fun d hd => ?_) ⟨_, hu2⟩
      · assumption
      · simp [receiverAt, run_underlying hu2, Place.get]
    · rename_i d hne hu2
      split at hc <;> cases hc
      rename_i vs hvs
      refine key vs ?_ (fun d' hd => ?_) ⟨_, hu2⟩
      · assumption
      · cases d <;> first | (exact absurd rfl (hne _)) | (simp [receiverAt, run_underlying hu2, Place.get])

theorem retG_run (hr : RelG g β s L a w) : ∀ (rs : List ResultVar) (vs : List SV), retG g.P s.env s.mem rs = some vs → Sem.run g.P (rs.mapM (resS a.tmps)) w = .ok (vs.map (SV.den β)) w
  | [], vs, h => by simp only [retG, Option.some.injEq] at h; subst h; rfl
  | .tmp t :: r, vs, h => by
    simp only [retG] at h
    split at h <;> try (cases h; done)
    rename_i u hu
    split at h <;> cases h
    rename_i ss hs
    have ih := retG_run hr r ss hs
    have he : a.tmps.getD t undef = u.den β := by rw [Array.getD_eq_getD_getElem?, hr.env t u hu]; rfl
    rw [List.mapM_cons]
    simp only [resS, Sem.run_bind, Sem.run_pure, Result.andThen_ok, he, ih, List.map_cons]
  | .cell x t :: r, vs, h => by
    simp only [retG] at h
    split at h <;> try (cases h; done)
    rename_i l o hx
    have he : a.tmps.getD x undef = .pointer (some ⟨β l, o, none⟩) := by rw [Array.getD_eq_getD_getElem?, hr.env x _ hx]; rfl
    split at h <;> try (cases h; done)
    rename_i tt cs hl
    split at h <;> try (cases h; done)
    · rename_i ha
      split at h <;> try (cases h; done)
      rename_i y hy
      split at h <;> cases h
      rename_i ss hs
      have ih := retG_run hr r ss hs
      rw [List.mapM_cons]
      simp only [resS, Sem.run_bind, Sem.run_pure, Result.andThen_ok, he, asAddr, run_load_one hr hl ha hy, ih, List.map_cons]
      rfl
    · rename_i n ha
      split at h <;> try (cases h; done)
      rename_i ys hy
      split at h <;> cases h
      rename_i ss hs
      have ih := retG_run hr r ss hs
      rw [List.mapM_cons]
      simp only [resS, Sem.run_bind, Sem.run_pure, Result.andThen_ok, he, asAddr, run_load_many hr hl ha hy, ih, List.map_cons]
      rfl
theorem tupG_den : ∀ {ss : List SV} {ps : List (Bool × List Ce)}, tupG ss = some ps → ps.map (tpDen β) = ss.map (SV.den β)
  | [], ps, h => by simp only [tupG, Option.some.injEq] at h; subst h; rfl
  | s :: r, ps, h => by
    simp only [tupG] at h
    split at h <;> try (cases h; done)
    rename_i p hp
    split at h <;> cases h
    rename_i qs hq
    simp [tOf_den hp, tupG_den hq]
theorem oneG_den {vs : List SV} {v : SV} (h : oneG vs = some v) : oneV (vs.map (SV.den β)) = v.den β := by
  unfold oneG at h
  split at h
  · cases h; rfl
  · rename_i hne
    split at h <;> cases h
    rename_i ps hp
    have e := tupG_den (β := β) hp
    show oneV (vs.map (SV.den β)) = .tuple (ps.map (tpDen β)).toArray
    rw [e]
    match vs, hne with
    | [], _ => rfl
    | [x], hne => exact absurd rfl (hne x)
    | _ :: _ :: _, _ => rfl
theorem retG_ok (hr : RelG g β s L a w) {vs : List SV} {v : SV} (h : retG g.P s.env s.mem g.fn.results.toList = some vs) (h1 : oneG vs = some v) : (results g.fn a.tmps).run g.P w = .ok (v.den β) w := by
  have h2 := retG_run hr _ _ h
  have e : results g.fn a.tmps = (do
      let vs ← g.fn.results.mapM (resS a.tmps)
      pure (if h : vs.size = 1 then vs[0] else .tuple vs)) := by
    unfold results
    congr 1
  rw [e, Array.mapM_eq_mapM_toList]
  simp only [Sem.run_bind, Sem.run_map, h2]
  simp only [Result.andThen_ok, Sem.run_pure]
  rw [← oneG_den h1]
  match vs with
  | [] => rfl
  | [v] => rfl
  | v :: u :: r => rfl
end
end Go.Proofs.YtccmdlmlbkpjjaaGreatDoor

/- The evaluator is sound. -/
namespace Go.Proofs.YtccmdlmlbkpjjaaGreatDoor
open Go.RowKit

theorem calls_of_ret {P : Program} {f : Nat} {fn : Func} {c : Code} {args : Array Value} {R : Value → List SP → Prop} {F : List SP} {w : World} (hf : P.funcs[f]? = some fn) (hb : fn.body = some c)
    (h : Ret ⟨P, f, fn, fn.ntmps, R, F, w.os, w.tape, w.output⟩ [.code c] { tmps := args ++ Array.replicate (fn.ntmps - args.size) undef, defers := [] } w) :
    Calls P f args w fun e w' => ∃ v Q, e = .returned v ∧ R v Q ∧ w'.os = w.os ∧ w'.tape = w.tape ∧ w'.output = w.output ∧ SatW (Q ++ F) w' := by
  intro cs
  obtain ⟨e, w', fr, ⟨v, Q, h1, h2, h3, h4, h5, h6⟩, hc, hfn, hl⟩ := h cs
  have henter : Frame.enter P f args .normal = (base ⟨P, f, fn, fn.ntmps, R, F, w.os, w.tape, w.output⟩).at { tmps := args ++ Array.replicate (fn.ntmps - args.size) undef, defers := [] } [.code c] := by
    simp [Frame.enter, Frame.at, hf, hb, base]
  rw [henter]
  exact ⟨e, w', fr, ⟨v, Q, h1, h2, h3, h4, h5, h6⟩, hc, hfn, hl⟩
theorem look_argG (β : Nat → Nat) : ∀ (vs : List SV) (k s : Nat) (x : SV), look (argG k vs) s = some x → k ≤ s ∧ (vs.map (SV.den β))[s - k]? = some (x.den β)
  | [], k, s, x, h => by cases h
  | v :: r, k, s, x, h => by
    simp only [argG, look_cons] at h
    by_cases e : k = s
    · subst e
      simp at h
      subst h
      simp
    · rw [if_neg e] at h
      obtain ⟨h1, h2⟩ := look_argG β r (k + 1) s x h
      refine ⟨by omega, ?_⟩
      rw [show s - k = (s - (k + 1)) + 1 from by omega]
      exact h2

/-- What was there as a region began. -/
def heldS (β0 : Nat → Nat) (m0 : Mem) (g0 : GMem) (F : List SP) : World → Prop := fun w => SatW (memSP β0 m0 ++ (gmSP β0 g0 ++ F)) w
def Shape (s : GS) (m0 : Mem) (g0 : GMem) (n0 : Nat) : Prop := (∃ n1, s.mem = n1 ++ m0 ∧ ∀ e ∈ n1, n0 ≤ e.1) ∧ (∃ n2, s.gm = n2 ++ g0 ∧ ∀ e ∈ n2, n0 ≤ e.1)
theorem Shape.held {g : Cx} {β β0 : Nat → Nat} {s : GS} {L : Res} {a : Act} {w : World} {m0 : Mem} {g0 : GMem} {n0 : Nat} (h : Shape s m0 g0 n0) (hr : RelG g β s L a w) (hag : agree n0 β0 β) (hm : ltM n0 m0) (hg : ltG n0 g0) : heldS β0 m0 g0 (L.map (·.2) ++ g.F) w := by
  obtain ⟨⟨n1, h1, _⟩, n2, h2, _⟩ := h
  have hs := hr.sat'
  rw [h1, h2] at hs
  unfold heldS
  rw [← memSP_agree hag hm, ← gmSP_agree hag hg]
  have e1 : memSP β (n1 ++ m0) = memSP β n1 ++ memSP β m0 := by simp [memSP]
  have e2 : gmSP β (n2 ++ g0) = gmSP β n2 ++ gmSP β g0 := by simp [gmSP]
  rw [e1, e2, List.append_assoc] at hs
  have h3 := hs.app_right.swapHead
  rw [List.append_assoc] at h3
  exact h3.app_right.swapHead
theorem heldIn_held {g : Cx} {β β0 : Nat → Nat} {s : GS} {L : Res} {a : Act} {w : World} {m0 : Mem} {g0 : GMem} {n0 : Nat} (h : heldIn m0 g0 s = true) (hr : RelG g β s L a w) (hag : agree n0 β0 β) (hm : ltM n0 m0) (hg : ltG n0 g0) : heldS β0 m0 g0 (L.map (·.2) ++ g.F) w := by
  simp only [heldIn, Bool.and_eq_true] at h
  unfold heldS
  rw [← memSP_agree hag hm, ← gmSP_agree hag hg]
  have h1 := sameM_ok (fun l => l) β (Y := gmSP β s.gm) h.1 hr.sat'
  have h2 : SatW (memSP β m0 ++ (gmSP β g0 ++ (L.map (·.2) ++ g.F))) w := sameG_ok (fun l => l) β (Y := memSP β m0) h.2 h1
  exact h2
theorem Keeps.shape {s s' : GS} {m0 : Mem} {g0 : GMem} {n0 : Nat} (h : Keeps n0 s s') (hs : Shape s m0 g0 n0) (hm : ltM n0 m0) (hg : ltG n0 g0) : Shape s' m0 g0 n0 :=
  h m0 g0 hs.1 hs.2 (fun e he => (hm e he).1) (fun e he => by have := (hg e he).1; omega)

section
variable {P : Program} {f : Nat} {fn : Func} {R : Value → List SP → Prop} {F : List SP} {os : Os} {tape : Nat → Question → Nat} {output : Array (Nat × ByteArray)} {β : Nat → Nat} {s : GS} {L : Res} {a : Act} {w : World}

theorem at_world (hr : RelG ⟨P, f, fn, fn.ntmps, R, F, os, tape, output⟩ β s L a w) (m0 : Mem) (g0 : GMem) (X : List SP) (w' : World) (h : SatW (memSP β m0 ++ (gmSP β g0 ++ X)) w') :
    RelG ⟨P, f, fn, fn.ntmps, R, X, w'.os, w'.tape, w'.output⟩ β { s with mem := m0, gm := g0 } [] a w' :=
  RelG.mk' hr.defers hr.size hr.env rfl rfl rfl (by simpa using h)

theorem lookR_sound {gl : Gl} {pre : List SP} (hgl : Glob gl pre F) {all : Array Oper} {Q : Exit → Act → World → Prop} {m0 : Mem} {g0 : GMem} {hold : Bool} {n0 : Nat} {β0 : Nat → Nat} {rest : PT} (hr : RelG ⟨P, f, fn, fn.ntmps, R, F, os, tape, output⟩ β s L a w)
    (hag : agree n0 β0 β) (hm : ltM n0 m0) (hg : ltG n0 g0) (hh : hold = true → heldS β0 m0 g0 (L.map (·.2) ++ F) w) {pi : Bool} {env' : Env} {i : Nat} : ∀ {rd : List Nat}, lookR gl P fn.ntmps all s.env m0 g0 hold rd = some (pi, env', i) →
    (∀ a', RelG ⟨P, f, fn, fn.ntmps, R, F, os, tape, output⟩ β { s with env := env' } L a' w → planRunT P all Q (heldS β0 m0 g0 (L.map (·.2) ++ F)) rest false a' w) →
    planRunT P all Q (heldS β0 m0 g0 (L.map (·.2) ++ F)) (mkP pi i rest) false a w
  | [], h, _ => by cases h
  | j :: rd, h, hk => by
    simp only [lookR] at h
    split at h <;> try (cases h; done)
    rename_i o ho
    have ho' : all[j]? = some o := by rw [getL_eq, Array.getElem?_toList] at ho; exact ho
    split at h <;> try (cases h; done)
    rename_i hd
    split at h <;> try (cases h; done)
    · rename_i hgd
      split at h <;> cases h
      rename_i hp
      exact ⟨o, undef, ho', .inr ⟨guardG_no hr hgd, rfl⟩, hk _ (RelG.putE (x := .c (.v undef)) hr hd hp)⟩
    · rename_i hgd
      have hw := guardG_yes hr hgd
      split at h
      · rename_i x hx
        split at h <;> cases h
        rename_i hp
        refine ⟨o, x.den β, ho', .inl ⟨hw, fun w' _ => ?_⟩, hk _ (hr.putE hd hp)⟩
        have h0 := at_world hr [] [] [] w' (SatW.nil w')
        exact outV_ok (pureX_ok h0 o) hx
      · split at h
        · exact lookR_sound hgl hr hag hm hg hh h hk
        · split at h
          · rename_i x hx
            split at h <;> cases h
            rename_i hp
            refine ⟨o, x.den β, ho', .inl ⟨hw, fun w' hw' => ?_⟩, hh rfl, hk _ (hr.putE hd hp)⟩
            have h0 := at_world hr m0 g0 (L.map (·.2) ++ F) w' (by
              rw [memSP_agree hag hm, gmSP_agree hag hg]
              exact hw')
            exact outV_ok (pureX_ok h0 o) hx
          · split at h
            · rename_i v hv
              split at h <;> cases h
              rename_i hp
              refine ⟨o, (ofV v).den β, ho', .inl ⟨hw, fun w' hw' => ?_⟩, hh rfl, hk _ (hr.putE hd hp)⟩
              rw [ofV_den]
              refine globX_ok hr (hgl (memSP β0 m0 ++ (gmSP β0 g0 ++ L.map (·.2))) w' ?_).1 hv
              simpa [heldS] using hw'
            · exact lookR_sound hgl hr hag hm hg hh h hk

theorem callF_run (hng : ∀ (f : Nat) (fn : Func), P.funcs[f]? = some fn → (fn.name == "runtime.NumGoroutine") = false) {f' : Nat} {fn' : Func} {c : Code} (hf : P.funcs[f']? = some fn') (hb : fn'.body = some c) (ars : Array Value) (w : World) : (callFunc f' ars).run P w = .ok (.enter f' ars) w := by
  have hname : ¬ fn'.name = "runtime.NumGoroutine" := by simpa using hng _ _ hf
  simp [callFunc, hf, hname, hb]

/-- Behind a call: the caller's state. -/
theorem back (hr : RelG ⟨P, f, fn, fn.ntmps, R, F, os, tape, output⟩ β s L a w) (hb : Bd s) {β' : Nat → Nat} (hag : agree s.nl β β') {t : GS} {w' : World} (h1 : w'.os = w.os) (h2 : w'.tape = w.tape) (h3 : w'.output = w.output)
    (hs : SatW ((memSP β' t.mem ++ (gmSP β' t.gm ++ [])) ++ (L.map (·.2) ++ F)) w') : RelG ⟨P, f, fn, fn.ntmps, R, F, os, tape, output⟩ β' ⟨s.env, t.mem, t.gm, t.nl, t.low⟩ L a w' := by
  have h0 := hr.agree hb hag
  refine RelG.mk' h0.defers h0.size h0.env (h1.trans h0.os) (h2.trans h0.tape) (h3.trans h0.output) ?_
  rw [List.append_nil, List.append_assoc] at hs
  exact hs
end

theorem slOf_ok {P : Program} {f : Nat} {fn : Func} {R : Value → List SP → Prop} {F : List SP} {os : Os} {tape : Nat → Question → Nat} {output : Array (Nat × ByteArray)} {β : Nat → Nat} {s : GS} {L : Res} {a : Act} {w : World}
    (hr : RelG ⟨P, f, fn, fn.ntmps, R, F, os, tape, output⟩ β s L a w) {v : SV} {l o : Nat} {ys : List Ce} (h : slOf s v = some (l, o, ys)) :
    ∃ c, v.den β = .slice (some ⟨β l, o, none⟩) ys.length c ∧ ys.length ≤ c ∧ β l < w.heap.size ∧ ∀ j y, ys[j]? = some y → w.cell? ⟨β l, o + j, none⟩ = some (y.den β) := by
  unfold slOf at h
  split at h <;> try (cases h; done)
  · rename_i l' o' n c
    split at h <;> try (cases h; done)
    rename_i hle
    split at h <;> try (cases h; done)
    rename_i t cs hl
    split at h <;> cases h
    obtain ⟨c1, c2⟩ := cutL_spec _ _ _ _ (by assumption)
    have hb := Rel.block hr hl
    refine ⟨c, by rw [c1]; rfl, by rw [c1]; simpa using hle, (Array.getElem?_eq_some_iff.1 hb).1, fun j y hy => ?_⟩
    have hj : j < n := by have := (List.getElem?_eq_some_iff.1 hy).1; omega
    rw [Rel.cell hr hl, c2 j hj, hy]; rfl
  · rename_i l' o' n e
    split at h <;> try (cases h; done)
    rename_i et nt sz cs hl
    split at h <;> try (cases h; done)
    rename_i hle
    split at h <;> cases h
    obtain ⟨c1, c2⟩ := cutL_spec _ _ _ _ (by assumption)
    obtain ⟨cur, hg⟩ := hr.gr hl
    have hle' : n + e ≤ nt := by simpa using hle
    have hcap := hg.cap
    refine ⟨β (l + 1) - e, by rw [c1]; rfl, by rw [c1]; omega, (Array.getElem?_eq_some_iff.1 hg.blk).1, fun j y hy => ?_⟩
    have hj : j < n := by have := (List.getElem?_eq_some_iff.1 hy).1; omega
    exact hg.cell ((c2 j hj).trans hy)
theorem strCe_ok : ∀ {ys : List Ce} {xs : List ByteArray}, strCe ys = some xs → ys = xs.map fun b => .v (.string b)
  | [], xs, h => by simp only [strCe, Option.some.injEq] at h; subst h; rfl
  | y :: r, xs, h => by
    unfold strCe at h
    split at h <;> try (cases h; done)
    · rename_i e; cases e
    · rename_i b r' e
      cases e
      split at h <;> cases h
      rename_i l hl
      rw [strCe_ok hl]; rfl
/-- What strings.Join does. -/
def JnOk (P : Program) (jn : Nat) : Prop :=
  Nat.ble jn 999999 = true → (∀ (ars : Array Value) (w : World), (callFunc jn ars).run P w = .ok (.enter jn ars) w) ∧
  ∀ (bk o c : Nat) (xs : List ByteArray) (sep : ByteArray) (w : World), (∀ (j : Nat) x, xs[j]? = some x → w.cell? ⟨bk, o + j, none⟩ = some (.string x)) → bk < w.heap.size → xs.length ≤ 140737488355328 → xs.length ≤ c → (Lib.join (xs.map (·.data.toList)) sep.data.toList).length ≤ 140737488355328 →
    Calls P jn #[.slice (some ⟨bk, o, none⟩) xs.length c, .string sep] w fun e w' => e = .returned (.string ⟨(Lib.join (xs.map (·.data.toList)) sep.data.toList).toArray⟩) ∧ Below w.heap.size w w'
theorem joinX_ok {P : Program} {f : Nat} {fn : Func} {R : Value → List SP → Prop} {F : List SP} {os : Os} {tape : Nat → Question → Nat} {output : Array (Nat × ByteArray)} {β : Nat → Nat} {s : GS} {L : Res} {a : Act} {w : World}
    (hr : RelG ⟨P, f, fn, fn.ntmps, R, F, os, tape, output⟩ β s L a w) {jn f' : Nat} {vs : List SV} {b : ByteArray} (hj : JnOk P jn) (h : joinX jn s f' vs = some b) :
    (∀ (ars : Array Value) (w : World), (callFunc f' ars).run P w = .ok (.enter f' ars) w) ∧ Calls P f' (vs.map (SV.den β)).toArray w fun e w' => e = .returned (.string b) ∧ Below w.heap.size w w' := by
  unfold joinX at h
  split at h <;> try (cases h; done)
  rename_i hf
  obtain rfl : f' = jn := Nat.eq_of_beq_eq_true hf
  split at h <;> try (cases h; done)
  rename_i hjn
  replace hj := hj hjn
  refine ⟨hj.1, ?_⟩
  split at h <;> try (cases h; done)
  rename_i v sep
  split at h <;> try (cases h; done)
  rename_i l o ys hs
  split at h <;> try (cases h; done)
  rename_i xs hx
  split at h <;> try (cases h; done)
  rename_i h1
  split at h <;> try (cases h; done)
  rename_i h2
  cases h
  obtain ⟨c, e1, e2, e3, e4⟩ := slOf_ok hr hs
  have e5 := strCe_ok hx
  have e6 : ys.length = xs.length := by rw [e5, List.length_map]
  have := hj.2 (β l) o c xs sep w (fun j x hxj => by
    have := e4 j (.v (.string x)) (by rw [e5, List.getElem?_map, hxj]; rfl)
    exact this) e3 (by simpa using h1) (by omega) (by simpa using h2)
  have e7 : ([v, SV.c (.v (.string sep))].map (SV.den β)).toArray = #[.slice (some ⟨β l, o, none⟩) xs.length c, .string sep] := by
    simp only [List.map_cons, List.map_nil, e1, e6]
    rfl
  rw [e7]
  exact this

def GxOk (gl : Gl) (pre : List SP) (P : Program) (fn : Func) (s : GS) (c : GC) (r : GR) : Prop :=
  ∀ (f : Nat) (R : Value → List SP → Prop) (F : List SP) (os : Os) (tape : Nat → Question → Nat) (output : Array (Nat × ByteArray)) (β : Nat → Nat) (L : Res) (a : Act) (w : World), P.funcs[f]? = some fn → Glob gl pre F →
    RelG ⟨P, f, fn, fn.ntmps, R, F, os, tape, output⟩ β s L a w → Bd s →
    match c with
    | .run k => (∀ β', agree s.nl β β' → R (r.v.den β') (memSP β' r.s.mem ++ (gmSP β' r.s.gm ++ L.map (·.2)))) → Ret ⟨P, f, fn, fn.ntmps, R, F, os, tape, output⟩ k a w
    | .ops all rest k => (∀ β', agree s.nl β β' → R (r.v.den β') (memSP β' r.s.mem ++ (gmSP β' r.s.gm ++ L.map (·.2)))) → OpsC ⟨P, f, fn, fn.ntmps, R, F, os, tape, output⟩ all rest k a w
    | .dr all _ m0 g0 n0 hold => ∀ (β0 : Nat → Nat) (Q : Exit → Act → World → Prop), agree n0 β0 β → n0 ≤ s.nl → ltM n0 m0 → ltG n0 g0 → (hold = true → heldIn m0 g0 s = true) →
        (∀ β' a' w', agree s.nl β β' → RelG ⟨P, f, fn, fn.ntmps, R, F, os, tape, output⟩ β' r.s L a' w' → Q .normal a' w') → planRunT P all Q (heldS β0 m0 g0 (L.map (·.2) ++ F)) r.plan false a w
    | .al _ all _ m0 g0 n0 hold => ∀ (β0 : Nat → Nat) (Q : Exit → Act → World → Prop), agree n0 β0 β → n0 ≤ s.nl → ltM n0 m0 → ltG n0 g0 → (hold = true → heldIn m0 g0 s = true) →
        (∀ β' a' w', agree s.nl β β' → RelG ⟨P, f, fn, fn.ntmps, R, F, os, tape, output⟩ β' r.s L a' w' → Q .normal a' w') → ∀ b, planRunT P all Q (heldS β0 m0 g0 (L.map (·.2) ++ F)) r.plan b a w
    | .ef all i => ∃ o, all[i]? = some o ∧ Region.wanted o (yielded all a.tmps) = true ∧ ∀ (N : Act → World → Prop) (Q : Exit → Act → World → Prop),
        (∀ β' a' w', agree s.nl β β' → RelG ⟨P, f, fn, fn.ntmps, R, F, os, tape, output⟩ β' r.s L a' w' → N a' w') → o.wp P a w N Q

theorem ret_done {P : Program} {f : Nat} {fn : Func} {R : Value → List SP → Prop} {F : List SP} {os : Os} {tape : Nat → Question → Nat} {output : Array (Nat × ByteArray)} {β : Nat → Nat} {s : GS} {L : Res} {a : Act} {w : World} {k : List Item} {vs : List SV} {v : SV}
    (hf : P.funcs[f]? = some fn) (hr : RelG ⟨P, f, fn, fn.ntmps, R, F, os, tape, output⟩ β s L a w) (hk : ∀ cs, step P (lone ((base ⟨P, f, fn, fn.ntmps, R, F, os, tape, output⟩).at a k) cs w) = .next (lone { (base ⟨P, f, fn, fn.ntmps, R, F, os, tape, output⟩).at a k with mode := .returning } cs w))
    (hv : retG P s.env s.mem fn.results.toList = some vs) (ho : oneG vs = some v) (hR : R (v.den β) (memSP β s.mem ++ (gmSP β s.gm ++ L.map (·.2)))) : Ret ⟨P, f, fn, fn.ntmps, R, F, os, tape, output⟩ k a w :=
  Ret.leave (fr := default) hf hr.defers hk (retG_ok hr hv ho) ⟨_, _, rfl, hR, hr.os, hr.tape, hr.output, (by
    have := hr.sat'
    rw [List.append_assoc, List.append_assoc]
    exact this)⟩ rfl

set_option maxHeartbeats 8000000 in
theorem gx_sound {P : Program} {kn : Kn} (hex : ExOk P kn.ex kn.pre) (hjn : JnOk P kn.jn) (hng : ∀ (f : Nat) (fn : Func), P.funcs[f]? = some fn → (fn.name == "runtime.NumGoroutine") = false) (hmix : P.follows .mixedOrders = true) :
    ∀ (m : Nat) (fn : Func) (s : GS) (c : GC) (r : GR), gx P kn m fn s c = some r → GxOk kn.gl kn.pre P fn s c r
  | 0, _, _, _, _, h => by cases h
  | m + 1, fn, s, .run k, r, h => by
    have ih := gx_sound (P := P) (kn := kn) hex hjn hng hmix m
    have ig := gx_grow (P := P) (kn := kn) hex m
    intro f R F os tape output β L a w hf hgl hr hb hR
    simp only [gx] at h
    split at h <;> try (cases h; done)
    · exact Ret.one (fun cs => step_skip) (ih _ _ _ _ h f R F os tape output β L a w hf hgl hr hb hR)
    · exact Ret.one (fun cs => step_label) (ih _ _ _ _ h f R F os tape output β L a w hf hgl hr hb hR)
    · exact Ret.one (fun cs => step_inBlock) (ih _ _ _ _ h f R F os tape output β L a w hf hgl hr hb hR)
    · exact Ret.one (fun cs => step_lone_go (by simp [stepG, stepG.exec, Frame.at])) (ih _ _ _ _ h f R F os tape output β L a w hf hgl hr hb hR)
    · exact Ret.one (fun cs => step_seq) (ih _ _ _ _ h f R F os tape output β L a w hf hgl hr hb hR)
    · exact Ret.one (fun cs => step_block) (ih _ _ _ _ h f R F os tape output β L a w hf hgl hr hb hR)
    · exact Ret.one (fun cs => step_lone_go (by simp [stepG, stepG.exec, Frame.at])) (ih _ _ _ _ h f R F os tape output β L a w hf hgl hr hb hR)
    · exact Ret.one (fun cs => step_loop) (ih _ _ _ _ h f R F os tape output β L a w hf hgl hr hb hR)
    · exact Ret.one (fun cs => step_inLoop) (ih _ _ _ _ h f R F os tape output β L a w hf hgl hr hb hR)
    · split at h <;> try (cases h; done)
      rename_i k' hk
      exact Ret.one (fun cs => step_exit hk) (ih _ _ _ _ h f R F os tape output β L a w hf hgl hr hb hR)
    · split at h <;> try (cases h; done)
      · rename_i hc
        exact Ret.one (fun cs => step_cond (t := true) (nrm_evn hr hc)) (ih _ _ _ _ h f R F os tape output β L a w hf hgl hr hb hR)
      · rename_i hc
        exact Ret.one (fun cs => step_cond (t := false) (nrm_evn hr hc)) (ih _ _ _ _ h f R F os tape output β L a w hf hgl hr hb hR)
    · exact Ret.region (ih _ _ _ _ h f R F os tape output β L a w hf hgl hr hb hR)
    · rename_i ri ops k
      split at h <;> try (cases h; done)
      rename_i q hq
      split at h <;> try (cases h; done)
      rename_i hok
      split at h <;> try (cases h; done)
      rename_i hsel
      have hg := ig _ _ _ _ hq hb (heldOf_lt hb.mem hb.gm)
      have hr' : RelG ⟨P, f, fn, fn.ntmps, R, F, os, tape, output⟩ β s L a { w with drawn := w.drawn + 1 } := Rel.world hr rfl rfl rfl rfl
      refine Ret.code (wp_region_any hmix (wpX_any _ _ _ _ (S := heldS β (heldOf P ops s).1 (heldOf P ops s).2 (L.map (·.2) ++ F)) (late := isLateT q.plan) ?_))
      refine (plan_soundT hsel (fun c a w h => h) q.plan).1 _ _ a _ hok ?_
      refine ih _ _ _ _ hq f R F os tape output β L a _ hf hgl hr' hb β (Qn ⟨P, f, fn, fn.ntmps, R, F, os, tape, output⟩ k) (agree.refl _ _) (Nat.le_refl _) (heldOf_lt hb.mem hb.gm).1 (heldOf_lt hb.mem hb.gm).2 (fun h => h) ?_
      intro β' a' w' hag hr2
      exact ih _ _ _ _ h f R F os tape output β' L a' w' hf hgl hr2 (hg.grow.bd hb) (fun β'' h2 => hR β'' (hag.trans h2 hg.grow.nl))
    · split at h <;> try (cases h; done)
      rename_i vs hv
      split at h <;> cases h
      rename_i v ho
      exact ret_done hf hr (fun cs => step_ret) hv ho (hR β (agree.refl _ _))
    · split at h <;> try (cases h; done)
      rename_i vs hv
      split at h <;> cases h
      rename_i v ho
      exact ret_done hf hr (fun cs => step_end) hv ho (hR β (agree.refl _ _))
  | m + 1, fn, s, .ops all [] k, r, h => by
    have ih := gx_sound (P := P) (kn := kn) hex hjn hng hmix m
    intro f R F os tape output β L a w hf hgl hr hb hR
    simp only [gx] at h
    exact ih _ _ _ _ h f R F os tape output β L a w hf hgl hr hb hR
  | m + 1, fn, s, .ops all (o :: rest) k, r, h => by
    have ih := gx_sound (P := P) (kn := kn) hex hjn hng hmix m
    have ig := gx_grow (P := P) (kn := kn) hex m
    intro f R F os tape output β L a w hf hgl hr hb hR
    simp only [gx] at h
    split at h <;> try (cases h; done)
    · rename_i hg
      split at h <;> try (cases h; done)
      rename_i hd
      split at h <;> try (cases h; done)
      rename_i env hp
      have h1 : Grow s { s with env := env } := Grow.env (x := .c (.v undef)) (fun _ => trivial) hp
      exact OpsC.skipped (guardG_no hr hg) (ih _ _ _ _ h f R F os tape output β L _ w hf hgl (RelG.putE (x := .c (.v undef)) hr hd hp) (h1.bd hb) hR)
    · rename_i hg
      have hw := guardG_yes hr hg
      refine OpsC.wanted hw ?_
      split at h
      · rename_i x hx
        split at h <;> try (cases h; done)
        rename_i hd
        split at h <;> try (cases h; done)
        rename_i env hp
        have h1 : Grow s { s with env := env } := Grow.env (fun b => outV_lt (pureX_lt b.env b.mem b.gm o.op) hx) hp
        exact wp_value (outV_ok (pureX_ok hr o) hx) (ih _ _ _ _ h f R F os tape output β L _ w hf hgl (hr.putE hd hp) (h1.bd hb) hR)
      · split at h
        · rename_i v hv
          split at h <;> try (cases h; done)
          rename_i hd
          split at h <;> try (cases h; done)
          rename_i env hp
          have h1 : Grow s { s with env := env } := Grow.env (fun _ => ofV_lt _ v) hp
          have hgw : GlobW kn.gl w := (hgl (memSP β s.mem ++ (gmSP β s.gm ++ L.map (·.2))) w (by
            have := hr.sat'
            rw [List.append_assoc, List.append_assoc]
            exact this)).1
          refine wp_value (v := (ofV v).den β) ?_ (ih _ _ _ _ h f R F os tape output β L _ w hf hgl (hr.putE hd hp) (h1.bd hb) hR)
          rw [ofV_den]
          exact globX_ok hr hgw hv
        split at h
        · rename_i s' hs
          have h1 := effX_grow hs
          obtain ⟨β', a', w', hag, hr2, hwp⟩ := effX_step (g := ⟨P, f, fn, fn.ntmps, R, F, os, tape, output⟩) hr hb hs
          exact hwp _ _ (ih _ _ _ _ h f R F os tape output β' L a' w' hf hgl hr2 (h1.bd hb) (fun β'' h2 => hR β'' (hag.trans h2 h1.nl)))
        · split at h <;> try (cases h; done)
          rename_i f' vs hc
          split at h <;> try (cases h; done)
          rename_i hd
          have hrun0 := calleeG_ok hr hc
          split at h
          · rename_i x hx
            split at h <;> try (cases h; done)
            rename_i env hp
            have h1 : Grow s { s with env := env } := Grow.env (fun _ => (hex _ _ _ hx).1 _) hp
            rcases (hex _ _ _ hx).2 β with hv | hv
            · exact wp_value (hrun0.trans (hv w)) (ih _ _ _ _ h f R F os tape output β L _ w hf hgl (hr.putE hd hp) (h1.bd hb) hR)
            · show o.wp P a w _ _
              unfold Oper.wp
              rw [hrun0]
              show o.upon P a _ _ ((callFunc f' (vs.map (SV.den β)).toArray).run P w)
              rw [hv.1]
              have hpre : SatW (kn.pre ++ (memSP β s.mem ++ (gmSP β s.gm ++ (L.map (·.2) ++ F)))) w := by
                have h0 := (hgl (memSP β s.mem ++ (gmSP β s.gm ++ L.map (·.2))) w (by
                  have := hr.sat'
                  rw [List.append_assoc, List.append_assoc]
                  exact this)).2
                rw [List.append_assoc, List.append_assoc] at h0
                exact h0
              refine (hv.2 (memSP β s.mem ++ (gmSP β s.gm ++ (L.map (·.2) ++ F))) w hpre).mono ?_
              rintro e w' ⟨v, Q, rfl, rfl, e1, e2, e3, e4⟩
              have hr2 : RelG ⟨P, f, fn, fn.ntmps, R, F, os, tape, output⟩ β s L a w' := RelG.mk' hr.defers hr.size hr.env (e1.trans hr.os) (e2.trans hr.tape) (e3.trans hr.output) e4.app_right
              exact ih _ _ _ _ h f R F os tape output β L _ w' hf hgl (hr2.putE hd hp) (h1.bd hb) hR
          · split at h
            · rename_i b hjx
              split at h <;> try (cases h; done)
              rename_i env hp
              have h1 : Grow s { s with env := env } := Grow.env (x := .c (.v (.string _))) (fun _ => trivial) hp
              obtain ⟨hen, hcl⟩ := joinX_ok hr hjn hjx
              show o.wp P a w _ _
              unfold Oper.wp
              rw [hrun0]
              show o.upon P a _ _ ((callFunc f' (vs.map (SV.den β)).toArray).run P w)
              rw [hen]
              refine hcl.mono ?_
              rintro e w' ⟨rfl, hbw⟩
              have hle : PH.le (YtccmdlmlbkpjjaaGreatDoor.hw w) (YtccmdlmlbkpjjaaGreatDoor.hw w') := fun n o hn => by
                have hl : n < w.heap.size := (Array.getElem?_eq_some_iff.1 hn).1
                show w'.heap[n]? = some o
                rw [hbw.block n hl]; exact hn
              have hr2 : RelG ⟨P, f, fn, fn.ntmps, R, F, os, tape, output⟩ β s L a w' := RelG.mk' hr.defers hr.size hr.env (hbw.os.trans hr.os) (hbw.tape.trans hr.tape) (hbw.output.trans hr.output) (hr.sat'.more hle)
              exact ih _ _ _ _ h f R F os tape output β L _ w' hf hgl (RelG.putE (x := .c (.v (.string b))) hr2 hd hp) (h1.bd hb) hR
            split at h <;> try (cases h; done)
            rename_i fn' hf'
            split at h <;> try (cases h; done)
            rename_i c hbd
            split at h <;> try (cases h; done)
            rename_i hle
            split at h <;> try (cases h; done)
            rename_i q hq
            split at h <;> try (cases h; done)
            rename_i env hp
            have hl : ltE s.nl (argG 0 vs) := argG_lt vs 0 (calleeG_lt hb.env hc)
            have h1 := ig _ _ _ _ hq ⟨hl, hb.mem, hb.gm⟩ trivial
            have h2 : Grow s ⟨env, q.s.mem, q.s.gm, q.s.nl, minN s.low q.s.low⟩ := Grow.call (s := s) h1.grow (fun _ => hl) (fun b b' => (b.env.mono h1.grow.nl).putO (h1.v ⟨hl, b.mem, b.gm⟩) hp)
            have hle' : vs.length ≤ fn'.ntmps := by simpa using hle
            have hrel : RelG ⟨P, f', fn', fn'.ntmps, fun v Q => ∃ β', agree s.nl β β' ∧ v = q.v.den β' ∧ Q = memSP β' q.s.mem ++ (gmSP β' q.s.gm ++ []), L.map (·.2) ++ F, w.os, w.tape, w.output⟩ β ⟨argG 0 vs, s.mem, s.gm, s.nl, s.nl⟩ [] { tmps := (vs.map (SV.den β)).toArray ++ Array.replicate (fn'.ntmps - (vs.map (SV.den β)).toArray.size) undef, defers := [] } w := by
              refine RelG.mk' rfl (by simp; omega) ?_ rfl rfl rfl (by simpa using hr.sat')
              intro t x hx
              obtain ⟨_, h2⟩ := look_argG β vs 0 t x hx
              rw [Nat.sub_zero] at h2
              have hlt : t < (vs.map (SV.den β)).length := (List.getElem?_eq_some_iff.1 h2).1
              rw [Array.getElem?_append_left (by simpa using hlt)]
              simpa using h2
            have hcalls := calls_of_ret hf' hbd (ih _ _ _ _ hq f' _ _ _ _ _ β [] _ w hf' (Glob.app hgl) hrel ⟨hl, hb.mem, hb.gm⟩ (fun β' h3 => ⟨β', h3, rfl, rfl⟩))
            show o.wp P a w _ _
            unfold Oper.wp
            rw [hrun0]
            show o.upon P a _ _ ((callFunc f' (vs.map (SV.den β)).toArray).run P w)
            rw [callF_run hng hf' hbd]
            refine hcalls.mono ?_
            rintro e w' ⟨v, Q, rfl, ⟨β', hag, rfl, rfl⟩, e1, e2, e3, e4⟩
            have hr2 := (back hr hb hag (t := q.s) e1 e2 e3 e4).putE hd hp
            exact ih _ _ _ _ h f R F os tape output β' L _ w' hf hgl hr2 (h2.bd hb) (fun β'' h3 => hR β'' (hag.trans h3 h2.nl))
  | m + 1, fn, s, .dr all listed m0 g0 n0 hold, r, h => by
    have ih := gx_sound (P := P) (kn := kn) hex hjn hng hmix m
    have ig := gx_grow (P := P) (kn := kn) hex m
    intro f R F os tape output β L a w hf hgl hr hb β0 Q hag0 hn0 hm0 hg0 hsh hQ
    have hd1 : ltM s.nl m0 := hm0.mono hn0
    have hd2 : ltG s.nl g0 := hg0.mono hn0
    simp only [gx] at h
    split at h
    · cases h
      exact hQ β a w (agree.refl _ _) hr
    · split at h
      · rename_i pi env i hl
        split at h <;> cases h
        rename_i q hq
        have h1 := lookR_grow (fun _ => hd1) (fun _ => hd2) hl
        refine lookR_sound hgl hr hag0 hm0 hg0 (fun hh => heldIn_held (hsh hh) hr hag0 hm0 hg0) hl ?_
        intro a' hr2
        exact ih _ _ _ _ hq f R F os tape output β L a' w hf hgl hr2 (h1.bd hb) β0 Q hag0 hn0 hm0 hg0 hsh (fun β' a'' w' h2 h3 => hQ β' a'' w' h2 h3)
      · exact ih _ _ _ _ h f R F os tape output β L a w hf hgl hr hb β0 Q hag0 hn0 hm0 hg0 hsh hQ false
  | m + 1, fn, s, .al cands all listed m0 g0 n0 hold, r, h => by
    have ih := gx_sound (P := P) (kn := kn) hex hjn hng hmix m
    have ig := gx_grow (P := P) (kn := kn) hex m
    intro f R F os tape output β L a w hf hgl hr hb β0 Q hag0 hn0 hm0 hg0 hsh hQ
    have hd1 : ltM s.nl m0 := hm0.mono hn0
    have hd2 : ltG s.nl g0 := hg0.mono hn0
    simp only [gx] at h
    split at h <;> try (cases h; done)
    rename_i i cs
    split at h <;> try (cases h; done)
    rename_i e he
    split at h <;> try (cases h; done)
    rename_i q hq
    have hb0 : Bd { s with low := s.nl } := ⟨hb.env, hb.mem, hb.gm⟩
    have h0 := (ig _ _ _ _ he hb0 trivial).grow
    have h1 : Grow s { e.s with low := minN s.low e.s.low } := Grow.lowered h0
    have step : ∀ (hQ' : ∀ β' a' w', agree s.nl β β' → RelG ⟨P, f, fn, fn.ntmps, R, F, os, tape, output⟩ β' q.s L a' w' → Q .normal a' w'),
        ∃ o, all[i]? = some o ∧ Region.wanted o (yielded all a.tmps) = true ∧ o.wp P a w (fun a' w' => ((keepIn hold m0 g0 e.s) = true → heldS β0 m0 g0 (L.map (·.2) ++ F) w → heldS β0 m0 g0 (L.map (·.2) ++ F) w') ∧ planRunT P all Q (heldS β0 m0 g0 (L.map (·.2) ++ F)) q.plan false a' w') Q := by
      intro hQ'
      obtain ⟨o, ho, hw, hwp⟩ := ih _ _ _ _ he f R F os tape output β L a w hf hgl (hr : RelG _ β { s with low := s.nl } L a w) hb0
      refine ⟨o, ho, hw, hwp _ _ ?_⟩
      intro β' a' w' hag hr2
      have hag' : agree n0 β0 β' := hag0.trans hag hn0
      have hsh' : (keepIn hold m0 g0 e.s) = true → heldIn m0 g0 { e.s with low := minN s.low e.s.low } = true := by
        intro hk
        unfold keepIn at hk
        split at hk
        · exact hk
        · cases hk
      have hr3 : RelG ⟨P, f, fn, fn.ntmps, R, F, os, tape, output⟩ β' { e.s with low := minN s.low e.s.low } L a' w' := hr2
      refine ⟨fun hk _ => heldIn_held (hsh' hk) hr3 hag' hm0 hg0, ?_⟩
      exact ih _ _ _ _ hq f R F os tape output β' L a' w' hf hgl hr3 (h1.bd hb) β0 Q hag' (Nat.le_trans hn0 h1.nl) hm0 hg0 hsh' (fun β'' a'' w'' h2 h3 => hQ' β'' a'' w'' (agree.trans hag h2 h1.nl) h3)
    split at h
    · cases h
      intro b
      exact ⟨step hQ, trivial⟩
    · split at h <;> try (cases h; done)
      rename_i q2 hq2
      split at h <;> cases h
      rename_i hs
      intro b
      refine ⟨step hQ, ?_⟩
      refine ih _ _ _ _ hq2 f R F os tape output β L a w hf hgl hr hb β0 Q hag0 hn0 hm0 hg0 hsh ?_ true
      intro β' a' w' hag hr2
      obtain ⟨h3, h4⟩ := sameS_ok hs hr2
      exact hQ _ a' w' (hag.trans h4 (Nat.le_refl _)) h3
  | m + 1, fn, s, .ef all i, r, h => by
    have ih := gx_sound (P := P) (kn := kn) hex hjn hng hmix m
    have ig := gx_grow (P := P) (kn := kn) hex m
    intro f R F os tape output β L a w hf hgl hr hb
    simp only [gx] at h
    split at h <;> try (cases h; done)
    rename_i o ho
    have ho' : all[i]? = some o := by rw [getL_eq, Array.getElem?_toList] at ho; exact ho
    split at h <;> try (cases h; done)
    rename_i hgd
    have hw := guardG_yes hr hgd
    split at h
    · rename_i s' hs
      cases h
      obtain ⟨β', a', w', hag, hr2, hwp⟩ := effX_step (g := ⟨P, f, fn, fn.ntmps, R, F, os, tape, output⟩) hr hb hs
      exact ⟨o, ho', hw, fun N Q hN => hwp _ _ (hN β' a' w' hag hr2)⟩
    · split at h <;> try (cases h; done)
      rename_i f' vs hc
      split at h <;> try (cases h; done)
      rename_i hd
      split at h <;> try (cases h; done)
      rename_i fn' hf'
      have hrun0 := calleeG_ok hr hc
      split at h <;> try (cases h; done)
      rename_i c hbd
      split at h <;> try (cases h; done)
      rename_i hle
      split at h <;> try (cases h; done)
      rename_i q hq
      split at h <;> cases h
      rename_i env hp
      have hl : ltE s.nl (argG 0 vs) := argG_lt vs 0 (calleeG_lt hb.env hc)
      have hle' : vs.length ≤ fn'.ntmps := by simpa using hle
      have hrel : RelG ⟨P, f', fn', fn'.ntmps, fun v Q => ∃ β', agree s.nl β β' ∧ v = q.v.den β' ∧ Q = memSP β' q.s.mem ++ (gmSP β' q.s.gm ++ []), L.map (·.2) ++ F, w.os, w.tape, w.output⟩ β ⟨argG 0 vs, s.mem, s.gm, s.nl, s.nl⟩ [] { tmps := (vs.map (SV.den β)).toArray ++ Array.replicate (fn'.ntmps - (vs.map (SV.den β)).toArray.size) undef, defers := [] } w := by
        refine RelG.mk' rfl (by simp; omega) ?_ rfl rfl rfl (by simpa using hr.sat')
        intro t x hx
        obtain ⟨_, h2⟩ := look_argG β vs 0 t x hx
        rw [Nat.sub_zero] at h2
        have hlt : t < (vs.map (SV.den β)).length := (List.getElem?_eq_some_iff.1 h2).1
        rw [Array.getElem?_append_left (by simpa using hlt)]
        simpa using h2
      have hcalls := calls_of_ret hf' hbd (ih _ _ _ _ hq f' _ _ _ _ _ β [] _ w hf' (Glob.app hgl) hrel ⟨hl, hb.mem, hb.gm⟩ (fun β' h3 => ⟨β', h3, rfl, rfl⟩))
      refine ⟨o, ho', hw, fun N Q hN => ?_⟩
      show o.wp P a w _ _
      unfold Oper.wp
      rw [hrun0]
      show o.upon P a _ _ ((callFunc f' (vs.map (SV.den β)).toArray).run P w)
      rw [callF_run hng hf' hbd]
      refine hcalls.mono ?_
      rintro e w' ⟨v, Q', rfl, ⟨β', hag, rfl, rfl⟩, e1, e2, e3, e4⟩
      exact hN β' _ w' hag ((back hr hb hag (t := q.s) e1 e2 e3 e4).putE hd hp)
end Go.Proofs.YtccmdlmlbkpjjaaGreatDoor

/- The evaluator's word on a whole call. -/
namespace Go.Proofs.YtccmdlmlbkpjjaaGreatDoor
open Go.RowKit

/-- What is true. -/
def isTrueSV : SV → Bool
  | .c (.v (.bool b)) => b
  | .kb b => b
  | _ => false
theorem isTrueSV_den {x : SV} (h : isTrueSV x = true) (β : Nat → Nat) : x.den β = .bool true := by
  unfold isTrueSV at h
  split at h
  · subst h; rfl
  · subst h; rfl
  · cases h
def gxFn (P : Program) (kn : Kn) (m : Nat) (f : Nat) (vs : List SV) : Option GR :=
  match P.funcs[f]? with
  | some fn => match fn.body with
    | some c => match Nat.ble vs.length fn.ntmps with
      | true => gx P kn m fn ⟨argG 0 vs, [], [], 0, 0⟩ (.run [.code c])
      | false => none
    | none => none
  | none => none
def gxTrue (P : Program) (kn : Kn) (m : Nat) (f : Nat) (vs : List SV) : Bool :=
  match gxFn P kn m f vs with
  | some r => isTrueSV r.v
  | none => false
/-- No function that the machine runs by itself. -/
def noNg (P : Program) : Bool := P.funcs.toList.all fun fn => !(fn.name == "runtime.NumGoroutine")
theorem noNg_ok {P : Program} (h : noNg P = true) (f : Nat) (fn : Func) (hf : P.funcs[f]? = some fn) : (fn.name == "runtime.NumGoroutine") = false := by
  have := List.all_eq_true.1 h fn (by
    have := List.mem_of_getElem? (l := P.funcs.toList) (i := f) (a := fn) (by simpa using hf)
    exact this)
  simpa using this

/-- What holds as the call begins has the variables in it, and what stays. -/
def GlobP (gl : Gl) (pre : List SP) (Pre : List SP) : Prop := ∀ F, Glob gl pre (Pre ++ F)
theorem GlobP.nil (Pre : List SP) : GlobP [] [] Pre := fun F => Glob.nil _
/-- A memory that stays, with the variables in it. -/
theorem GlobP.ro {gl : Gl} {m : PH} (h : ∀ e ∈ gl, blkAt m e.1 e.2) : GlobP gl [roAll m] [roAll m] := by
  intro F X w hs
  have h1 : SatW (roAll m :: (X ++ F)) w := hs.perm List.perm_middle
  refine ⟨fun e he => (h e he).mono h1.stays, ?_⟩
  have h2 := h1.dup (pers_roAll m)
  exact h2.perm (List.Perm.cons _ List.perm_middle.symm)
theorem gxFn_ok {P : Program} {kn : Kn} (hex : ExOk P kn.ex kn.pre) (hjn : JnOk P kn.jn) (hng : noNg P = true) (hmix : P.follows .mixedOrders = true) {m f : Nat} {vs : List SV} {r : GR} (h : gxFn P kn m f vs = some r) (hl : ∀ v ∈ vs, v.lt 0) (Pre : List SP) (hgl : GlobP kn.gl kn.pre Pre) :
    FnOk P f (vs.map (SV.den fun _ => 0)) Pre fun v Q => ∃ β, v = r.v.den β ∧ Q = memSP β r.s.mem ++ (gmSP β r.s.gm ++ Pre) := by
  unfold gxFn at h
  split at h <;> try (cases h; done)
  rename_i fn hf
  split at h <;> try (cases h; done)
  rename_i c hb
  split at h <;> try (cases h; done)
  rename_i hle
  have hle' : vs.length ≤ fn.ntmps := by simpa using hle
  refine ⟨callF_run (noNg_ok hng) hf hb, fun F w hs => ?_⟩
  have hb0 : Bd ⟨argG 0 vs, [], [], 0, 0⟩ := ⟨argG_lt vs 0 hl, (fun _ h => (by cases h)), (fun _ h => (by cases h))⟩
  have hrel : RelG ⟨P, f, fn, fn.ntmps, fun v Q => ∃ β, v = r.v.den β ∧ Q = memSP β r.s.mem ++ (gmSP β r.s.gm ++ []), Pre ++ F, w.os, w.tape, w.output⟩ (fun _ => 0) ⟨argG 0 vs, [], [], 0, 0⟩ [] { tmps := (vs.map (SV.den fun _ => 0)).toArray ++ Array.replicate (fn.ntmps - (vs.map (SV.den fun _ => 0)).toArray.size) undef, defers := [] } w := by
    refine RelG.mk' rfl (by simp; omega) ?_ rfl rfl rfl ?_
    · intro t x hx
      obtain ⟨_, h2⟩ := look_argG (fun _ => 0) vs 0 t x hx
      rw [Nat.sub_zero] at h2
      have hlt : t < (vs.map (SV.den fun _ => 0)).length := (List.getElem?_eq_some_iff.1 h2).1
      rw [Array.getElem?_append_left (by simpa using hlt)]
      simpa using h2
    · simpa [memSP, gmSP] using hs
  refine (calls_of_ret hf hb (gx_sound hex hjn (noNg_ok hng) hmix m fn _ _ _ h f _ _ _ _ _ _ _ _ _ hf (hgl F) hrel hb0 fun β' _ => ⟨β', rfl, rfl⟩)).mono ?_
  rintro e w' ⟨v, Q, rfl, ⟨β, rfl, rfl⟩, e1, e2, e3, e4⟩
  refine ⟨_, _, rfl, ⟨β, rfl, rfl⟩, e1, e2, e3, ?_⟩
  rw [List.append_nil] at e4
  simpa using e4

theorem gxTrue_ok {P : Program} {kn : Kn} (hex : ExOk P kn.ex kn.pre) (hjn : JnOk P kn.jn) (hng : noNg P = true) (hmix : P.follows .mixedOrders = true) {m f : Nat} {vs : List SV} (h : gxTrue P kn m f vs = true) (hl : ∀ v ∈ vs, v.lt 0) (Pre : List SP) (hgl : GlobP kn.gl kn.pre Pre) :
    FnOk P f (vs.map (SV.den fun _ => 0)) Pre fun v _ => v = .bool true := by
  unfold gxTrue at h
  split at h
  · rename_i r hr
    exact (gxFn_ok hex hjn hng hmix hr hl Pre hgl).mono fun v Q ⟨β, h1, _⟩ => h1.trans (isTrueSV_den h β)
  · cases h
end Go.Proofs.YtccmdlmlbkpjjaaGreatDoor

/-
  DERIVED: THE SHELF's CONTRACTS AT THIS DUMP, IN PLAIN WORDS (tools/lay-plain.mjs out of 'TryzShelf.lean', which tools/lay-shelf.mjs wrote): THE SAME DECLARATIONS UNDER THE SAME NAMES: 'import', 'namespace', 'open', 'def', 'theorem' AND NOTHING ELSE: no command of the shelf's: FOR A HAND-IN. Each laying: the table of numbers ('.._ren') and one theorem, a field a fact of the dump's own or the kernel's comparison; each contract: ONE APPLICATION.
-/
namespace Go.Proofs
open Go.Shelf
def Tryz.lays156_ren : Go.Shelf.Ren := ⟨fun | 156 => 58 | 165 => 110 | 166 => 111 | 169 => 112 | 240 => 140 | 241 => 141 | 276 => 174 | 277 => 175 | n => n, fun | 31 => 39 | 9 => 9 | 3 => 3 | 4 => 4 | 0 => 0 | 20 => 20 | 72 => 191 | 76 => 67 | 70 => 189 | 37 => 180 | 75 => 27 | 127 => 269 | 164 => 296 | 5 => 5 | 80 => 194 | n => n, fun | n => n⟩
theorem Tryz.lays156 : Go.Proofs.Lays.n156 Tryz.prog Tryz.lays156_ren := {
  mixed := by kernel_rfl
  f156 := Tryz.func58.trans (congrArg some (by kernel_rfl))
  f165 := Tryz.func110.trans (congrArg some (by kernel_rfl))
  f166 := Tryz.func111.trans (congrArg some (by kernel_rfl))
  f169 := Tryz.func112.trans (congrArg some (by kernel_rfl))
  f240 := Tryz.func140.trans (congrArg some (by kernel_rfl))
  f241 := Tryz.func141.trans (congrArg some (by kernel_rfl))
  f276 := Tryz.func174.trans (congrArg some (by kernel_rfl))
  f277 := Tryz.func175.trans (congrArg some (by kernel_rfl))
  t0 := Tryz.underlying0
  a0 := Tryz.isAgg0
  z0 := Tryz.sizeOf0
  v0 := Tryz.zeroValue0
  t3 := Tryz.underlying3
  a3 := Tryz.isAgg3
  z3 := Tryz.sizeOf3
  v3 := Tryz.zeroValue3
  t4 := Tryz.underlying4
  a4 := Tryz.isAgg4
  z4 := Tryz.sizeOf4
  v4 := Tryz.zeroValue4
  t9 := Tryz.underlying9
  a9 := Tryz.isAgg9
  z9 := Tryz.sizeOf9
  v9 := Tryz.zeroValue9
  t20 := Tryz.underlying20
  a20 := Tryz.isAgg20
  z20 := Tryz.sizeOf20
  v20 := Tryz.zeroValue20
  t31 := Tryz.underlying39
  a31 := Tryz.isAgg39
  z31 := Tryz.sizeOf39
  v31 := Tryz.zeroValue39
  t37 := Tryz.underlying180
  a37 := Tryz.isAgg180
  z37 := Tryz.sizeOf180
  v37 := Tryz.zeroValue180
  t70 := Tryz.underlying189
  a70 := Tryz.isAgg189
  z70 := Tryz.sizeOf189
  v70 := Tryz.zeroValue189
  t72 := Tryz.underlying191
  a72 := Tryz.isAgg191
  z72 := Tryz.sizeOf191
  v72 := Tryz.zeroValue191
  t75 := Tryz.underlying27
  a75 := Tryz.isAgg27
  z75 := Tryz.sizeOf27
  v75 := Tryz.zeroValue27
  t76 := Tryz.underlying67
  a76 := Tryz.isAgg67
  z76 := Tryz.sizeOf67
  v76 := Tryz.zeroValue67
  t127 := Tryz.underlying269
  a127 := Tryz.isAgg269
  z127 := Tryz.sizeOf269
  v127 := Tryz.zeroValue269
  t164 := Tryz.underlying296
  a164 := Tryz.isAgg296
  z164 := Tryz.sizeOf296
  v164 := Tryz.zeroValue296 }
theorem Tryz.Builder_Extra_156 : Builder.Extra Tryz.prog Tryz.lays156_ren := {
  sizeBuilder := by kernel_rfl
  liesBuilder := by kernel_rfl
  t5 := Tryz.underlying5
  a5 := Tryz.isAgg5
  z5 := Tryz.sizeOf5
  v5 := Tryz.zeroValue5
  infoByte := by kernel_rfl
  cellsByte := by kernel_rfl
  sizeByte := by kernel_rfl
  neB5 := by decide }
open Go.RowKit in
/-- No element: the empty string; the world is as it was. (Whatever the slice's address and capacity: a nil slice too.) (LAID: no walk: one application.) -/
theorem Tryz.strings_Join_none (a : Option Addr) (c : Nat) (sep : ByteArray) (w : World) :
    Calls Tryz.prog 58 #[.slice a 0 c, .string sep] w fun e w' => e = .returned (.string ⟨#[]⟩) ∧ w' = w := Any.strings_Join_none Tryz.lays156 Tryz.Builder_Extra_156 a c sep w
open Go.RowKit in
/-- strings.Join: "Join concatenates the elements of its first argument to create a single string. The separator string sep is placed between elements in the resulting string.": HOWEVER MANY ELEMENTS. Below the heap's end the world is as it was. (LAID: no walk: one application.) -/
theorem Tryz.strings_Join (bk o c : Nat) (xs : List ByteArray) (sep : ByteArray) (w : World) (hcells : ∀ (j : Nat) x, xs[j]? = some x → w.cell? ⟨bk, o + j, none⟩ = some (.string x)) (hbk : bk < w.heap.size) (hN : xs.length ≤ 140737488355328) (hcap : xs.length ≤ c) (hlen : (Lib.join (xs.map (·.data.toList)) sep.data.toList).length ≤ 140737488355328) :
    Calls Tryz.prog 58 #[.slice (some ⟨bk, o, none⟩) xs.length c, .string sep] w fun e w' => e = .returned (.string ⟨(Lib.join (xs.map (·.data.toList)) sep.data.toList).toArray⟩) ∧ Below w.heap.size w w' := Any.strings_Join Tryz.lays156 Tryz.Builder_Extra_156 bk o c xs sep w hcells hbk hN hcap hlen
def Tryz.laysM173_ren : Go.Shelf.Ren := ⟨fun | 173 => 106 | 246 => 139 | 283 => 170 | 284 => 171 | 285 => 172 | 286 => 173 | 129 => 192 | 317 => 191 | 318 => 193 | 319 => 194 | 320 => 154 | 337 => 187 | 338 => 188 | n => n, fun | 2 => 2 | 3 => 3 | 9 => 9 | 4 => 4 | 171 => 290 | 0 => 0 | 53 => 291 | 37 => 180 | 5 => 5 | 173 => 294 | 212 => 312 | 51 => 305 | 20 => 20 | 213 => 313 | 46 => 275 | 232 => 321 | 233 => 322 | n => n, fun | 17 => 4 | 18 => 6 | 19 => 7 | n => n⟩
theorem Tryz.laysM173 : Go.Proofs.LaysM.n173 Tryz.prog Tryz.laysM173_ren := {
  mixed := by kernel_rfl
  f129 := Tryz.func192.trans (congrArg some (by kernel_rfl))
  f173 := Tryz.func106.trans (congrArg some (by kernel_rfl))
  f246 := Tryz.func139.trans (congrArg some (by kernel_rfl))
  f283 := Tryz.func170.trans (congrArg some (by kernel_rfl))
  f284 := Tryz.func171.trans (congrArg some (by kernel_rfl))
  f285 := Tryz.func172.trans (congrArg some (by kernel_rfl))
  f286 := Tryz.func173.trans (congrArg some (by kernel_rfl))
  f317 := Tryz.func191.trans (congrArg some (by kernel_rfl))
  f318 := Tryz.func193.trans (congrArg some (by kernel_rfl))
  f319 := Tryz.func194.trans (congrArg some (by kernel_rfl))
  f320 := Tryz.func154.trans (congrArg some (by kernel_rfl))
  f337 := Tryz.func187.trans (congrArg some (by kernel_rfl))
  f338 := Tryz.func188.trans (congrArg some (by kernel_rfl))
  t0 := Tryz.underlying0
  a0 := Tryz.isAgg0
  z0 := Tryz.sizeOf0
  v0 := Tryz.zeroValue0
  t2 := Tryz.underlying2
  a2 := Tryz.isAgg2
  z2 := Tryz.sizeOf2
  v2 := Tryz.zeroValue2
  t3 := Tryz.underlying3
  a3 := Tryz.isAgg3
  z3 := Tryz.sizeOf3
  v3 := Tryz.zeroValue3
  t4 := Tryz.underlying4
  a4 := Tryz.isAgg4
  z4 := Tryz.sizeOf4
  v4 := Tryz.zeroValue4
  t5 := Tryz.underlying5
  a5 := Tryz.isAgg5
  z5 := Tryz.sizeOf5
  v5 := Tryz.zeroValue5
  t9 := Tryz.underlying9
  a9 := Tryz.isAgg9
  z9 := Tryz.sizeOf9
  v9 := Tryz.zeroValue9
  t20 := Tryz.underlying20
  a20 := Tryz.isAgg20
  z20 := Tryz.sizeOf20
  v20 := Tryz.zeroValue20
  t37 := Tryz.underlying180
  a37 := Tryz.isAgg180
  z37 := Tryz.sizeOf180
  v37 := Tryz.zeroValue180
  t46 := Tryz.underlying275
  a46 := Tryz.isAgg275
  z46 := Tryz.sizeOf275
  v46 := Tryz.zeroValue275
  t51 := Tryz.underlying305
  a51 := Tryz.isAgg305
  z51 := Tryz.sizeOf305
  v51 := Tryz.zeroValue305
  t53 := Tryz.underlying291
  a53 := Tryz.isAgg291
  z53 := Tryz.sizeOf291
  v53 := Tryz.zeroValue291
  t171 := Tryz.underlying290
  a171 := Tryz.isAgg290
  z171 := Tryz.sizeOf290
  v171 := Tryz.zeroValue290
  t173 := Tryz.underlying294
  a173 := Tryz.isAgg294
  z173 := Tryz.sizeOf294
  v173 := Tryz.zeroValue294
  t212 := Tryz.underlying312
  a212 := Tryz.isAgg312
  z212 := Tryz.sizeOf312
  v212 := Tryz.zeroValue312
  t213 := Tryz.underlying313
  a213 := Tryz.isAgg313
  z213 := Tryz.sizeOf313
  t232 := Tryz.underlying321
  a232 := Tryz.isAgg321
  z232 := Tryz.sizeOf321
  v232 := Tryz.zeroValue321
  t233 := Tryz.underlying322
  a233 := Tryz.isAgg322
  z233 := Tryz.sizeOf322
  v233 := Tryz.zeroValue322
  g17 := by kernel_rfl
  g18 := by kernel_rfl
  g19 := by kernel_rfl
  i0 := by kernel_rfl
  i2 := by kernel_rfl
  i3 := by kernel_rfl
  i4 := by kernel_rfl
  i5 := by kernel_rfl
  i9 := by kernel_rfl
  i20 := by kernel_rfl
  i37 := by kernel_rfl
  i46 := by kernel_rfl
  i51 := by kernel_rfl
  i53 := by kernel_rfl
  i171 := by kernel_rfl
  i173 := by kernel_rfl
  i212 := by kernel_rfl
  i232 := by kernel_rfl
  i233 := by kernel_rfl
  m17 := by kernel_rfl
  m18 := by kernel_rfl
  m19 := by kernel_rfl }
open Go.RowKit Go.Sort Go.Lib in
/-- strconv.FormatInt: "FormatInt returns the string representation of i in the given base": AT BASE 10: i's decimal numeral, for every int64. (LAID: no walk: one application.) -/
theorem Tryz.strconv_FormatInt_10 (n : Int) (h0 : -9223372036854775808 ≤ n) (h1 : n ≤ 9223372036854775807) (w : World) (htab : Lib.TabIs Tryz.prog w "internal/strconv.uint64pow10" .u64 Lib.pow10Tab) :
    Calls Tryz.prog 106 #[.int .i64 n, .int .i64 10] w fun e w' => e = .returned (.string ⟨(Lib.itoa n).toArray⟩) ∧ ∃ k os, w' = grow (w.drewN k) os := Any.strconv_FormatInt_10 Tryz.laysM173 n h0 h1 w htab
def Tryz.laysC174_ren : Go.Shelf.Ren := ⟨fun | 174 => 152 | 247 => 185 | 245 => 186 | 287 => 202 | 279 => 203 | 280 => 204 | 281 => 205 | 282 => 206 | 321 => 211 | 322 => 212 | 316 => 213 | 171 => 215 | 205 => 214 | 243 => 218 | 246 => 139 | 283 => 170 | 284 => 171 | 285 => 172 | 286 => 173 | 129 => 192 | 317 => 191 | 318 => 193 | 319 => 194 | 320 => 154 | 337 => 187 | 338 => 188 | n => n, fun | 9 => 9 | 3 => 3 | 2 => 2 | 75 => 27 | 85 => 170 | 4 => 4 | 167 => 315 | 5 => 5 | 53 => 291 | 175 => 316 | 46 => 275 | 168 => 318 | 37 => 180 | 0 => 0 | 210 => 335 | 21 => 21 | 127 => 269 | 145 => 340 | 143 => 338 | 171 => 290 | 173 => 294 | 212 => 312 | 51 => 305 | 20 => 20 | 213 => 313 | 232 => 321 | 233 => 322 | 80 => 194 | n => n, fun | 15 => 10 | 16 => 11 | 17 => 4 | 18 => 6 | 19 => 7 | n => n⟩
theorem Tryz.laysC174 : Go.Proofs.LaysC.n174 Tryz.prog Tryz.laysC174_ren := {
  mixed := by kernel_rfl
  f129 := Tryz.func192.trans (congrArg some (by kernel_rfl))
  f171 := Tryz.func215.trans (congrArg some (by kernel_rfl))
  f174 := Tryz.func152.trans (congrArg some (by kernel_rfl))
  f205 := Tryz.func214.trans (congrArg some (by kernel_rfl))
  f243 := Tryz.func218.trans (congrArg some (by kernel_rfl))
  f245 := Tryz.func186.trans (congrArg some (by kernel_rfl))
  f246 := Tryz.func139.trans (congrArg some (by kernel_rfl))
  f247 := Tryz.func185.trans (congrArg some (by kernel_rfl))
  f279 := Tryz.func203.trans (congrArg some (by kernel_rfl))
  f280 := Tryz.func204.trans (congrArg some (by kernel_rfl))
  f281 := Tryz.func205.trans (congrArg some (by kernel_rfl))
  f282 := Tryz.func206.trans (congrArg some (by kernel_rfl))
  f283 := Tryz.func170.trans (congrArg some (by kernel_rfl))
  f284 := Tryz.func171.trans (congrArg some (by kernel_rfl))
  f285 := Tryz.func172.trans (congrArg some (by kernel_rfl))
  f286 := Tryz.func173.trans (congrArg some (by kernel_rfl))
  f287 := Tryz.func202.trans (congrArg some (by kernel_rfl))
  f316 := Tryz.func213.trans (congrArg some (by kernel_rfl))
  f317 := Tryz.func191.trans (congrArg some (by kernel_rfl))
  f318 := Tryz.func193.trans (congrArg some (by kernel_rfl))
  f319 := Tryz.func194.trans (congrArg some (by kernel_rfl))
  f320 := Tryz.func154.trans (congrArg some (by kernel_rfl))
  f321 := Tryz.func211.trans (congrArg some (by kernel_rfl))
  f322 := Tryz.func212.trans (congrArg some (by kernel_rfl))
  f337 := Tryz.func187.trans (congrArg some (by kernel_rfl))
  f338 := Tryz.func188.trans (congrArg some (by kernel_rfl))
  t0 := Tryz.underlying0
  a0 := Tryz.isAgg0
  z0 := Tryz.sizeOf0
  v0 := Tryz.zeroValue0
  t2 := Tryz.underlying2
  a2 := Tryz.isAgg2
  z2 := Tryz.sizeOf2
  v2 := Tryz.zeroValue2
  t3 := Tryz.underlying3
  a3 := Tryz.isAgg3
  z3 := Tryz.sizeOf3
  v3 := Tryz.zeroValue3
  t4 := Tryz.underlying4
  a4 := Tryz.isAgg4
  z4 := Tryz.sizeOf4
  v4 := Tryz.zeroValue4
  t5 := Tryz.underlying5
  a5 := Tryz.isAgg5
  z5 := Tryz.sizeOf5
  v5 := Tryz.zeroValue5
  t9 := Tryz.underlying9
  a9 := Tryz.isAgg9
  z9 := Tryz.sizeOf9
  v9 := Tryz.zeroValue9
  t20 := Tryz.underlying20
  a20 := Tryz.isAgg20
  z20 := Tryz.sizeOf20
  v20 := Tryz.zeroValue20
  t21 := Tryz.underlying21
  a21 := Tryz.isAgg21
  z21 := Tryz.sizeOf21
  v21 := Tryz.zeroValue21
  t37 := Tryz.underlying180
  a37 := Tryz.isAgg180
  z37 := Tryz.sizeOf180
  v37 := Tryz.zeroValue180
  t46 := Tryz.underlying275
  a46 := Tryz.isAgg275
  z46 := Tryz.sizeOf275
  v46 := Tryz.zeroValue275
  t51 := Tryz.underlying305
  a51 := Tryz.isAgg305
  z51 := Tryz.sizeOf305
  v51 := Tryz.zeroValue305
  t53 := Tryz.underlying291
  a53 := Tryz.isAgg291
  z53 := Tryz.sizeOf291
  v53 := Tryz.zeroValue291
  t75 := Tryz.underlying27
  a75 := Tryz.isAgg27
  z75 := Tryz.sizeOf27
  v75 := Tryz.zeroValue27
  t85 := Tryz.underlying170
  a85 := Tryz.isAgg170
  z85 := Tryz.sizeOf170
  v85 := Tryz.zeroValue170
  t127 := Tryz.underlying269
  a127 := Tryz.isAgg269
  z127 := Tryz.sizeOf269
  v127 := Tryz.zeroValue269
  t143 := Tryz.underlying338
  a143 := Tryz.isAgg338
  z143 := Tryz.sizeOf338
  v143 := Tryz.zeroValue338
  t145 := Tryz.underlying340
  a145 := Tryz.isAgg340
  z145 := Tryz.sizeOf340
  v145 := Tryz.zeroValue340
  t167 := Tryz.underlying315
  a167 := Tryz.isAgg315
  z167 := Tryz.sizeOf315
  v167 := Tryz.zeroValue315
  t168 := Tryz.underlying318
  a168 := Tryz.isAgg318
  z168 := Tryz.sizeOf318
  v168 := Tryz.zeroValue318
  t171 := Tryz.underlying290
  a171 := Tryz.isAgg290
  z171 := Tryz.sizeOf290
  v171 := Tryz.zeroValue290
  t173 := Tryz.underlying294
  a173 := Tryz.isAgg294
  z173 := Tryz.sizeOf294
  v173 := Tryz.zeroValue294
  t175 := Tryz.underlying316
  a175 := Tryz.isAgg316
  z175 := Tryz.sizeOf316
  v175 := Tryz.zeroValue316
  t210 := Tryz.underlying335
  a210 := Tryz.isAgg335
  z210 := Tryz.sizeOf335
  v210 := Tryz.zeroValue335
  t212 := Tryz.underlying312
  a212 := Tryz.isAgg312
  z212 := Tryz.sizeOf312
  v212 := Tryz.zeroValue312
  t213 := Tryz.underlying313
  a213 := Tryz.isAgg313
  z213 := Tryz.sizeOf313
  t232 := Tryz.underlying321
  a232 := Tryz.isAgg321
  z232 := Tryz.sizeOf321
  v232 := Tryz.zeroValue321
  t233 := Tryz.underlying322
  a233 := Tryz.isAgg322
  z233 := Tryz.sizeOf322
  v233 := Tryz.zeroValue322
  g15 := by kernel_rfl
  g16 := by kernel_rfl
  g17 := by kernel_rfl
  g18 := by kernel_rfl
  g19 := by kernel_rfl
  t80 := Tryz.underlying194
  a80 := Tryz.isAgg194
  z80 := Tryz.sizeOf194
  v80 := Tryz.zeroValue194
  i0 := by kernel_rfl
  i2 := by kernel_rfl
  i3 := by kernel_rfl
  i4 := by kernel_rfl
  i5 := by kernel_rfl
  i9 := by kernel_rfl
  i20 := by kernel_rfl
  i21 := by kernel_rfl
  i37 := by kernel_rfl
  i46 := by kernel_rfl
  i51 := by kernel_rfl
  i53 := by kernel_rfl
  i75 := by kernel_rfl
  i80 := by kernel_rfl
  i85 := by kernel_rfl
  i127 := by kernel_rfl
  i143 := by kernel_rfl
  i145 := by kernel_rfl
  i167 := by kernel_rfl
  i168 := by kernel_rfl
  i171 := by kernel_rfl
  i173 := by kernel_rfl
  i175 := by kernel_rfl
  i210 := by kernel_rfl
  i212 := by kernel_rfl
  i232 := by kernel_rfl
  i233 := by kernel_rfl
  m15 := by kernel_rfl
  m16 := by kernel_rfl
  m17 := by kernel_rfl
  m18 := by kernel_rfl
  m19 := by kernel_rfl
  c0 := by kernel_rfl
  c2 := by kernel_rfl
  c3 := by kernel_rfl
  c4 := by kernel_rfl
  c5 := by kernel_rfl
  c9 := by kernel_rfl
  c20 := by kernel_rfl
  c21 := by kernel_rfl
  c37 := by kernel_rfl
  c46 := by kernel_rfl
  c51 := by kernel_rfl
  c53 := by kernel_rfl
  c75 := by kernel_rfl
  c80 := by kernel_rfl
  c85 := by kernel_rfl
  c127 := by kernel_rfl
  c143 := by kernel_rfl
  c145 := by kernel_rfl
  c167 := by kernel_rfl
  c168 := by kernel_rfl
  c171 := by kernel_rfl
  c173 := by kernel_rfl
  c175 := by kernel_rfl
  c210 := by kernel_rfl
  c212 := by kernel_rfl
  c213 := by kernel_rfl
  c232 := by kernel_rfl
  c233 := by kernel_rfl }
open Go.RowKit in
/-- strconv.ParseInt(s, 10, 64), AT EVERY STRING THAT SPELLS AN int64 ('Lib.parseIntB 64 s.data.toList = .ok v'): v, AND NO ERROR. (LAID: no walk: one application.) -/
theorem Tryz.strconv_ParseInt_10_at64_ok (s : ByteArray) (hmax : s.size ≤ 9223372036854775806) (v : Int) (h : Lib.parseIntB 64 s.data.toList = .ok v) (w : World) :
    Calls Tryz.prog 152 #[.string s, .int .i64 10, .int .i64 64] w fun e w' => e = .returned (.tuple #[.int .i64 v, .nilIface]) ∧ (w' = w ∨ ∃ t, w' = Lib.bytesWorld w 5 t) := Any.strconv_ParseInt_10_at64_ok Tryz.laysC174 s hmax v h w
open Go.RowKit in
/-- strconv.ParseInt(s, 10, 64), AT EVERY STRING THAT IS NO DECIMAL NUMERAL: 0, AND AN ERROR THAT IS NOT nil: a *NumError in a new block N: {Func: "ParseInt", Num: s's bytes, Err: what the variable ErrSyntax holds}. Of what was there nothing has turned. (LAID: no walk: one application.) -/
theorem Tryz.strconv_ParseInt_10_at64_syntax (s : ByteArray) (hlim : s.size ≤ 281474976710656) (h : Lib.parseIntB 64 s.data.toList = Lib.parseIntB 64 []) (ev : Value) (w : World) (hv : w.cell? ⟨10, 0, none⟩ = some ev) (hev : ev = .nilIface ∨ ∃ te pe, ev = .iface te pe) :
    Calls Tryz.prog 152 #[.string s, .int .i64 10, .int .i64 64] w fun e w' => ∃ N, e = .returned (.tuple #[.int .i64 (0), .iface 318 (.pointer (some ⟨N, 0, none⟩))]) ∧ w.heap.size ≤ N ∧ w'.heap[N]? = some (.cells #[.string ⟨#[80, 97, 114, 115, 101, 73, 110, 116]⟩, .string s, ev] 335 (0, 0)) ∧ Below w.heap.size w w' := Any.strconv_ParseInt_10_at64_syntax Tryz.laysC174 s hlim h ev w hv hev
open Go.RowKit in
/-- strconv.ParseInt(s, 10, 64), AT EVERY NUMERAL THAT NO int64 HOLDS: THE GREATEST OR THE LEAST int64, BY THE SIGN ('Lib.intSat 64'), AND AN ERROR THAT IS NOT nil: a *NumError in a new block N: {Func: "ParseInt", Num: s's bytes, Err: what the variable ErrRange holds}. Of what was there nothing has turned. (LAID: no walk: one application.) -/
theorem Tryz.strconv_ParseInt_10_at64_range (s : ByteArray) (hlim : s.size ≤ 281474976710656) (h : Lib.parseIntB 64 s.data.toList = .range) (ev : Value) (w : World) (hv : w.cell? ⟨11, 0, none⟩ = some ev) (hev : ev = .nilIface ∨ ∃ te pe, ev = .iface te pe) :
    Calls Tryz.prog 152 #[.string s, .int .i64 10, .int .i64 64] w fun e w' => ∃ N, e = .returned (.tuple #[.int .i64 (Lib.intSat 64 s.data.toList), .iface 318 (.pointer (some ⟨N, 0, none⟩))]) ∧ w.heap.size ≤ N ∧ w'.heap[N]? = some (.cells #[.string ⟨#[80, 97, 114, 115, 101, 73, 110, 116]⟩, .string s, ev] 335 (0, 0)) ∧ Below w.heap.size w w' := Any.strconv_ParseInt_10_at64_range Tryz.laysC174 s hlim h ev w hv hev
def Tryz.lays145_ren : Go.Shelf.Ren := ⟨fun | 145 => 122 | 220 => 153 | 219 => 184 | 217 => 198 | 225 => 199 | 224 => 200 | 267 => 201 | 266 => 209 | 314 => 210 | n => n, fun | 9 => 9 | 4 => 4 | 59 => 199 | 3 => 3 | 5 => 5 | 46 => 275 | 146 => 330 | 51 => 305 | n => n, fun | 1 => 5 | n => n⟩
theorem Tryz.lays145 : Go.Proofs.Lays.n145 Tryz.prog Tryz.lays145_ren := {
  mixed := by kernel_rfl
  f145 := Tryz.func122.trans (congrArg some (by kernel_rfl))
  f217 := Tryz.func198.trans (congrArg some (by kernel_rfl))
  f219 := Tryz.func184.trans (congrArg some (by kernel_rfl))
  f220 := Tryz.func153.trans (congrArg some (by kernel_rfl))
  f224 := Tryz.func200.trans (congrArg some (by kernel_rfl))
  f225 := Tryz.func199.trans (congrArg some (by kernel_rfl))
  f266 := Tryz.func209.trans (congrArg some (by kernel_rfl))
  f267 := Tryz.func201.trans (congrArg some (by kernel_rfl))
  f314 := Tryz.func210.trans (congrArg some (by kernel_rfl))
  t3 := Tryz.underlying3
  a3 := Tryz.isAgg3
  z3 := Tryz.sizeOf3
  v3 := Tryz.zeroValue3
  t4 := Tryz.underlying4
  a4 := Tryz.isAgg4
  z4 := Tryz.sizeOf4
  v4 := Tryz.zeroValue4
  t5 := Tryz.underlying5
  a5 := Tryz.isAgg5
  z5 := Tryz.sizeOf5
  v5 := Tryz.zeroValue5
  t9 := Tryz.underlying9
  a9 := Tryz.isAgg9
  z9 := Tryz.sizeOf9
  v9 := Tryz.zeroValue9
  t46 := Tryz.underlying275
  a46 := Tryz.isAgg275
  z46 := Tryz.sizeOf275
  v46 := Tryz.zeroValue275
  t51 := Tryz.underlying305
  a51 := Tryz.isAgg305
  z51 := Tryz.sizeOf305
  v51 := Tryz.zeroValue305
  t59 := Tryz.underlying199
  a59 := Tryz.isAgg199
  z59 := Tryz.sizeOf199
  v59 := Tryz.zeroValue199
  t146 := Tryz.underlying330
  a146 := Tryz.isAgg330
  z146 := Tryz.sizeOf330
  v146 := Tryz.zeroValue330
  g1 := by kernel_rfl }
open Go.RowKit Go.Lib in
/-- strings.Cut: "Cut slices s around the first instance of sep, returning the text before and after sep. The found result reports whether sep appears in s. If sep does not appear in s, cut returns s, "", false.": IT RETURNS 'Lib.cut s sep'; the world is as it was but for the count of draws. (LAID: no walk: one application.) -/
theorem Tryz.strings_Cut (s sep : ByteArray) (m : Int) (w : World) (hs : s.size < 4294967281) (hm : w.cell? ⟨5, 0, none⟩ = some (.int .i64 m)) :
    Calls Tryz.prog 122 #[.string s, .string sep] w fun e w' => e = .returned (.tuple #[.string ⟨(Lib.cut s.data.toList sep.data.toList).1.toArray⟩, .string ⟨(Lib.cut s.data.toList sep.data.toList).2.1.toArray⟩, .bool (Lib.cut s.data.toList sep.data.toList).2.2]) ∧ ∃ n, w' = w.drewN n := Any.strings_Cut Tryz.lays145 s sep m w hs hm
def Tryz.lays146_ren : Go.Shelf.Ren := ⟨fun | 146 => 69 | 221 => 120 | 268 => 149 | 138 => 150 | 143 => 151 | 195 => 181 | 197 => 182 | 218 => 183 | 219 => 184 | 260 => 197 | 217 => 198 | 225 => 199 | 224 => 200 | 267 => 201 | 266 => 209 | 314 => 210 | n => n, fun | 9 => 9 | 31 => 39 | 3 => 3 | 4 => 4 | 0 => 0 | 105 => 300 | 21 => 21 | 5 => 5 | 46 => 275 | 119 => 326 | 139 => 329 | 138 => 328 | 146 => 330 | 51 => 305 | n => n, fun | 1 => 5 | 3 => 8 | 4 => 9 | n => n⟩
theorem Tryz.lays146 : Go.Proofs.Lays.n146 Tryz.prog Tryz.lays146_ren := {
  mixed := by kernel_rfl
  f138 := Tryz.func150.trans (congrArg some (by kernel_rfl))
  f143 := Tryz.func151.trans (congrArg some (by kernel_rfl))
  f146 := Tryz.func69.trans (congrArg some (by kernel_rfl))
  f195 := Tryz.func181.trans (congrArg some (by kernel_rfl))
  f197 := Tryz.func182.trans (congrArg some (by kernel_rfl))
  f217 := Tryz.func198.trans (congrArg some (by kernel_rfl))
  f218 := Tryz.func183.trans (congrArg some (by kernel_rfl))
  f219 := Tryz.func184.trans (congrArg some (by kernel_rfl))
  f221 := Tryz.func120.trans (congrArg some (by kernel_rfl))
  f224 := Tryz.func200.trans (congrArg some (by kernel_rfl))
  f225 := Tryz.func199.trans (congrArg some (by kernel_rfl))
  f260 := Tryz.func197.trans (congrArg some (by kernel_rfl))
  f266 := Tryz.func209.trans (congrArg some (by kernel_rfl))
  f267 := Tryz.func201.trans (congrArg some (by kernel_rfl))
  f268 := Tryz.func149.trans (congrArg some (by kernel_rfl))
  f314 := Tryz.func210.trans (congrArg some (by kernel_rfl))
  t0 := Tryz.underlying0
  a0 := Tryz.isAgg0
  z0 := Tryz.sizeOf0
  v0 := Tryz.zeroValue0
  t3 := Tryz.underlying3
  a3 := Tryz.isAgg3
  z3 := Tryz.sizeOf3
  v3 := Tryz.zeroValue3
  t4 := Tryz.underlying4
  a4 := Tryz.isAgg4
  z4 := Tryz.sizeOf4
  v4 := Tryz.zeroValue4
  t5 := Tryz.underlying5
  a5 := Tryz.isAgg5
  z5 := Tryz.sizeOf5
  v5 := Tryz.zeroValue5
  t9 := Tryz.underlying9
  a9 := Tryz.isAgg9
  z9 := Tryz.sizeOf9
  v9 := Tryz.zeroValue9
  t21 := Tryz.underlying21
  a21 := Tryz.isAgg21
  z21 := Tryz.sizeOf21
  v21 := Tryz.zeroValue21
  t31 := Tryz.underlying39
  a31 := Tryz.isAgg39
  z31 := Tryz.sizeOf39
  v31 := Tryz.zeroValue39
  t46 := Tryz.underlying275
  a46 := Tryz.isAgg275
  z46 := Tryz.sizeOf275
  v46 := Tryz.zeroValue275
  t51 := Tryz.underlying305
  a51 := Tryz.isAgg305
  z51 := Tryz.sizeOf305
  v51 := Tryz.zeroValue305
  t105 := Tryz.underlying300
  a105 := Tryz.isAgg300
  z105 := Tryz.sizeOf300
  v105 := Tryz.zeroValue300
  t119 := Tryz.underlying326
  a119 := Tryz.isAgg326
  z119 := Tryz.sizeOf326
  t138 := Tryz.underlying328
  a138 := Tryz.isAgg328
  z138 := Tryz.sizeOf328
  v138 := Tryz.zeroValue328
  t139 := Tryz.underlying329
  a139 := Tryz.isAgg329
  z139 := Tryz.sizeOf329
  v139 := Tryz.zeroValue329
  t146 := Tryz.underlying330
  a146 := Tryz.isAgg330
  z146 := Tryz.sizeOf330
  v146 := Tryz.zeroValue330
  g1 := by kernel_rfl
  g3 := by kernel_rfl
  g4 := by kernel_rfl }
open Go.RowKit Go.Lib in
/-- strings.Split. (LAID: no walk: one application.) -/
theorem Tryz.strings_Split (s sep : ByteArray) (m : Int) (w : World) (hs : s.size < 4294967281) (hm : w.cell? ⟨5, 0, none⟩ = some (.int .i64 m)) (h1 : 1 ≤ sep.size) :
    Calls Tryz.prog 69 #[.string s, .string sep] w fun e w' =>
      e = .returned (.slice (some ⟨w.heap.size, 0, none⟩) (Lib.countB s sep + 1) (Lib.countB s sep + 1)) ∧ w' = w.alloc (.cells ((Lib.splitB sep 0 (Lib.countB s sep) s).map Value.string).toArray 9) := Any.strings_Split Tryz.lays146 (by kernel_rfl) s sep m w hs hm h1
end Go.Proofs

/- What the package-level variables hold; the library's functions as contracts. -/
namespace Go.Proofs.YtccmdlmlbkpjjaaGreatDoor
open Go.RowKit Go.Lib
attribute [local irreducible] Nx Ar BrM headC OneC HoC AftC planHead endF
set_option maxRecDepth 20000

abbrev strs (l : List Str) : List Value := l.map str
/-- A variable's cells. -/
def cellsAt (m : PH) (b : Nat) (vs : List Value) : Prop := ∃ cs t fr, m b = some (.cells cs t fr) ∧ ∀ j, j < vs.length → cs[j]? = vs[j]?
def kindsL : List Str := [[112, 114, 111, 100, 117, 99, 101, 114], [99, 111, 110, 115, 117, 109, 101, 114], [119, 111, 114, 107, 101, 114], [112, 111, 108, 108, 101, 114], [99, 104, 111, 111, 115, 101, 114]]
def statesL : List Str := [[114, 101, 97, 100, 121], [112, 97, 114, 107, 101, 100], [104, 97, 108, 116, 101, 100]]
def deedsL : List Str := [[115, 105, 108, 101, 110, 116], [115, 104, 111, 119, 110], [104, 97, 110, 100, 108, 101, 100], [109, 111, 118, 101, 100], [114, 101, 116, 117, 114, 110, 101, 100], [108, 97, 116, 101], [108, 101, 102, 116], [115, 116, 111, 112, 112, 101, 100]]
def signsL : List Str := [[113, 117, 105, 101, 116], [97, 108, 101, 114, 116, 101, 100], [100, 114, 97, 105, 110]]
def bruijn : List Int := [0, 1, 56, 2, 57, 49, 28, 3, 61, 58, 42, 50, 38, 29, 17, 4, 62, 47, 59, 36, 45, 43, 51, 22, 53, 39, 33, 30, 24, 18, 12, 5, 63, 55, 48, 27, 60, 41, 37, 16, 46, 35, 44, 21, 52, 32, 23, 11, 54, 26, 40, 15, 34, 20, 31, 10, 25, 14, 19, 9, 13, 8, 7, 6]
/-- The one variable that norialaw24 reads. -/
structure GlT (m : PH) : Prop where
  tz : cellsAt m 7 (bruijn.map fun n => .int .u8 n)
/-- .. those of the lines that are written. -/
structure GlN (m : PH) : Prop extends GlT m where
  kinds : cellsAt m 0 (strs kindsL)
  states : cellsAt m 1 (strs statesL)
  deeds : cellsAt m 2 (strs deedsL)
  signs : cellsAt m 3 (strs signsL)
  pow : ∃ t fr, m 4 = some (.cells (pow10Tab.map fun z => Value.int .u64 z).toArray t fr)
/-- .. and of those that are read. -/
structure Glo (m : PH) : Prop extends GlN m where
  max : ∃ n, cellsAt m 5 [.int .i64 n]
  syn : ∃ te pe, cellsAt m 10 [.iface te pe]
  rng : ∃ te pe, cellsAt m 11 [.iface te pe]
theorem cellsAt.cell {m : PH} {b : Nat} {vs : List Value} (h : cellsAt m b vs) {w : World} (hm : m.le (hw w)) {j : Nat} (hj : j < vs.length) : w.cell? ⟨b, j, none⟩ = some vs[j] := by
  obtain ⟨cs, t, fr, h1, h2⟩ := h
  rw [cell_of_row w _ _ _ _ _ (hm _ _ h1), h2 j hj, List.getElem?_eq_getElem hj]
theorem cellsAt.sees {m : PH} {b : Nat} {vs : List Value} (h : cellsAt m b vs) {j : Nat} (hj : j < vs.length) : SeesAt (roAll m) b j [vs[j]] := by
  intro r h' d hs
  obtain ⟨cs, t, fr, h1, h2⟩ := h
  refine ⟨cs, t, fr, PH.le_un_left r h' _ _ ((show m.le r from hs) _ _ h1), fun i hi => ?_⟩
  have : i = 0 := by simpa using hi
  subst this
  rw [Nat.add_zero, h2 j hj, List.getElem?_eq_getElem hj]
  rfl
theorem GlN.tab {m : PH} (hG : GlN m) {w : World} (hm : m.le (hw w)) : Lib.TabIs Tryz.prog w "internal/strconv.uint64pow10" .u64 Lib.pow10Tab := by
  obtain ⟨t, fr, h⟩ := hG.pow
  have h1 : Tryz.prog.globalNamed "internal/strconv.uint64pow10" = some 4 := by kernel_rfl
  unfold Lib.TabIs World.var?
  rw [h1]
  have h2 := hm _ _ h
  unfold hw at h2
  simp [h2, Obj.row?]

theorem below_le {w w' : World} (h : Below w.heap.size w w') : PH.le (hw w) (hw w') := fun n o hn => by
  have hl : n < w.heap.size := (Array.getElem?_eq_some_iff.1 hn).1
  show w'.heap[n]? = some o
  rw [h.block n hl]; exact hn
theorem le_of_sat {m : PH} {F : List SP} {w : World} (h : SatW (roAll m :: F) w) : m.le (hw w) := SatW.stays h
theorem FnOk.lib {P : Program} {f : FuncId} {args : List Value} {m : PH} {Post : Value → Prop} (hent : Enters P f)
    (h : ∀ w, m.le (hw w) → Calls P f args.toArray w fun e w' => (∃ v, e = .returned v ∧ Post v) ∧ Below w.heap.size w w') : FnOk P f args [roAll m] (fun v Q => Post v ∧ Q = [roAll m]) :=
  ⟨hent, fun F w hs => (h w (le_of_sat hs)).mono fun e w' ⟨⟨v, he, hp⟩, hb⟩ => ⟨v, [roAll m], he, ⟨hp, rfl⟩, hb.os, hb.tape, hb.output, hs.more (below_le hb)⟩⟩

theorem drewN_below (w : World) (n : Nat) : Below w.heap.size w (w.drewN n) := ⟨rfl, rfl, rfl, Nat.le_refl _, fun _ _ => rfl⟩
theorem FormatInt_ok {m : PH} (hG : GlN m) (n : Int) (hn : I64n n) : FnOk Tryz.prog 106 [.int .i64 n, .int .i64 10] [roAll m] (fun v Q => v = str (itoa n) ∧ Q = [roAll m]) :=
  FnOk.lib (enters_of Tryz.func106 (by kernel_rfl) rfl) fun w hm => (Tryz.strconv_FormatInt_10 n hn.1 hn.2 w (hG.tab hm)).mono fun e w' ⟨he, k, os, hw⟩ => by
    refine ⟨⟨_, he, rfl⟩, ?_⟩
    subst hw
    refine ⟨rfl, rfl, rfl, by simp [Sort.grow, World.drewN], fun k' hk => ?_⟩
    simp only [Sort.grow, World.drewN]
    exact Array.getElem?_append_left hk
def isOk (s : Str) : Option Int := match parseIntB 64 s with | .ok v => some v | _ => none
theorem ParseInt_ok {m : PH} (hG : Glo m) (s : Str) (hs : s.length ≤ 281474976710656) : FnOk Tryz.prog 152 [str s, .int .i64 10, .int .i64 64] [roAll m]
    (fun v Q => ((∃ u, parseIntB 64 s = .ok u ∧ v = .tuple #[.int .i64 u, .nilIface]) ∨ ((∀ u, parseIntB 64 s ≠ .ok u) ∧ ∃ n T p, v = .tuple #[.int .i64 n, .iface T p])) ∧ Q = [roAll m]) :=
  FnOk.lib (enters_of Tryz.func152 (by kernel_rfl) rfl) fun w hm => by
    have hsz : (⟨s.toArray⟩ : ByteArray).size = s.length := by simp [ByteArray.size]
    cases hp : parseIntB 64 s
    case ok u =>
      refine (Tryz.strconv_ParseInt_10_at64_ok ⟨s.toArray⟩ (by omega) u hp w).mono fun e w' ⟨he, hw⟩ => ⟨⟨_, he, .inl ⟨u, rfl, rfl⟩⟩, ?_⟩
      rcases hw with rfl | ⟨t, rfl⟩
      · exact Below.refl _ _
      · exact Lib.bytesWorld_below _ _ _
    case range =>
      obtain ⟨te, pe, hc⟩ := hG.rng
      refine (Tryz.strconv_ParseInt_10_at64_range ⟨s.toArray⟩ (by omega) hp (.iface te pe) w (hc.cell hm (j := 0) (by simp)) (.inr ⟨_, _, rfl⟩)).mono fun e w' ⟨N, he, _, _, hb⟩ => ⟨⟨_, he, .inr ⟨(fun u h => by cases h), _, _, _, rfl⟩⟩, hb⟩
    · obtain ⟨te, pe, hc⟩ := hG.syn
      refine (Tryz.strconv_ParseInt_10_at64_syntax ⟨s.toArray⟩ (by omega) (hp.trans rfl) (.iface te pe) w (hc.cell hm (j := 0) (by simp)) (.inr ⟨_, _, rfl⟩)).mono fun e w' ⟨N, he, _, _, hb⟩ => ⟨⟨_, he, .inr ⟨(fun u h => by cases h), _, _, _, rfl⟩⟩, hb⟩
theorem Cut_ok {m : PH} (hG : Glo m) (s : Str) (hs : s.length < 4294967281) : FnOk Tryz.prog 122 [str s, str [58]] [roAll m]
    (fun v Q => (v = match pairC 58 s with | some (a, b) => .tuple #[str a, str b, .bool true] | none => .tuple #[str s, str [], .bool false]) ∧ Q = [roAll m]) :=
  FnOk.lib (enters_of Tryz.func122 (by kernel_rfl) rfl) fun w hm => by
    have hsz : (⟨s.toArray⟩ : ByteArray).size = s.length := by simp [ByteArray.size]
    obtain ⟨n, hc⟩ := hG.max
    refine (Tryz.strings_Cut ⟨s.toArray⟩ ⟨#[58]⟩ n w (by omega) (hc.cell hm (j := 0) (by simp))).mono fun e w' ⟨he, k, hw⟩ => ?_
    refine ⟨⟨_, he, ?_⟩, by subst hw; exact drewN_below _ _⟩
    have e1 := cut_lib 58 s
    simp only [] at e1 ⊢
    rw [e1]
    cases pairC 58 s with
    | none => rfl
    | some p => obtain ⟨a, b⟩ := p; rfl
theorem Split_ok {m : PH} (hG : Glo m) (s : Str) (c : UInt8) (hs : s.length < 4294967281) : FnOk Tryz.prog 69 [str s, str [c]] [roAll m]
    (fun v Q => ∃ b, v = .slice (some ⟨b, 0, none⟩) (splitC c s).length (splitC c s).length ∧ Q = [roAll m, ownS 9 (some ⟨b, 0, none⟩) (splitC c s).length (splitC c s).length 1 (strs (splitC c s))]) := by
  refine ⟨enters_of Tryz.func69 (by kernel_rfl) rfl, fun F w hsat => ?_⟩
  have hsz : (⟨s.toArray⟩ : ByteArray).size = s.length := by simp [ByteArray.size]
  obtain ⟨n, hc⟩ := hG.max
  refine (Tryz.strings_Split ⟨s.toArray⟩ ⟨#[c]⟩ n w (by omega) (hc.cell (le_of_sat hsat) (j := 0) (by simp)) (by simp [ByteArray.size])).mono fun e w' ⟨he, hw'⟩ => ?_
  have hl := split_lib c ⟨s.toArray⟩
  simp only [] at hl
  have hst : (splitB ⟨#[c]⟩ 0 (countB ⟨s.toArray⟩ ⟨#[c]⟩) ⟨s.toArray⟩).map Value.string = strs (splitC c s) := by
    have hl2 : strs (splitC c s) = (splitB ⟨#[c]⟩ 0 (countB ⟨s.toArray⟩ ⟨#[c]⟩) ⟨s.toArray⟩).map fun x => str x.data.toList := by
      rw [show splitC c s = _ from hl.symm]
      show List.map str (List.map _ _) = _
      rw [List.map_map]
      first | done | rfl
    rw [hl2]
    try
      apply List.map_congr_left
      intro x _
      rfl
  have hlen : countB ⟨s.toArray⟩ ⟨#[c]⟩ + 1 = (splitC c s).length := by
    have h1 := splitB_all ⟨#[c]⟩ (by simp [ByteArray.size]) 0 _ ⟨s.toArray⟩ rfl
    rw [← h1, ← hl, List.length_map]
  rw [hlen] at he
  rw [hst] at hw'
  refine ⟨_, _, he, ⟨_, rfl, rfl⟩, by subst hw'; rfl, by subst hw'; rfl, by subst hw'; rfl, ?_⟩
  have h2 := hsat.alloc (.cells (strs (splitC c s)).toArray 9)
  rw [← hw'] at h2
  have h3 := h2.imp (Q := ownS 9 (some ⟨w.heap.size, 0, none⟩) (splitC c s).length (splitC c s).length 1 (strs (splitC c s))) (fun r h hb => by
    refine ⟨by simp, .inr ⟨_, _, rfl, hb, Nat.le_refl _, ?_, by simp, by rw [Nat.mul_one]; exact List.take_of_length_le (by simp)⟩⟩
    have : countB ⟨s.toArray⟩ ⟨#[c]⟩ ≤ (⟨s.toArray⟩ : ByteArray).size := countB_le _ (by simp [ByteArray.size]) _ _ (Nat.le_refl _)
    unfold maxLen
    omega)
  exact h3.perm (List.Perm.swap _ _ _)
theorem Join_ok {S : SP} (A : Option Addr) (c : Nat) (xs : List Str) (hne : xs ≠ []) (hs : Sees S A xs.length 1 (strs xs)) (hN : xs.length ≤ 140737488355328) (hcap : xs.length ≤ c) (hlen : (joinC 32 xs).length ≤ 140737488355328) :
    FnOk Tryz.prog 58 [.slice A xs.length c, str [32]] [S] (fun v Q => v = str (joinC 32 xs) ∧ Q = [S]) := by
  refine ⟨enters_of Tryz.func58 (by kernel_rfl) rfl, fun F w hsat => ?_⟩
  obtain ⟨hl, hrd⟩ : Rd (hw w) A xs.length 1 (strs xs) := by
    obtain ⟨r, h, a, hb, cc, r1, k1, k2, a1, a2, a3, a4, a5, a6⟩ := hsat
    exact (hs r1 k1 (PH.dj_mono cc a1 a2) a5).mono (PH.un_le (PH.le_trans a1 a) (PH.le_trans a2 hb))
  obtain ⟨b, o, cs, t, fr, rfl, hbk, hc⟩ := hrd (List.length_pos_iff.2 hne)
  have hmap : (xs.map fun l => (⟨l.toArray⟩ : ByteArray)).map (·.data.toList) = xs := by rw [List.map_map]; simp [Function.comp_def]
  have hj : Lib.join ((xs.map fun l => (⟨l.toArray⟩ : ByteArray)).map (·.data.toList)) ((⟨#[32]⟩ : ByteArray).data.toList) = joinC 32 xs := by rw [hmap]; exact joinC_inter 32 xs
  have hx := Tryz.strings_Join b o c (xs.map fun l => (⟨l.toArray⟩ : ByteArray)) ⟨#[32]⟩ w (fun j x hx => by
    rw [cell_of_row w _ _ _ _ _ hbk]
    have hj : j < xs.length := by have := (List.getElem?_eq_some_iff.1 hx).1; simpa using this
    rw [hc j (by omega)]
    rw [List.getElem?_map] at hx ⊢
    rw [List.getElem?_eq_getElem hj] at hx ⊢
    simp only [Option.map_some, Option.some.injEq] at hx ⊢
    rw [← hx]) ((Array.getElem?_eq_some_iff.1 hbk).1) (by simpa using hN) (by simpa using hcap) (by rw [hj]; exact hlen)
  rw [List.length_map] at hx
  refine hx.mono fun e w' ⟨he, hb⟩ => ⟨_, [S], he, ⟨by rw [hj], rfl⟩, hb.os, hb.tape, hb.output, hsat.more (below_le hb)⟩
end Go.Proofs.YtccmdlmlbkpjjaaGreatDoor

/- What the rows give: the variables as they are laid; arguments opened. -/
namespace Go.Proofs.YtccmdlmlbkpjjaaGreatDoor
open Go.ChangeShapes Go.WideShapes Go.ChangeAt Go.RowKit Go.Deep
set_option maxRecDepth 100000

theorem own0 : ownKnob Tryz.prog.godebug = none := by kernel_rfl
theorem laid0 : laidOutB Tryz.prog = true := by kernel_rfl
theorem chk0 : Tryz.checked.prog = Tryz.prog := rfl
theorem strs_block {W : World} {n : String} {d : DataW Unit} {g t k : Nat} {zs : List Str} (h : Lib.VarReads Tryz.prog W n d) (hg : Tryz.prog.globalNamed n = some g) (ht : (Tryz.prog.globals[g]?).map (·.type) = some t)
    (hu : Tryz.prog.underlying t = some (.array k 9)) (hc : Tryz.prog.cellsOf t = k) (hd : d = .agg (zs.map fun z => .lit (.string z))) : cellsAt (hw W) g (strs zs) := by
  subst hd
  obtain ⟨cs, tt, fr, fuel, p, hb, hr⟩ := reads_block h hg ht
  have := strs_of_tab hu Tryz.underlying9 (by kernel_rfl) hc hr
  refine ⟨cs, tt, fr, hb, fun j hj => ?_⟩
  rw [← Array.getElem?_toList, this]
theorem iface_block {W : World} {n : String} {d : DataW Unit} {g : Nat} {s : String} (h : Lib.VarReads Tryz.prog W n (.iface s d)) (hg : Tryz.prog.globalNamed n = some g) (ht : (Tryz.prog.globals[g]?).map (·.type) = some 27) : ∃ te pe, cellsAt (hw W) g [.iface te pe] := by
  obtain ⟨cs, tt, fr, fuel, p, hb, hr⟩ := reads_block h hg ht
  obtain ⟨u, v, he⟩ := iface_of Tryz.underlying27 hr
  refine ⟨u, v, cs, tt, fr, hb, fun j hj => ?_⟩
  rw [← Array.getElem?_toList, he]
theorem tab_block {W : World} {n : String} {d : DataW Unit} {g t len te : Nat} {k : IntKind} {zs : List Int} (h : Lib.VarReads Tryz.prog W n d) (hg : Tryz.prog.globalNamed n = some g) (ht : (Tryz.prog.globals[g]?).map (·.type) = some t)
    (hu : Tryz.prog.underlying t = some (.array len te)) (he : Tryz.prog.underlying te = some (.int k)) (hc1 : Tryz.prog.cellsOf te = 1) (hc : Tryz.prog.cellsOf t = len) (hd : d = .agg (zs.map fun z => .lit (.int k z))) : ∃ t' fr, hw W g = some (.cells (zs.map fun z => Value.int k z).toArray t' fr) := by
  subst hd
  obtain ⟨cs, tt, fr, fuel, p, hb, hr⟩ := reads_block h hg ht
  have := Lib.cells_of_tab (zs := zs) (k := k) hu he hc1 hc hr
  refine ⟨tt, fr, ?_⟩
  rw [hb]
  congr 2
  rw [← this]
abbrev laidT : List (String × DataW Unit) := [("math/bits.deBruijn64tab", Rows.laid_math_bits_deBruijn64tab)]
theorem glt_of {W : World} (rd : ∀ x ∈ laidT, Lib.VarReads Tryz.prog W x.1 x.2) : GlT (hw W) := by
  obtain ⟨t, fr, h⟩ := tab_block (g := 7) (t := 322) (zs := bruijn) (k := .u8) (rd ("math/bits.deBruijn64tab", Rows.laid_math_bits_deBruijn64tab) (by simp)) (by kernel_rfl) (by kernel_rfl) Tryz.underlying322 Tryz.underlying5 (by kernel_rfl) (by kernel_rfl) rfl
  exact ⟨⟨_, t, fr, h, fun j hj => by rw [List.getElem?_toArray]⟩⟩
abbrev laidN : List (String × DataW Unit) := laidT ++ [("noria/report.kinds", Rows.laid_noria_report_kinds), ("noria/report.states", Rows.laid_noria_report_states), ("noria/report.deeds", Rows.laid_noria_report_deeds), ("noria/report.signs", Rows.laid_noria_report_signs), ("internal/strconv.uint64pow10", Rows.laid_internal_strconv_uint64pow10)]
theorem gln_of {W : World} (rd : ∀ x ∈ laidN, Lib.VarReads Tryz.prog W x.1 x.2) : GlN (hw W) := by
  refine { toGlT := glt_of fun x hx => rd x (List.mem_append_left _ hx), kinds := ?_, states := ?_, deeds := ?_, signs := ?_, pow := ?_ }
  · exact strs_block (rd ("noria/report.kinds", Rows.laid_noria_report_kinds) (by simp)) (by kernel_rfl) (by kernel_rfl) Tryz.underlying111 (by kernel_rfl) rfl
  · exact strs_block (rd ("noria/report.states", Rows.laid_noria_report_states) (by simp)) (by kernel_rfl) (by kernel_rfl) Tryz.underlying112 (by kernel_rfl) rfl
  · exact strs_block (rd ("noria/report.deeds", Rows.laid_noria_report_deeds) (by simp)) (by kernel_rfl) (by kernel_rfl) Tryz.underlying129 (by kernel_rfl) rfl
  · exact strs_block (rd ("noria/report.signs", Rows.laid_noria_report_signs) (by simp)) (by kernel_rfl) (by kernel_rfl) Tryz.underlying112 (by kernel_rfl) rfl
  · obtain ⟨cs, tt, fr, fuel, p, hb, hr⟩ := reads_block (g := 4) (t := 312) (rd ("internal/strconv.uint64pow10", Rows.laid_internal_strconv_uint64pow10) (by simp)) (by kernel_rfl) (by kernel_rfl)
    have := Lib.cells_of_tab (zs := Lib.pow10Tab) (k := .u64) Tryz.underlying312 (by kernel_rfl) (by kernel_rfl) (by kernel_rfl) hr
    refine ⟨tt, fr, ?_⟩
    rw [hb]
    congr 2
    rw [← this]
abbrev laidL : List (String × DataW Unit) := laidN ++ [("strconv.ErrRange", Rows.laid_strconv_ErrRange), ("strconv.ErrSyntax", Rows.laid_strconv_ErrSyntax)]
theorem glo_of {W : World} (hsh : W.ShapedOpen Tryz.prog) (rd : ∀ x ∈ laidL, Lib.VarReads Tryz.prog W x.1 x.2) : Glo (hw W) := by
  refine { toGlN := gln_of fun x hx => rd x (List.mem_append_left _ hx), max := ?_, syn := ?_, rng := ?_ }
  · obtain ⟨m, hm⟩ := cell_of_shapedOpen_int (g := 5) (t := 3) (zero := #[.int .i64 0]) (k := .i64) hsh (of_decide_eq_true (by kernel_rfl)) (by kernel_rfl) rfl (by kernel_rfl) (by kernel_rfl) Tryz.underlying3
    refine ⟨m, ?_⟩
    unfold World.cell? at hm
    split at hm
    · rename_i cs t fr hb
      simp only [if_true] at hm
      exact ⟨cs, t, fr, hb, fun j hj => by
        have : j = 0 := by simpa using hj
        subst this
        exact hm⟩
    · cases hm
  · exact iface_block (rd ("strconv.ErrSyntax", Rows.laid_strconv_ErrSyntax) (by simp)) (by kernel_rfl) (by kernel_rfl)
  · exact iface_block (rd ("strconv.ErrRange", Rows.laid_strconv_ErrRange) (by simp)) (by kernel_rfl) (by kernel_rfl)
theorem open_str {H : Type} {enc : TypeId × Value → H} {W : World} {base : Nat} {sp : Nat → Bool} {held : Bool} {r : Reach} {b0 : Nat} {v : Value} {d : DataW H} {p : List MemPlace} (hval : Value.okWide Tryz.prog W r b0 9 v) (h : DataW.Trod enc Tryz.prog W base sp held 9 v d p) :
    ∃ s : Str, v = str s := by
  obtain ⟨s, rfl, _⟩ := Go.ChangeMaps.open_string Tryz.underlying9 hval h
  exact ⟨s.data.toList, by obtain ⟨a⟩ := s; simp⟩
end Go.Proofs.YtccmdlmlbkpjjaaGreatDoor
