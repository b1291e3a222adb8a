/- The evaluator: stores, make, and all operations that are no calls of functions: 'effX'. -/
import Derived.Test.YtngfadijcpnblaaGxh
namespace Go.Proofs.Ytngfadijcpnblaa
open Go.RowKit

section
variable {g : Cx} {β : Nat → Nat} {s : GS} {L : Res} {a : Act} {w : World}

theorem setMo_keeps {b l : Nat} {zs : List Ce} (hl : b ≤ l) : ∀ {m m' m0 : Mem}, (∃ n1, m = n1 ++ m0 ∧ ∀ e ∈ n1, b ≤ e.1) → (∀ e ∈ m0, e.1 < b) → setMo m l zs = some m' → ∃ n1, m' = n1 ++ m0 ∧ ∀ e ∈ n1, b ≤ e.1
  | [], m', m0, ⟨n1, h1, h2⟩, h3, hd => by
    simp only [setMo, Option.some.injEq] at hd
    subst hd
    exact ⟨n1, h1, h2⟩
  | (k, t, y) :: r, m', m0, ⟨n1, h1, h2⟩, h3, hd => by
    cases n1 with
    | nil =>
      simp only [List.nil_append] at h1
      have hno : ∀ (q : Mem), (∀ e ∈ q, e.1 < b) → setMo q l zs = some q := by
        intro q
        induction q with
        | nil => intro _; rfl
        | cons z q ih =>
          obtain ⟨kz, tz, yz⟩ := z
          intro hq
          have hk : kz ≠ l := by have := hq (kz, tz, yz) (by simp); simp at this; omega
          have hbq : Nat.beq kz l = false := by rw [← Bool.not_eq_true, Nat.beq_eq]; exact hk
          simp only [setMo, hbq, ih fun e he => hq e (List.mem_cons_of_mem _ he)]
      rw [h1, hno m0 h3] at hd
      cases hd
      exact ⟨[], rfl, by simp⟩
    | cons z n1 =>
      simp only [List.cons_append, List.cons.injEq] at h1
      obtain ⟨rfl, h1⟩ := h1
      simp only [setMo] at hd
      split at hd
      · cases hd
        refine ⟨(k, t, zs) :: n1, by rw [h1]; rfl, ?_⟩
        intro e he
        rcases List.mem_cons.1 he with rfl | he
        · exact h2 (k, t, y) (by simp)
        · exact h2 e (List.mem_cons_of_mem _ he)
      · split at hd <;> cases hd
        rename_i r' hr
        obtain ⟨n3, k1, k2⟩ := setMo_keeps hl ⟨n1, h1, fun e he => h2 e (List.mem_cons_of_mem _ he)⟩ h3 hr
        refine ⟨(k, t, y) :: n3, by rw [k1]; rfl, ?_⟩
        intro e he
        rcases List.mem_cons.1 he with rfl | he
        · exact h2 _ (by simp)
        · exact k2 e he
theorem setG_keeps {b l : Nat} {zs : List Ce} (hl : b ≤ l) : ∀ {m m' m0 : GMem}, (∃ n1, m = n1 ++ m0 ∧ ∀ e ∈ n1, b ≤ e.1) → (∀ e ∈ m0, e.1 < b) → setG m l zs = some m' → ∃ n1, m' = n1 ++ m0 ∧ ∀ e ∈ n1, b ≤ e.1
  | [], m', m0, ⟨n1, h1, h2⟩, h3, hd => by
    simp only [setG, Option.some.injEq] at hd
    subst hd
    exact ⟨n1, h1, h2⟩
  | (k, t, u, v, y) :: r, m', m0, ⟨n1, h1, h2⟩, h3, hd => by
    cases n1 with
    | nil =>
      simp only [List.nil_append] at h1
      have hno : ∀ (q : GMem), (∀ e ∈ q, e.1 < b) → setG q l zs = some q := by
        intro q
        induction q with
        | nil => intro _; rfl
        | cons z q ih =>
          obtain ⟨kz, tz, uz, vz, yz⟩ := z
          intro hq
          have hk : kz ≠ l := by have := hq (kz, tz, uz, vz, yz) (by simp); simp at this; omega
          have hbq : Nat.beq kz l = false := by rw [← Bool.not_eq_true, Nat.beq_eq]; exact hk
          simp only [setG, hbq, ih fun e he => hq e (List.mem_cons_of_mem _ he)]
      rw [h1, hno m0 h3] at hd
      cases hd
      exact ⟨[], rfl, by simp⟩
    | cons z n1 =>
      simp only [List.cons_append, List.cons.injEq] at h1
      obtain ⟨rfl, h1⟩ := h1
      simp only [setG] at hd
      split at hd
      · cases hd
        refine ⟨(k, t, u, v, zs) :: n1, by rw [h1]; rfl, ?_⟩
        intro e he
        rcases List.mem_cons.1 he with rfl | he
        · exact h2 (k, t, u, v, y) (by simp)
        · exact h2 e (List.mem_cons_of_mem _ he)
      · split at hd <;> cases hd
        rename_i r' hr
        obtain ⟨n3, k1, k2⟩ := setG_keeps hl ⟨n1, h1, fun e he => h2 e (List.mem_cons_of_mem _ he)⟩ h3 hr
        refine ⟨(k, t, u, v, y) :: n3, by rw [k1]; rfl, ?_⟩
        intro e he
        rcases List.mem_cons.1 he with rfl | he
        · exact h2 _ (by simp)
        · exact k2 e he
theorem setMo_lt {n l : Nat} {zs : List Ce} (hz : ∀ z ∈ zs, z.lt n) : ∀ {m m' : Mem}, ltM n m → setMo m l zs = some m' → ltM n m'
  | [], m', h, hd => by simp only [setMo, Option.some.injEq] at hd; subst hd; exact h
  | (k, t, y) :: r, m', h, hd => by
    simp only [setMo] at hd
    split at hd
    · cases hd
      intro e he
      rcases List.mem_cons.1 he with rfl | he
      · exact ⟨(h (k, t, y) (by simp)).1, hz⟩
      · exact h e (List.mem_cons_of_mem _ he)
    · split at hd <;> cases hd
      rename_i r' hr
      intro e he
      rcases List.mem_cons.1 he with rfl | he
      · exact h _ (by simp)
      · exact setMo_lt hz (fun e he => h e (List.mem_cons_of_mem _ he)) hr e he
theorem setG_lt {n l : Nat} {zs : List Ce} (hz : ∀ z ∈ zs, z.lt n) : ∀ {m m' : GMem}, ltG n m → setG m l zs = some m' → ltG n m'
  | [], m', h, hd => by simp only [setG, Option.some.injEq] at hd; subst hd; exact h
  | (k, t, u, v, y) :: r, m', h, hd => by
    simp only [setG] at hd
    split at hd
    · cases hd
      intro e he
      rcases List.mem_cons.1 he with rfl | he
      · exact ⟨(h (k, t, u, v, y) (by simp)).1, hz⟩
      · exact h e (List.mem_cons_of_mem _ he)
    · split at hd <;> cases hd
      rename_i r' hr
      intro e he
      rcases List.mem_cons.1 he with rfl | he
      · exact h _ (by simp)
      · exact setG_lt hz (fun e he => h e (List.mem_cons_of_mem _ he)) hr e he
theorem setG_perm : ∀ {gm gm' gd : GMem} {l e n sz : Nat} {cs zs : List Ce}, lookG gm l = some (e, n, sz, cs) → setG gm l zs = some gm' → delG gm l = some gd → (gmSP β gm').Perm (grSP β (l, e, n, sz, zs) :: gmSP β gd)
  | [], _, _, _, _, _, _, _, _, h, _, _ => by cases h
  | (k, t, u, v, y) :: r, gm', gd, l, e, n, sz, cs, zs, h, hs, hd => by
    rw [lookG_cons] at h
    simp only [setG] at hs
    simp only [delG] at hd
    by_cases ek : k = l
    · subst ek
      rw [if_pos rfl] at h
      cases h
      simp at hs hd
      subst hs
      subst hd
      exact List.Perm.refl _
    · rw [if_neg ek] at h
      have hb : Nat.beq k l = false := by rw [← Bool.not_eq_true, Nat.beq_eq]; exact ek
      rw [hb] at hs hd
      simp only at hs hd
      split at hs <;> cases hs
      rename_i r1 h1
      split at hd <;> cases hd
      rename_i r2 h2
      exact (List.Perm.cons _ (setG_perm h h1 h2)).trans (List.Perm.swap _ _ _)

theorem gr_store {l e n sz off : Nat} {cs ys zs : List Ce} {gm' : GMem} {t : TypeId} {i : TypeInfo} {v : Value} (hr : RelG g β s L a w) (hl : lookG s.gm l = some (e, n, sz, cs)) (hv : v.cells = cellsOf β ys) (hi : g.P.info? t = some i) (hs : ys.length = i.size)
    (hfit : off + ys.length ≤ cs.length) (hp : allPlain ys = true) (hz : fillS.setsO cs off ys = some zs) (hg : setG s.gm l zs = some gm') :
    ∃ w', (Instr.storeAt t (.pointer (some ⟨β l, off, none⟩)) v).run g.P w = .ok () w' ∧ RelG g β { s with gm := gm' } L a w' := by
  obtain ⟨gd, hd⟩ := delG_some s.gm l
  have h2 := hr.sat'.swapHead.perm ((lookG_perm hl hd).append_right _)
  obtain ⟨r, hh, x1, x2, x3, r1, k1, k2, y1, y2, y3, y4, y5, y6⟩ := h2
  obtain ⟨z1, z2⟩ := y5
  rcases z2 with ⟨z3, _⟩ | ⟨b, cur, z3, z4, z5, z6, z7, z8⟩
  · cases z3
  cases z3
  simp only at z1 z4 z5 z6 z7 z8
  rw [List.length_map] at z1
  have hblk : SatW (blk (β l) (.cells cur e (0, 0)) :: (gmSP β gd ++ (memSP β s.mem ++ (L.map (·.2) ++ g.F)))) w := ⟨r, hh, x1, x2, x3, r1, k1, k2, y1, y2, y3, y4, z4, y6⟩
  have hw := hblk.get
  have hcs : n * sz ≤ cur.size := by rw [z7]; exact Nat.mul_le_mul_right _ z5
  have hst := run_storeCells_at g.P (β l) off e (ys.map (Ce.den β)) 0 cur w hw (by simp; omega) (by
    intro v hv
    obtain ⟨x, hx, rfl⟩ := List.mem_map.1 hv
    exact plain_one (allPlain_mem hp x hx))
  obtain ⟨q1, q2⟩ := setsO_spec cs off ys zs hz
  refine ⟨w.setRow (β l) (cur.toList.take (off + 0) ++ ys.map (Ce.den β) ++ cur.toList.drop (off + 0 + (ys.map (Ce.den β)).length)).toArray, ?_, ?_⟩
  · have e : v.cells.toList = ys.map (Ce.den β) := by rw [hv]; simp [cellsOf]
    have e2 : v.cells.size = i.size := by rw [hv, size_cellsOf, hs]
    simp [Instr.storeAt, Instr.sureAddr, storeVar, sizeOf, typeInfo, hi, e, e2] at hst ⊢
    simp [hst]
  · have h3 := SatW.set hblk (o' := .cells (cur.toList.take (off + 0) ++ ys.map (Ce.den β) ++ cur.toList.drop (off + 0 + (ys.map (Ce.den β)).length)).toArray e (0, 0)) (fun n hn => setRow_other w _ n _ hn) (setRow_heap w _ _ _ _ _ hw)
    have h4 := h3.imp (Q := grSP β (l, e, n, sz, zs)) (fun r h hb => by
      refine ⟨by rw [List.length_map, q1, z1], .inr ⟨β l, _, rfl, hb, z5, z6, ?_, ?_⟩⟩
      · simp only [List.size_toArray, List.length_append, List.length_take, List.length_drop, List.length_map, Array.length_toList, ← z7]
        omega
      · apply List.ext_getElem?
        intro j
        have zj := congrArg (fun q : List Value => q[j]?) z8
        simp only [List.getElem?_take, List.getElem?_map] at zj ⊢
        rw [q2 j]
        by_cases hj : j < n * sz
        · rw [if_pos hj] at zj ⊢
          simp only [Nat.add_zero, List.getElem?_append, List.length_take, List.length_append, List.length_map, Array.length_toList, List.getElem?_take, List.getElem?_drop, List.getElem?_map]
          by_cases c1 : j < off
          · rw [if_pos (by omega), if_pos (by omega), if_pos c1, if_neg (by omega)]
            exact zj
          · by_cases c2 : j < off + ys.length
            · rw [if_pos (by omega), if_neg (by omega), if_pos ⟨by omega, c2⟩, Nat.min_eq_left (by omega)]
            · rw [if_neg (by omega), if_neg (by omega), Nat.min_eq_left (by omega), show off + ys.length + (j - (off + ys.length)) = j from by omega]
              exact zj
        · rw [if_neg hj, if_neg (by omega), List.getElem?_eq_none (by omega)]
          rfl)
    refine RelG.mk' hr.defers hr.size hr.env hr.os hr.tape hr.output ?_
    have h5 : SatW (gmSP β gm' ++ (memSP β s.mem ++ (L.map (·.2) ++ g.F))) _ := SatW.perm (L := (grSP β (l, e, n, sz, zs) :: gmSP β gd) ++ (memSP β s.mem ++ (L.map (·.2) ++ g.F))) h4 ((setG_perm hl hg hd).symm.append_right _)
    exact h5.swapHead

theorem made_eq {P : Program} {e n : Nat} {i : TypeInfo} {z : List Ce} {zv : Value} (hzc : zv.cells = cellsOf β z) (e1 : z.length = i.size) (e3 : 0 < i.size) : (Array.range (n * i.size)).map (zv.cells[· % zv.cells.size]!) = cellsOf β (List.replicate n z).flatten := by
  rw [hzc, size_cellsOf]
  apply Array.ext_getElem?
  intro j
  rw [getElem?_cellsOf]
  simp only [Array.getElem?_map]
  by_cases hj : j < n * i.size
  · rw [rep_get z (by omega) n j (by rw [e1]; exact hj)]
    have hm : j % z.length < z.length := Nat.mod_lt _ (by omega)
    have e5 : (cellsOf β z)[j % z.length]! = z[j % z.length].den β := by
      rw [getElem!_pos _ _ (by rw [size_cellsOf]; exact hm)]
      simp [cellsOf]
    simp [hj, e5, List.getElem?_eq_getElem hm]
  · rw [List.getElem?_eq_none (by simp [e1]; omega)]
    simp [hj]
end

theorem run_makeSlice' {P : Program} {w : World} {t e : TypeId} {i : TypeInfo} {z : Value} (ht : P.underlying t = some (.slice e)) (hi : P.info? e = some i) (hz : i.zero = some z) (kl kc : IntKind) (l c : Nat) (hlc : l ≤ c) (hb : i.bytes * c ≤ 281474976710656) (h63 : c ≤ 9223372036854775807) :
    (Instr.makeSlice t (.int kl (Int.ofNat l)) (.int kc (Int.ofNat c))).run P w = .ok (.slice (some ⟨w.heap.size, 0, none⟩) l c) (w.alloc (.cells (madeCells z.cells (c * i.size)) e)) :=
  run_make w t e i z ht hi hz kl kc (Int.ofNat l) (Int.ofNat c) (Int.natCast_nonneg _) (Int.ofNat_le.2 hlc) (by show (i.bytes : Int) * (c : Int) ≤ _; rw [← Int.natCast_mul]; omega) (by show (c : Int) ≤ _; omega)

/-- An operation that makes or turns memory. -/
def effX (P : Program) (n : Nat) (s : GS) (o : Oper) : Option GS :=
  match dstOk n o.dst with
  | false => none
  | true => match o.op with
    | .pick c x y => match nrm (ev s.env c) with
      | some (.c (.v (.bool b))) => match ev s.env (match b with | true => x | false => y) with
        | some u => match putO o.dst u s.env with
          | some env => some { s with env := env }
          | none => none
        | none => none
      | _ => none
    | .alloc t => match zeroS P t with
      | some cs => newL s o.dst (.c (.loc s.nl 0)) t cs
      | none => none
    | .box t x => match ev s.env x with
      | some u => match cellsS u with
        | some cs => newL s o.dst (.c (.loc s.nl 0)) t cs
        | none => none
      | none => none
    | .buildSlice t m ps => match P.underlying t with
      | some (.slice e) => match rowS P s.env e m ps.toList with
        | some cs => newL s o.dst (.c (.locs s.nl 0 m m)) e cs
        | none => none
      | _ => none
    | .makeSlice t l c => match P.underlying t with
      | some (.slice e) => match nrm (ev s.env l) with
        | some (.c (.v (.int _ (.ofNat l)))) => match nrm (ev s.env c) with
          | some (.c (.v (.int _ (.ofNat c)))) => match P.info? e with
            | some i => match i.zero with
              | some _ => match zeroS P e with
                | some z => match Nat.beq z.length i.size with
                  | true => match Nat.blt 0 i.size with
                    | true => match Nat.ble l c with
                      | true => match Nat.ble (i.bytes * c) 281474976710656 with
                        | true => match Nat.ble c 9223372036854775807 with
                          | true => match repS c z with
                            | some cs => newL s o.dst (.c (.locs s.nl 0 l c)) e cs
                            | none => none
                          | false => none
                        | false => none
                      | false => none
                    | false => none
                  | false => none
                | none => none
              | none => none
            | none => none
          | _ => none
        | _ => none
      | _ => none
    | .store t x y => match ev s.env x with
      | some (.c (.loc l off)) => match ev s.env y with
        | some u => match cellsS u with
          | some ys => match P.info? t with
            | some i => match Nat.beq ys.length i.size with
              | true => match allPlain ys with
                | true => match lookM s.mem l with
                  | some (_, cs) => match Nat.ble (off + ys.length) cs.length with
                    | true => match fillS.setsO cs off ys with
                      | some zs => match setMo s.mem l zs with
                        | some mem' => match putO o.dst (.c (.v undef)) s.env with
                          | some env => some { s with env := env, mem := mem', low := minN s.low l }
                          | none => none
                        | none => none
                      | none => none
                    | false => none
                  | none => match lookG s.gm l with
                    | some (_, _, _, cs) => match Nat.ble (off + ys.length) cs.length with
                      | true => match fillS.setsO cs off ys with
                        | some zs => match setG s.gm l zs with
                          | some gm' => match putO o.dst (.c (.v undef)) s.env with
                            | some env => some { s with env := env, gm := gm', low := minN s.low l }
                            | none => none
                          | none => none
                        | none => none
                      | false => none
                    | none => none
                | false => none
              | false => none
            | none => none
          | none => none
        | none => none
      | _ => none
    | .call ⟨.builtin .append, args, ts⟩ => match args.toList with
      | [x, y] => match ts.toList with
        | [t, t'] => match Nat.beq t t' with
          | true => match ev s.env x with
            | some u => match ev s.env y with
              | some v => appE P s o.dst t u v
              | none => none
            | none => none
          | false => none
        | _ => none
      | _ => none
    | _ => none

theorem effX_grow {P : Program} {n : Nat} {s s' : GS} {o : Oper} (h : effX P n s o = some s') : Grow s s' := by
  unfold effX at h
  split at h <;> try (cases h; done)
  split at h <;> try (cases h; done)
  · -- pick
    split at h <;> try (cases h; done)
    split at h <;> try (cases h; done)
    rename_i u hu
    split at h <;> cases h
    rename_i hp
    exact Grow.env (fun b => ev_lt b.env hu) hp
  · split at h <;> try (cases h; done)
    rename_i hz
    exact newL_grow (fun b => zeroS_lt hz) (Nat.lt_succ_self _) h
  · split at h <;> try (cases h; done)
    rename_i hu
    split at h <;> try (cases h; done)
    rename_i hc
    exact newL_grow (fun b => cellsS_lt (ev_lt b.env hu) hc) (Nat.lt_succ_self _) h
  · split at h <;> try (cases h; done)
    split at h <;> try (cases h; done)
    rename_i hr
    exact newL_grow (fun b => rowS_lt b.env hr) (Nat.lt_succ_self _) h
  · split at h <;> try (cases h; done)
    split at h <;> try (cases h; done)
    split at h <;> try (cases h; done)
    split at h <;> try (cases h; done)
    split at h <;> try (cases h; done)
    split at h <;> try (cases h; done)
    rename_i z hz
    split at h <;> try (cases h; done)
    split at h <;> try (cases h; done)
    split at h <;> try (cases h; done)
    split at h <;> try (cases h; done)
    split at h <;> try (cases h; done)
    split at h <;> try (cases h; done)
    rename_i cs hr
    rw [repS_eq] at hr
    cases hr
    refine newL_grow (fun b => ?_) (Nat.lt_succ_self _) h
    intro x hx
    obtain ⟨l, hl, hx2⟩ := List.mem_flatten.1 hx
    obtain rfl := List.eq_of_mem_replicate hl
    exact zeroS_lt hz x hx2
  · split at h <;> try (cases h; done)
    split at h <;> try (cases h; done)
    rename_i u hu
    split at h <;> try (cases h; done)
    rename_i ys hys
    split at h <;> try (cases h; done)
    split at h <;> try (cases h; done)
    split at h <;> try (cases h; done)
    split at h
    · rename_i cs hl
      split at h <;> try (cases h; done)
      split at h <;> try (cases h; done)
      rename_i zs hz
      split at h <;> try (cases h; done)
      rename_i mem' hm
      split at h <;> cases h
      rename_i env hp
      have hzl : ∀ (b : Bd s), ∀ x ∈ zs, x.lt s.nl := fun b x hx => by
        rcases setsO_mem hz x hx with h1 | h1
        · exact (b.mem _ (lookM_mem hl)).2 x h1
        · exact cellsS_lt (ev_lt b.env hu) hys x h1
      exact ⟨fun b => ⟨b.env.putO (x := .c (.v undef)) trivial hp, setMo_lt (hzl b) b.mem hm, b.gm⟩, Nat.le_refl _, (minN_le _ _).1, fun b hb hn m0 g0 k1 k2 k3 k4 => ⟨setMo_keeps (Nat.le_trans hb (minN_le _ _).2) k1 k3 hm, k2⟩⟩
    · split at h <;> try (cases h; done)
      rename_i e nn sz cs hl
      split at h <;> try (cases h; done)
      split at h <;> try (cases h; done)
      rename_i zs hz
      split at h <;> try (cases h; done)
      rename_i gm' hm
      split at h <;> cases h
      rename_i env hp
      have hzl : ∀ (b : Bd s), ∀ x ∈ zs, x.lt s.nl := fun b x hx => by
        rcases setsO_mem hz x hx with h1 | h1
        · exact (b.gm _ (lookG_mem hl)).2 x h1
        · exact cellsS_lt (ev_lt b.env hu) hys x h1
      exact ⟨fun b => ⟨b.env.putO (x := .c (.v undef)) trivial hp, b.mem, setG_lt (hzl b) b.gm hm⟩, Nat.le_refl _, (minN_le _ _).1, fun b hb hn m0 g0 k1 k2 k3 k4 => ⟨k1, setG_keeps (Nat.le_trans hb (minN_le _ _).2) k2 k4 hm⟩⟩
  · split at h <;> try (cases h; done)
    split at h <;> try (cases h; done)
    split at h <;> try (cases h; done)
    split at h <;> try (cases h; done)
    rename_i u hu
    split at h <;> try (cases h; done)
    exact appE_grow (fun b => ev_lt b.env hu) h
end Go.Proofs.Ytngfadijcpnblaa
