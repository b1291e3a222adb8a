/- The executor is sound. -/
import Derived.Test.YtngfadijcpnblaaSxe
namespace Go.Proofs.Ytngfadijcpnblaa
open Go.RowKit

section
variable {g : Cx} {β : Nat → Nat} {env : Env} {mem : Mem} {bnd : Bnd} {L : Res} {a : Act} {w : World} {N : Act → World → Prop} {Q : Exit → Act → World → Prop}

theorem wp_value {o : Oper} {v : Value} {w' : World} (h : (execOp a.eval o).run g.P w = .ok (.value v) w') (hn : N (a.put o.dst v) w') : o.wp g.P a w N Q := by
  unfold Oper.wp; rw [h]; exact hn
theorem wp_skip' {o : Oper} {w' : World} (h : (execOp a.eval o).run g.P w = .ok .skip w') (hn : N (a.put o.dst undef) w') : o.wp g.P a w N Q := by
  unfold Oper.wp; rw [h]; exact hn

theorem free_parts {l : Nat} {cs : List Ce} (h : free l cs env mem bnd = true) : allNo l cs = true ∧ fresh l env mem bnd = true := by
  unfold free at h
  cases h1 : allNo l cs with
  | false => rw [h1] at h; cases h
  | true => rw [h1] at h; exact ⟨rfl, h⟩
theorem label_free {s l : Nat} {cs : List Ce} (h : label s cs env mem bnd = some l) : allNo l cs = true ∧ fresh l env mem bnd = true := by
  unfold label at h
  cases h1 : free s cs env mem bnd with
  | true => rw [h1] at h; cases h; exact free_parts h1
  | false =>
    rw [h1] at h
    cases h2 : free (s + 1000) cs env mem bnd with
    | true => rw [h2] at h; cases h; exact free_parts h2
    | false =>
      rw [h2] at h
      cases h3 : free (s + 2000) cs env mem bnd with
      | true => rw [h3] at h; cases h; exact free_parts h3
      | false => rw [h3] at h; cases h

/-- Behind an operation that makes a block. -/
theorem alloc_step {o : Oper} {d l : Nat} {t : Nat} {cs : List Ce} (hd : dstOk g.n o.dst = true) (ho : o.dst = some d) (hl : label d cs env mem bnd = some l) {mk : Nat → SV} (hmk : ∀ β' : Nat → Nat, (mk l).den β' = (mk l).den (fun _ => β' l))
    (hrun : (execOp a.eval o).run g.P w = .ok (.value ((mk l).den (fun _ => w.heap.size))) (w.alloc (.cells (cellsOf β cs) t)))
    (h : Rel g β env mem bnd L a w) (hC : Nx g ((d, mk l) :: env) ((l, t, cs) :: mem) bnd L N) : o.wp g.P a w N Q := by
  obtain ⟨h1, h2⟩ := label_free hl
  have hR := (h.alloc h2 t cs h1).put o.dst (mk l) hd
  rw [ho] at hR
  refine wp_value hrun ?_
  have e : (mk l).den (fun _ => w.heap.size) = (mk l).den (upd β l w.heap.size) := by rw [hmk (upd β l w.heap.size), upd_self]
  rw [e, ho]
  exact hC _ _ _ hR

theorem assume_rel {c : Operand} {b : Bool} {s0 : SV} (h : Rel g β env mem bnd L a w) (hc : ev env c = some s0) (hs0 : s0.den β = .bool b) : Rel g β (assume env c b) mem bnd L a w := by
  cases c with
  | tmp t =>
    refine ⟨h.defers, h.size, ?_, h.bnd, h.os, h.tape, h.output, h.sat⟩
    intro s x hx
    simp only [assume, look_cons] at hx
    by_cases e : t = s
    · subst e
      simp at hx
      subst hx
      have := h.env t _ hc
      rw [hs0] at this
      exact this
    · rw [if_neg e] at hx
      exact h.env s x hx
  | _ => exact h

theorem plain_one {β : Nat → Nat} {x : Ce} (h : x.plain = true) : (x.den β).oneCell' = true := by
  cases x with
  | v y => cases y <;> first | rfl | (simp [Ce.plain, plain] at h)
  | loc l o => rfl
  | locs l o n c => rfl
  | ifl t l o => rfl
  | gro l o n e => rfl
  | tl l o n z e => rfl
theorem allPlain_mem : ∀ {cs : List Ce}, allPlain cs = true → ∀ x ∈ cs, x.plain = true
  | [], _, x, hx => by cases hx
  | y :: r, h, x, hx => by
    unfold allPlain at h
    cases hy : y.plain with
    | false => rw [hy] at h; cases h
    | true =>
      rw [hy] at h
      cases hx with
      | head => exact hy
      | tail _ hm => exact allPlain_mem h x hm

theorem appS_eq : ∀ z r : List Ce, appS z r = some (z ++ r)
  | [], r => rfl
  | x :: z, r => by simp [appS, appS_eq z r]
theorem repS_eq (z : List Ce) : ∀ n, repS n z = some (List.replicate n z).flatten
  | 0 => rfl
  | n + 1 => by simp [repS, repS_eq z n, appS_eq, List.replicate_succ]
theorem rep_get (z : List Ce) (hz : 0 < z.length) : ∀ (n j : Nat), j < n * z.length → ((List.replicate n z).flatten)[j]? = z[j % z.length]?
  | 0, j, h => by omega
  | n + 1, j, h => by
    simp only [List.replicate_succ, List.flatten_cons, List.getElem?_append]
    by_cases hj : j < z.length
    · rw [if_pos hj, Nat.mod_eq_of_lt hj]
    · rw [Nat.succ_mul] at h
      rw [if_neg hj, rep_get z hz n (j - z.length) (by omega), ← Nat.mod_eq_sub_mod (by omega)]

theorem rowS_ok (h : Rel g β env mem bnd L a w) {t e n : Nat} {ps : Array (Nat × Operand)} {cs : List Ce} (hu : g.P.underlying t = some (.slice e)) (hr : rowS g.P env e n ps.toList = some cs) :
    (Instr.buildSlice t n (ps.map fun x => (x.1, a.eval x.2))).run g.P w = .ok (.slice (some ⟨w.heap.size, 0, none⟩) n n) (w.alloc (.cells (cellsOf β cs) e)) := by
  unfold rowS at hr
  cases hi : g.P.info? e with
  | none => simp [hi] at hr
  | some i =>
    simp only [hi] at hr
    cases hz : zeroS g.P e with
    | none => simp [hz] at hr
    | some z =>
      simp only [hz] at hr
      cases h1 : Nat.beq z.length i.size with
      | false => simp only [h1] at hr; cases hr
      | true =>
        simp only [h1] at hr
        cases h2 : Nat.ble (n * i.size) 16777216 with
        | false => simp only [h2] at hr; cases hr
        | true =>
          simp only [h2] at hr
          cases h3 : Nat.blt 0 i.size with
          | false => simp only [h3] at hr; cases hr
          | true =>
            simp only [h3] at hr
            rw [repS_eq] at hr
            simp only at hr
            have e1 : z.length = i.size := by simpa using h1
            have e2 : n * i.size ≤ 16777216 := by simpa using h2
            have e3 : 0 < i.size := by simpa [Nat.blt_eq] using h3
            have hf := fillS_ok h (fun k => some (k * i.size, i.size)) ps.toList _ cs hr
            obtain ⟨zv, hzr, hzc⟩ := zeroS_den hz w
            have hzc := hzc β
            have hbase : (Array.range (n * i.size)).map (zv.cells[· % zv.cells.size]!) = cellsOf β (List.replicate n z).flatten := by
              rw [hzc, size_cellsOf]
              apply Array.ext_getElem?
              intro j
              rw [getElem?_cellsOf]
              simp only [Array.getElem?_map]
              by_cases hj : j < n * i.size
              · rw [rep_get z (by omega) n j (by rw [e1]; exact hj)]
                have hm : j % z.length < z.length := Nat.mod_lt _ (by omega)
                have e5 : (cellsOf β z)[j % z.length]! = z[j % z.length].den β := by
                  rw [getElem!_pos _ _ (by rw [size_cellsOf]; exact hm)]
                  simp [cellsOf]
                simp [hj, e5, List.getElem?_eq_getElem hm]
              · rw [List.getElem?_eq_none (by simp [e1]; omega)]
                simp [hj]
            have hps : (ps.map fun x => (x.1, a.eval x.2)).toList = ps.toList.map fun x => (x.1, a.eval x.2) := by simp
            by_cases hn : n * i.size = 0
            · have hn0 : n = 0 := by
                rcases Nat.mul_eq_zero.1 hn with h0 | h0
                · exact h0
                · omega
              subst hn0
              rw [show (List.replicate 0 z).flatten = [] from rfl] at hf
              have hf' : Instr.fill (fun k => some (k * i.size, i.size)) #[] (ps.toList.map fun x => (x.1, a.eval x.2)) = some (cellsOf β cs) := hf
              have e0 : (Array.map (fun _ => (default : Value)) (Array.range 0)) = #[] := by apply Array.ext'; simp
              simp [Instr.buildSlice, run_underlying hu, sizeOf, typeInfo, hi, e0, hf', newRow]
            · rw [← hbase] at hf
              have hn' : ¬ (n = 0 ∨ i.size = 0) := fun hor => hn (Nat.mul_eq_zero.2 hor)
              have hle : ¬ 16777216 < n * i.size := by omega
              simp only [Instr.buildSlice, Sem.run_bind, run_underlying hu, Result.andThen_ok, sizeOf, typeInfo, run_program, hi, Sem.run_pure]
              simp only [Sem.run_ite, show (2 : Nat) ^ 24 = 16777216 from rfl, gt_iff_lt, if_neg hle, if_neg hn, Sem.run_bind, hzr, Result.andThen_ok, Sem.run_pure, hps, hf, newRow, run_newObj, World.alloc_eq]

theorem store_ok (h : Rel g β env mem bnd L a w) {l off tt t : Nat} {cs ys zs : List Ce} {i : TypeInfo} {v : Value} (hl : lookM mem l = some (tt, cs)) (hv : v.cells = cellsOf β ys) (hi : g.P.info? t = some i) (hs : ys.length = i.size)
    (hfit : off + ys.length ≤ cs.length) (hp : allPlain ys = true) (hz : fillS.setsO cs off ys = some zs) :
    ∃ w', (Instr.storeAt t (.pointer (some ⟨β l, off, none⟩)) v).run g.P w = .ok () w' ∧ Rel g β env (setM mem l zs) bnd L a w' := by
  have hb := h.block hl
  have hst := run_storeCells_at g.P (β l) off tt (ys.map (Ce.den β)) 0 (cellsOf β cs) w hb (by simp [size_cellsOf]; omega) (by
    intro v hv
    obtain ⟨x, hx, rfl⟩ := List.mem_map.1 hv
    exact plain_one (allPlain_mem hp x hx))
  have hcs : (((cellsOf β cs).toList.take (off + 0)) ++ ys.map (Ce.den β) ++ (cellsOf β cs).toList.drop (off + 0 + (ys.map (Ce.den β)).length)).toArray = cellsOf β zs := by
    rw [← setsO_den hz hfit, ← Array.foldl_toList, Array.toList_zipIdx, show (cellsOf β ys).toList = ys.map (Ce.den β) from by simp [cellsOf], fold_set _ off 0 _ (by simp [size_cellsOf]; omega)]
  rw [hcs] at hst
  refine ⟨w.setRow (β l) (cellsOf β zs), ?_, h.setBlock hl rfl rfl rfl (fun n hn => setRow_other w _ n _ hn) (setRow_heap w _ _ _ _ _ hb)⟩
  have e : v.cells.toList = ys.map (Ce.den β) := by rw [hv]; simp [cellsOf]
  have e2 : v.cells.size = i.size := by rw [hv, size_cellsOf, hs]
  simp [Instr.storeAt, Instr.sureAddr, storeVar, sizeOf, typeInfo, hi, e, e2, hst]

theorem Nx.bind {l : Nat} (h : ∀ b : Nat, Nx g env mem ((l, b) :: bnd) L N) (hn : lookB bnd l = none) : Nx g env mem bnd L N := by
  intro β a w hr
  refine h (β l) β a w ⟨hr.defers, hr.size, hr.env, ?_, hr.os, hr.tape, hr.output, hr.sat⟩
  intro k b hk
  rw [lookB_cons] at hk
  split at hk
  · rename_i e; subst e; cases hk; rfl
  · exact hr.bnd k b hk

theorem unbC_none {x : Ce} {l : Nat} (h : unbC bnd x = some l) : lookB bnd l = none := by
  cases x with
  | v y => simp [unbC] at h
  | loc k o =>
    simp only [unbC] at h
    cases hk : lookB bnd k with
    | some b => rw [hk] at h; cases h
    | none => rw [hk] at h; cases h; exact hk
  | locs k o n c =>
    simp only [unbC] at h
    cases hk : lookB bnd k with
    | some b => rw [hk] at h; cases h
    | none => rw [hk] at h; cases h; exact hk
  | ifl t k o =>
    simp only [unbC] at h
    cases hk : lookB bnd k with
    | some b => rw [hk] at h; cases h
    | none => rw [hk] at h; cases h; exact hk
  | gro k o n e => simp [unbC] at h
  | tl k o n z e => simp [unbC] at h
theorem unbCs_none : ∀ {cs : List Ce} {l : Nat}, unbCs bnd cs = some l → lookB bnd l = none
  | [], l, h => by simp [unbCs] at h
  | x :: r, l, h => by
    simp only [unbCs] at h
    cases hx : unbC bnd x with
    | some k => rw [hx] at h; cases h; exact unbC_none hx
    | none => rw [hx] at h; exact unbCs_none h
theorem unbS_none {s : SV} {l : Nat} (h : unbS bnd s = some l) : lookB bnd l = none := by
  cases s with
  | c x => exact unbC_none h
  | agg cs => exact unbCs_none h
  | tup vs => simp [unbS] at h
  | kb b => simp [unbS] at h
  | tps vs => simp [unbS] at h
theorem unbO_none : ∀ {xs : List Operand} {l : Nat}, unbO env bnd xs = some l → lookB bnd l = none
  | [], l, h => by simp [unbO] at h
  | x :: r, l, h => by
    simp only [unbO] at h
    cases hx : ev env x with
    | none => rw [hx] at h; exact unbO_none h
    | some s =>
      rw [hx] at h
      cases hs : unbS bnd s with
      | some k => simp only [hs] at h; cases h; exact unbS_none hs
      | none => simp only [hs] at h; exact unbO_none h

set_option maxHeartbeats 1000000 in
theorem opStep_sound {o : Oper} {S C : Env → Mem → Bnd → Res → Prop} {D : Env → Prop} {R : Env → Bnd → Prop} (hr : Rel g β env mem bnd L a w)
    (hS : S env mem bnd L → OneC g o N Q a w)
    (hC : ∀ env mem, C env mem bnd L → Nx g env mem bnd L N)
    (hD : ∀ env, D env → Nx g env mem bnd L N)
    (hR : ∀ env' bnd', R env' bnd' → Rel g β env' mem bnd' L a w → OneC g o N Q a w)
    (h : opStep g env mem bnd L o S C D R) : OneC g o N Q a w := by
  unfold opStep at h
  simp only [putC_eq, assumeC_eq] at h
  split at h
  · exact hS h
  rename_i hd
  have hp := pureOp_ok hr o
  split at h
  · rename_i x hx
    rw [hx] at hp
    exact wp_value hp (hC _ _ h _ _ _ (hr.put o.dst x hd))
  · rename_i cs hx
    rw [hx] at hp
    exact wp_value hp (hC _ _ h _ _ _ (hr.put o.dst (.agg cs) hd))
  · rename_i k n hx
    rw [hx] at hp
    exact wp_value hp (hD _ h.out _ _ _ (hr.put o.dst (.c (.v (.int k (k.wrap n)))) hd))
  · clear hp
    split at h
    · -- pick
      rename_i c x y hop
      have key : ∀ (b : Bool), a.eval c = .bool b → ∀ (z : Operand) (s : SV), ev env z = some s → (if b then z = x else z = y) → (execOp a.eval o).run g.P w = .ok (.value (s.den β)) w := by
        intro b ecb z s hz hzb
        have ez := hr.ev hz
        cases b
        · simp only [Bool.false_eq_true, if_false] at hzb
          subst hzb
          simp [execOp, hop, ecb, asBool, ez]
        · simp only [if_true] at hzb
          subst hzb
          simp [execOp, hop, ecb, asBool, ez]
      split at h
      · rename_i hc
        split at h
        · rename_i u hu
          exact wp_value (key true (hr.ev hc) x u hu (by simp)) (hC _ _ h _ _ _ (hr.put o.dst u hd))
        · exact hS h
      · rename_i hc
        split at h
        · rename_i v hv
          exact wp_value (key false (hr.ev hc) y v hv (by simp)) (hC _ _ h _ _ _ (hr.put o.dst v hd))
        · exact hS h
      · rename_i b hc
        obtain ⟨h1, h2⟩ := h.out
        cases b
        · exact hR _ _ (h2 rfl) (assume_rel hr hc rfl)
        · exact hR _ _ (h1 rfl) (assume_rel hr hc rfl)
      · exact hS h
    · -- alloc
      rename_i t hop
      split at h
      · rename_i cs hz
        split at h
        · rename_i d hdst
          split at h
          · rename_i l hl
            obtain ⟨z, hzr, hzc⟩ := zeroS_den hz w
            refine alloc_step hd hdst hl (mk := fun l => .c (.loc l 0)) (fun _ => rfl) ?_ hr (hC _ _ h)
            simp [execOp, hop, Instr.alloc, hzr, newVar, newRow, hzc β, SV.den, Ce.den]
          · exact hS h
        · exact hS h
      · exact hS h
    · -- box
      rename_i t x hop
      split at h
      · rename_i s hx
        split at h
        · rename_i cs hcs
          split at h
          · rename_i d hdst
            split at h
            · rename_i l hl
              refine alloc_step hd hdst hl (mk := fun l => .c (.loc l 0)) (fun _ => rfl) ?_ hr (hC _ _ h)
              simp only [execOp, hop, hr.ev hx, Instr.box, newVar, newRow, cellsS_den hcs β, Sem.run_bind, run_newObj, Sem.run_pure, Result.andThen_ok, World.alloc_eq]
              rfl
            · exact hS h
          · exact hS h
        · exact hS h
      · exact hS h
    · -- buildSlice
      rename_i t n ps hop
      split at h
      · rename_i e hu
        split at h
        · rename_i cs hcs
          split at h
          · rename_i d hdst
            split at h
            · rename_i l hl
              refine alloc_step hd hdst hl (mk := fun l => .c (.locs l 0 n n)) (fun _ => rfl) ?_ hr (hC _ _ h)
              have := rowS_ok hr hu hcs
              simp [execOp, hop, this, SV.den, Ce.den]
            · exact hS h
          · exact hS h
        · exact hS h
      · exact hS h
    · -- store
      rename_i t x y hop
      split at h
      · rename_i l off hx
        split at h
        · rename_i tt cs hl
          split at h
          · rename_i s hy
            split at h
            · rename_i ys hys
              split at h
              · rename_i i hi
                split at h
                · rename_i hsz
                  split at h
                  · rename_i hfit
                    split at h
                    · rename_i hpl
                      split at h
                      · rename_i zs hz
                        rw [setMo_eq] at h
                        simp only at h
                        obtain ⟨w', hrun, hR⟩ := store_ok hr hl (cellsS_den hys β) hi (by simpa using hsz) (by simpa using hfit) hpl hz
                        have ex := hr.ev hx
                        have ey := hr.ev hy
                        refine wp_skip' (w' := w') ?_ ?_
                        · have ex' : a.eval x = .pointer (some ⟨β l, off, none⟩) := ex
                          simp only [execOp, hop, ex', ey, Sem.run_bind, hrun, Result.andThen_ok, Sem.run_pure]
                        · have := hR.put o.dst (.c (.v undef)) hd
                          exact hC _ _ h _ _ _ this
                      · exact hS h
                    · exact hS h
                  · exact hS h
                · exact hS h
              · exact hS h
            · exact hS h
          · exact hS h
        · exact hS h
      · exact hS h
    · -- the others
      split at h
      · rename_i l hl
        refine hR _ _ (h (β l)) ⟨hr.defers, hr.size, hr.env, ?_, hr.os, hr.tape, hr.output, hr.sat⟩
        intro k b hk
        rw [lookB_cons] at hk
        split at hk
        · rename_i e; subst e; cases hk; rfl
        · exact hr.bnd k b hk
      · exact hS h

/-! ### Control -/
theorem Ret.steps {k k' : List Item} {a' : Act} {w' : World} (hs : ∀ cs, Steps g.P (lone ((base g).at a k) cs w) (lone ((base g).at a' k') cs w')) (h : Ret g k' a' w') : Ret g k a w := by
  intro cs
  obtain ⟨e, w₂, fr, h1, h2, h3, h4⟩ := h cs
  exact ⟨e, w₂, fr, h1, Comes.of_steps (hs cs) h2, h3, h4⟩
theorem Ret.one {k k' : List Item} {a' : Act} {w' : World} (hs : ∀ cs, step g.P (lone ((base g).at a k) cs w) = .next (lone ((base g).at a' k') cs w')) (h : Ret g k' a' w') : Ret g k a w :=
  Ret.steps (fun cs => .one (hs cs)) h
theorem Ret.code {c : Code} {k : List Item} (h : c.wp g.P (Qn g k) a w) : Ret g (.code c :: k) a w := by
  intro cs
  obtain ⟨e, a', w', hq, harr⟩ := h (base g) k cs
  cases e with
  | normal =>
    obtain ⟨e, w₂, fr, h1, h2, h3, h4⟩ := (show Ret g k a' w' from hq) cs
    exact ⟨e, w₂, fr, h1, Comes.of_steps harr h2, h3, h4⟩
  | _ => exact hq.elim
theorem Ret.region {i : Nat} {ops : Array Oper} {k : List Item} (h : headC g (.ops ops ops.toList k) a w) : Ret g (.code (.region i ops false) :: k) a w :=
  Ret.code (wp_region_list h)

theorem OpsC.wanted {all : Array Oper} {o : Oper} {rest : List Oper} {k : List Item} (hw : Region.wanted o (yielded all a.tmps) = true) (h : OneC g o (OpsC g all rest k) (Qn g k) a w) : OpsC g all (o :: rest) k a w := by
  show wpList g.P all (Qn g k) (o :: rest) a w
  unfold wpList
  rw [if_pos hw]
  exact .inl h
theorem OpsC.skipped {all : Array Oper} {o : Oper} {rest : List Oper} {k : List Item} (hw : Region.wanted o (yielded all a.tmps) = false) (h : OpsC g all rest k (a.put o.dst undef) w) : OpsC g all (o :: rest) k a w := by
  show wpList g.P all (Qn g k) (o :: rest) a w
  unfold wpList
  rw [if_neg (by rw [hw]; simp)]
  exact h

theorem yielded_of (hr : Rel g β env mem bnd L a w) {all : Array Oper} {j : Nat} {oj : Oper} {d : Nat} {s : SV} (hj : getL all.toList j = some oj) (hd : oj.dst = some d) (hl : look env d = some s) :
    yielded all a.tmps j = match s.den β with | .bool b => some b | _ => none := by
  rw [getL_eq, Array.getElem?_toList] at hj
  unfold yielded
  rw [hj]
  simp only [Option.bind_some, hd, hr.env d s hl]
  cases s.den β <;> rfl

theorem assume_slot {d : Nat} {b : Bool} (hr : Rel g β env mem bnd L a w) (h : look env d = some (.c (.v (.bool b)))) : Rel g β ((d, .kb b) :: env) mem bnd L a w :=
  assume_rel (c := .tmp d) hr h rfl

/-- What a guard comes to. -/
theorem guardS_yes (hr : Rel g β env mem bnd L a w) {ops : Array Oper} {o : Oper} (h : guardS ops.toList env o = .yes) : Region.wanted o (yielded ops a.tmps) = true := by
  unfold guardS at h
  split at h
  · rename_i hg; simp [Region.wanted, hg]
  · rename_i j want hg
    split at h <;> try (cases h; done)
    rename_i oj hj
    split at h <;> try (cases h; done)
    rename_i d hd
    split at h <;> try (cases h; done)
    · rename_i hl
      have hy := yielded_of hr hj hd hl
      split at h <;> first | (cases h; done) | simp [Region.wanted, hg, hy, SV.den]
    · rename_i hl
      have hy := yielded_of hr hj hd hl
      split at h <;> first | (cases h; done) | simp [Region.wanted, hg, hy, SV.den]
theorem guardS_no (hr : Rel g β env mem bnd L a w) {ops : Array Oper} {o : Oper} (h : guardS ops.toList env o = .no) : Region.wanted o (yielded ops a.tmps) = false := by
  unfold guardS at h
  split at h
  · cases h
  · rename_i j want hg
    split at h <;> try (cases h; done)
    rename_i oj hj
    split at h <;> try (cases h; done)
    rename_i d hd
    split at h <;> try (cases h; done)
    · rename_i hl
      have hy := yielded_of hr hj hd hl
      split at h <;> first | (cases h; done) | simp [Region.wanted, hg, hy, SV.den]
    · rename_i hl
      have hy := yielded_of hr hj hd hl
      split at h <;> first | (cases h; done) | simp [Region.wanted, hg, hy, SV.den]
    · rename_i hl
      have hy := yielded_of hr hj hd hl
      simp [Region.wanted, hg, hy, SV.den, Ce.den]
theorem guardS_br {ops : Array Oper} {o : Oper} {d : Nat} {b : Bool} (h : guardS ops.toList env o = .br d b) : look env d = some (.c (.v (.bool b))) := by
  unfold guardS at h
  split at h
  · cases h
  · split at h <;> try (cases h; done)
    split at h <;> try (cases h; done)
    split at h <;> try (cases h; done)
    · split at h <;> cases h
    · split at h <;> cases h
    · rename_i hl; cases h; exact hl

set_option maxHeartbeats 1000000 in
theorem sx_sound {stop : Bool} : ∀ (n : Nat) (env : Env) (mem : Mem) (bnd : Bnd) (L : Res) (c : Ctl), sx stop n g env mem bnd L c → Nx g env mem bnd L (headC g c)
  | 0, env, mem, bnd, L, .run k, h => h
  | 0, env, mem, bnd, L, .ops all rest k, h => h
  | n + 1, env, mem, bnd, L, .run k, h => by
    unfold sx at h
    simp only [putC_eq, assumeC_eq] at h
    split at h
    · exact fun β a w hr => Ret.one (fun cs => step_skip) (sx_sound n _ _ _ _ _ h β a w hr)
    · exact fun β a w hr => Ret.one (fun cs => step_label) (sx_sound n _ _ _ _ _ h β a w hr)
    · exact fun β a w hr => Ret.one (fun cs => step_inBlock) (sx_sound n _ _ _ _ _ h β a w hr)
    · exact fun β a w hr => Ret.one (fun cs => step_lone_go (by simp [stepG, stepG.exec, Frame.at])) (sx_sound n _ _ _ _ _ h β a w hr)
    · exact fun β a w hr => Ret.one (fun cs => step_seq) (sx_sound n _ _ _ _ _ h β a w hr)
    · exact fun β a w hr => Ret.one (fun cs => step_block) (sx_sound n _ _ _ _ _ h β a w hr)
    · exact fun β a w hr => Ret.one (fun cs => step_lone_go (by simp [stepG, stepG.exec, Frame.at])) (sx_sound n _ _ _ _ _ h β a w hr)
    · split at h
      · rename_i k' hk
        exact fun β a w hr => Ret.one (fun cs => step_exit hk) (sx_sound n _ _ _ _ _ h β a w hr)
      · exact h
    · split at h
      · rename_i hc
        exact fun β a w hr => Ret.one (fun cs => step_cond (t := true) (hr.ev hc)) (sx_sound n _ _ _ _ _ h β a w hr)
      · rename_i hc
        exact fun β a w hr => Ret.one (fun cs => step_cond (t := false) (hr.ev hc)) (sx_sound n _ _ _ _ _ h β a w hr)
      · rename_i b hc
        intro β a w hr
        obtain ⟨h1, h2⟩ := h.out
        cases b
        · exact h2 rfl β a w (assume_rel hr hc rfl)
        · exact h1 rfl β a w (assume_rel hr hc rfl)
      · exact h
    · exact fun β a w hr => Ret.region (sx_sound n _ _ _ _ _ h β a w hr)
    · exact h
  | n + 1, env, mem, bnd, L, .ops all rest k, h => by
    unfold sx at h
    simp only [putC_eq, assumeC_eq] at h
    split at h
    · split at h
      · exact h
      · exact sx_sound n _ _ _ _ (.run k) h
    · rename_i o rest
      intro β a w hr
      split at h
      · rename_i hg
        have hw := guardS_yes hr hg
        refine OpsC.wanted hw (opStep_sound hr (fun h => h β a w hr) (fun env mem h => sx_sound n env mem bnd L (.ops all rest k) h) (fun env h => h) (fun env' bnd' h hr' => ?_) h)
        have h2 : wpList g.P all (Qn g k) (o :: rest) a w := h β a w hr'
        unfold wpList at h2
        rw [if_pos hw] at h2
        rcases h2 with h2 | ⟨_, a0, w0, h2⟩
        · exact h2
        · exact h2.elim
      · rename_i hg
        split at h
        · rename_i hdst
          exact OpsC.skipped (guardS_no hr hg) (sx_sound n _ _ _ _ _ h β _ w (hr.put o.dst (.c (.v undef)) hdst))
        · exact h β a w hr
      · rename_i d b hg
        obtain ⟨h1, h2⟩ := h.out
        have hl := guardS_br hg
        cases b
        · exact h2 rfl β a w (assume_slot hr hl)
        · exact h1 rfl β a w (assume_slot hr hl)
      · exact h β a w hr

theorem go (n : Nat) {c : Ctl} (h : sx false n g env mem bnd L c) : Nx g env mem bnd L (headC g c) := sx_sound n _ _ _ _ _ h
/-- To the end of the region. -/
theorem goR (n : Nat) {c : Ctl} (h : sx true n g env mem bnd L c) : Nx g env mem bnd L (headC g c) := sx_sound n _ _ _ _ _ h
end
end Go.Proofs.Ytngfadijcpnblaa
