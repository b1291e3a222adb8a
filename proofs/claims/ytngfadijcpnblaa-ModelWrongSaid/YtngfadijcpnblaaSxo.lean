/- Rules: loops that are unrolled; arrays of the call's own at an index that is written out. -/
import Derived.Test.YtngfadijcpnblaaSxm
import Derived.Test.YtngfadijcpnblaaSxl
namespace Go.Proofs.Ytngfadijcpnblaa
open Go.RowKit
section
variable {g : Cx} {β : Nat → Nat} {env : Env} {mem : Mem} {bnd : Bnd} {L : Res} {a : Act} {w : World} {N : Act → World → Prop} {Q : Exit → Act → World → Prop} {c : Code} {k : List Item}

theorem Nx.unroll (h : Nx g env mem bnd L (RunC g (.code c :: .inLoop c :: k))) : Nx g env mem bnd L (RunC g (.code (.loop c) :: k)) :=
  fun β a w hr => Ret.one (fun _ => step_loop) (h β a w hr)
theorem Nx.again (h : Nx g env mem bnd L (RunC g (.code c :: .inLoop c :: k))) : Nx g env mem bnd L (RunC g (.inLoop c :: k)) :=
  fun β a w hr => Ret.one (fun _ => step_inLoop) (h β a w hr)

theorem arr_run (hr : Rel g β env mem bnd L a w) {o : Oper} {t e : TypeId} {x i : Operand} {l off n sz by_ j : Nat} {kk : IntKind} (ho : o.op = .indexAddr t x i) (hx : ev env x = some (.c (.loc l off))) (hi : ev env i = some (.c (.v (.int kk j)))) (ht : g.P.underlying t = some (.array n e)) (he : elemI g.P e = some (sz, by_)) (hj : j < n) (w' : World) :
    (execOp a.eval o).run g.P w' = .ok (.value ((SV.c (.loc l (off + j * sz))).den β)) w' := by
  obtain ⟨ei, zz, hei, hz, hzs, hpos, hez, hby⟩ := elemI_ok he
  have e1 : a.eval x = .pointer (some ⟨β l, off, none⟩) := hr.ev hx
  have e2 : a.eval i = .int kk j := hr.ev hi
  have e3 : (j : Int) < n := by omega
  simp [execOp, ho, e1, e2, Instr.indexAt, Instr.sureAddr, asIntOf, run_underlying ht, e3, sizeOf, typeInfo, hei, hez, add_plain', SV.den, Ce.den]
  try (intro hbad; omega)
theorem Nx.arr {o : Oper} {t e : TypeId} {x i : Operand} {l off n sz by_ j q : Nat} {kk : IntKind} {iv : Int} (ho : o.op = .indexAddr t x i) (hx : ev env x = some (.c (.loc l off))) (hi : ev env i = some (.c (.v (.int kk iv)))) (ht : g.P.underlying t = some (.array n e)) (he : elemI g.P e = some (sz, by_)) (hd : dstOk g.n o.dst = true) (hiv : iv = (j : Int)) (hj : j < n) (hq : off + j * sz = q)
    (hk : Nx g (putE o.dst (.c (.loc l q)) env) mem bnd L N) : Nx g env mem bnd L (OneC g o N Q) := by
  subst hiv; subst hq
  exact Nx.val hd (fun _ _ _ hr w' => arr_run hr ho hx hi ht he hj w') hk
theorem Nx.hoArr {T : World → Prop} {o : Oper} {t e : TypeId} {x i : Operand} {l off n sz by_ j q : Nat} {kk : IntKind} {iv : Int} (ho : o.op = .indexAddr t x i) (hx : ev env x = some (.c (.loc l off))) (hi : ev env i = some (.c (.v (.int kk iv)))) (ht : g.P.underlying t = some (.array n e)) (he : elemI g.P e = some (sz, by_)) (hd : dstOk g.n o.dst = true) (hiv : iv = (j : Int)) (hj : j < n) (hq : off + j * sz = q)
    (hk : Nx g (putE o.dst (.c (.loc l q)) env) mem bnd L N) : Nx g env mem bnd L (HoC g T o N) := by
  subst hiv; subst hq
  exact Nx.hoVal hd (fun _ _ _ hr w' => arr_run hr ho hx hi ht he hj w') hk
/-- append of a row of the call's own to a slice without room, which stays as it is. -/
theorem Nx.appendG (nm nm2 : Nat) {o : Oper} {t e : TypeId} {x y : Operand} {A : Option Addr} {n : Nat} {L2 : Res} {S : SP} {sz l m c' tt : Nat} {cells news : List Value} {by_ : Nat} {cs : List Ce}
    (ho : o.op = .call ⟨.builtin .append, #[x, y], #[t, t]⟩) (hx : ev env x = some (.c (.v (.slice A n n)))) (hy : ev env y = some (.c (.locs l 0 m c'))) (hl : lookM mem l = some (tt, cs)) (hv : cesV bnd cs = some news)
    (ht : g.P.underlying t = some (.slice e)) (he : elemI g.P e = some (sz, by_)) (hd : dstOk g.n o.dst = true)
    (hp2 : takeR nm2 L = some (S, L2)) (hs : Sees S A n sz cells) (hm : 0 < m) (hlen : Nat.beq news.length (m * sz) = true) (h63 : n + m ≤ maxLen) (hbytes : (n + m) * by_ ≤ 140737488355328)
    (hk : ∀ A' c'', Nx g (putE o.dst (.c (.v (.slice A' (n + m) c''))) env) mem bnd ((nm, ownS e A' (n + m) c'' sz (cells ++ news)) :: L) N) : Nx g env mem bnd L (OneC g o N Q) := by
  intro β a w hr
  obtain ⟨ei, z, hei, hz, hzs, hpos, hes, hby⟩ := elemI_ok he
  subst hes
  subst hby
  have e1 : a.eval x = .slice A n n := hr.ev hx
  have e2 : a.eval y = .slice (some ⟨β l, 0, none⟩) m c' := hr.ev hy
  have hblk := hr.block hl
  have hcv : cellsOf β cs = news.toArray := by unfold cellsOf; rw [cesV_den hr.bnd hv]
  obtain ⟨hln, hrd⟩ : Rd (hw w) A n ei.size cells := by
    obtain ⟨r, h, x1, x2, x3, r1, h1', h2', y1, y2, y3, y4, y5, y6⟩ := hr.picked (takeR_pick hp2)
    exact (hs r1 h1' (PH.dj_mono x3 y1 y2) y5).mono (PH.un_le (PH.le_trans y1 x1) (PH.le_trans y2 x2))
  have hnl : news.length = m * ei.size := by simpa using hlen
  have hnews : ∀ j u, news[j]? = some u → w.cell? ((⟨β l, 0, none⟩ : Addr).add j) = some u := fun j u hu => by
    rw [add_plain', Nat.zero_add, cell_of_row w _ _ _ _ _ hblk, hcv]
    simpa using hu
  have hsm : n + m ≤ 9223372036854775807 := by simp only [maxLen] at h63; omega
  have hge := grownCap_ge w (n + m) n e
  have hcm := grownCap_le_maxLen w (n + m) n e h63
  have key : ∃ w', (Builtin.append_ #[t, t] o.type #[.slice A n n, .slice (some ⟨β l, 0, none⟩) m c']).run g.P w = .ok (.slice (some ⟨w.heap.size, 0, none⟩) (n + m) (grownCap w (n + m) n e)) w' ∧
      w' = w.drew.alloc (.cells (cells.toArray ++ news.toArray ++ Builtin.zeroCells z.cells (grownCap w (n + m) n e - (n + m))) e) := by
    cases A with
    | none =>
      have hn0 : n = 0 := by
        rcases Nat.eq_zero_or_pos n with h | h
        · exact h
        · obtain ⟨b, o', _, _, _, hh, _⟩ := hrd h; cases hh
      subst hn0
      have hc0 : cells = [] := List.eq_nil_of_length_eq_zero (by rw [hln]; omega)
      subst hc0
      have := run_append_nil (P := g.P) w t o.type e ei z ht hei hz ⟨β l, 0, none⟩ m c' news hnl hnews hm (by omega) (by simp only [Nat.zero_add] at hbytes; omega)
      refine ⟨_, ?_, rfl⟩
      simp only [Nat.zero_add] at this ⊢
      rw [this]
      simp
    | some ad =>
      have hold : ∀ j v, cells[j]? = some v → w.cell? (ad.add j) = some v := by
        intro j v hj
        have hjl : j < cells.length := (List.getElem?_eq_some_iff.1 hj).1
        rcases Nat.eq_zero_or_pos n with h | h
        · subst h; omega
        · obtain ⟨b, off, cs2, t2, fr2, hh, hb, hc⟩ := hrd h
          cases hh
          rw [add_plain', cell_of_row w _ _ _ _ _ hb, hc j (by omega)]
          exact hj
      exact ⟨_, run_append_grow (P := g.P) w t o.type e ei z ht hei hz ad n n cells hln hold ⟨β l, 0, none⟩ m c' news hnl hnews (by omega) (by omega) (growslice_fits (by omega) hbytes), rfl⟩
  obtain ⟨w', hrun, hw'⟩ := key
  have hrun' : (execOp a.eval o).run g.P w = .ok (.value (.slice (some ⟨w.heap.size, 0, none⟩) (n + m) (grownCap w (n + m) n e))) w' := by
    simp [execOp, ho, resolve, e1, e2, invoke, builtin, hrun]
  refine wp_value hrun' (hk (some ⟨w.heap.size, 0, none⟩) (grownCap w (n + m) n e) β _ _ ?_)
  have hsat : SatW (memSP β mem ++ ((ownS e (some ⟨w.heap.size, 0, none⟩) (n + m) (grownCap w (n + m) n e) ei.size (cells ++ news) :: L.map (·.2)) ++ g.F)) w' := by
    have h1 := (hr.sat.heap (w' := w.drew) rfl).alloc (.cells (cells.toArray ++ news.toArray ++ Builtin.zeroCells z.cells (grownCap w (n + m) n e - (n + m))) e)
    rw [← hw'] at h1
    have h2 := h1.imp (Q := ownS e (some ⟨w.heap.size, 0, none⟩) (n + m) (grownCap w (n + m) n e) ei.size (cells ++ news)) (fun r h hb => by
      refine ⟨by rw [List.length_append, hln, hnl, Nat.add_mul], .inr ⟨w.heap.size, _, rfl, hb, hge, hcm, ?_, ?_⟩⟩
      · simp only [Array.size_append, List.size_toArray, size_zeroCells, hzs, hln, hnl, ← Nat.add_mul]
        congr 1
        omega
      · have hlen2 : (cells ++ news).length = (n + m) * ei.size := by rw [List.length_append, hln, hnl, Nat.add_mul]
        simp only [Array.toList_append, List.append_assoc]
        rw [← List.append_assoc, ← hlen2]
        exact List.take_left)
    exact h2.perm (List.perm_middle.symm)
  have hwo : w'.os = w.os ∧ w'.tape = w.tape ∧ w'.output = w.output := by subst hw'; exact ⟨rfl, rfl, rfl⟩
  have hR : Rel g β env mem bnd ((nm, ownS e (some ⟨w.heap.size, 0, none⟩) (n + m) (grownCap w (n + m) n e) ei.size (cells ++ news)) :: L) a w' :=
    ⟨hr.defers, hr.size, hr.env, hr.bnd, hwo.1.trans hr.os, hwo.2.1.trans hr.tape, hwo.2.2.trans hr.output, by simpa using hsat⟩
  exact hR.put o.dst (.c (.v (.slice (some ⟨w.heap.size, 0, none⟩) (n + m) (grownCap w (n + m) n e)))) hd
end
end Go.Proofs.Ytngfadijcpnblaa
