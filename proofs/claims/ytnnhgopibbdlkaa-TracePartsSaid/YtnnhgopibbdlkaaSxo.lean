/- Rules: loops that are unrolled; arrays of the call's own at an index that is written out. -/
import Derived.Test.YtnnhgopibbdlkaaSxm
import Derived.Test.YtnnhgopibbdlkaaSxl
namespace Go.Proofs.Ytnnhgopibbdlkaa
open Go.RowKit
section
variable {g : Cx} {β : Nat → Nat} {env : Env} {mem : Mem} {bnd : Bnd} {L : Res} {a : Act} {w : World} {N : Act → World → Prop} {Q : Exit → Act → World → Prop} {c : Code} {k : List Item}

theorem Nx.unroll (h : Nx g env mem bnd L (RunC g (.code c :: .inLoop c :: k))) : Nx g env mem bnd L (RunC g (.code (.loop c) :: k)) :=
  fun β a w hr => Ret.one (fun _ => step_loop) (h β a w hr)
theorem Nx.again (h : Nx g env mem bnd L (RunC g (.code c :: .inLoop c :: k))) : Nx g env mem bnd L (RunC g (.inLoop c :: k)) :=
  fun β a w hr => Ret.one (fun _ => step_inLoop) (h β a w hr)

theorem arr_run (hr : Rel g β env mem bnd L a w) {o : Oper} {t e : TypeId} {x i : Operand} {l off n sz by_ j : Nat} {kk : IntKind} (ho : o.op = .indexAddr t x i) (hx : ev env x = some (.c (.loc l off))) (hi : ev env i = some (.c (.v (.int kk j)))) (ht : g.P.underlying t = some (.array n e)) (he : elemI g.P e = some (sz, by_)) (hj : j < n) (w' : World) :
    (execOp a.eval o).run g.P w' = .ok (.value ((SV.c (.loc l (off + j * sz))).den β)) w' := by
  obtain ⟨ei, zz, hei, hz, hzs, hpos, hez, hby⟩ := elemI_ok he
  have e1 : a.eval x = .pointer (some ⟨β l, off, none⟩) := hr.ev hx
  have e2 : a.eval i = .int kk j := hr.ev hi
  have e3 : (j : Int) < n := by omega
  simp [execOp, ho, e1, e2, Instr.indexAt, Instr.sureAddr, asIntOf, run_underlying ht, e3, sizeOf, typeInfo, hei, hez, add_plain', SV.den, Ce.den]
  try (intro hbad; omega)
theorem Nx.arr {o : Oper} {t e : TypeId} {x i : Operand} {l off n sz by_ j q : Nat} {kk : IntKind} {iv : Int} (ho : o.op = .indexAddr t x i) (hx : ev env x = some (.c (.loc l off))) (hi : ev env i = some (.c (.v (.int kk iv)))) (ht : g.P.underlying t = some (.array n e)) (he : elemI g.P e = some (sz, by_)) (hd : dstOk g.n o.dst = true) (hiv : iv = (j : Int)) (hj : j < n) (hq : off + j * sz = q)
    (hk : Nx g (putE o.dst (.c (.loc l q)) env) mem bnd L N) : Nx g env mem bnd L (OneC g o N Q) := by
  subst hiv; subst hq
  exact Nx.val hd (fun _ _ _ hr w' => arr_run hr ho hx hi ht he hj w') hk
theorem Nx.hoArr {T : World → Prop} {o : Oper} {t e : TypeId} {x i : Operand} {l off n sz by_ j q : Nat} {kk : IntKind} {iv : Int} (ho : o.op = .indexAddr t x i) (hx : ev env x = some (.c (.loc l off))) (hi : ev env i = some (.c (.v (.int kk iv)))) (ht : g.P.underlying t = some (.array n e)) (he : elemI g.P e = some (sz, by_)) (hd : dstOk g.n o.dst = true) (hiv : iv = (j : Int)) (hj : j < n) (hq : off + j * sz = q)
    (hk : Nx g (putE o.dst (.c (.loc l q)) env) mem bnd L N) : Nx g env mem bnd L (HoC g T o N) := by
  subst hiv; subst hq
  exact Nx.hoVal hd (fun _ _ _ hr w' => arr_run hr ho hx hi ht he hj w') hk
end
end Go.Proofs.Ytnnhgopibbdlkaa
