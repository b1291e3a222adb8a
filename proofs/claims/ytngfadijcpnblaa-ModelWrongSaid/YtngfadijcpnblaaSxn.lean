/- Heads: cheap looks at what a goal stands at, for steps that are tried in turn. -/
import Derived.Test.YtngfadijcpnblaaSxo
namespace Go.Proofs.Ytngfadijcpnblaa
section
variable {g : Cx} {env : Env} {mem : Mem} {bnd : Bnd} {L : Res} {N : Act → World → Prop} {Q : Exit → Act → World → Prop} {k : List Item} {c : Code} {i : Nat} {ops : Array Oper}
  {dst : Option Tmp} {op : Op} {ty : TypeId} {pos : String} {af : Array Edge} {gd : Option (Nat × Bool)}
theorem atRet (h : Nx g env mem bnd L (RunC g (.code .ret :: k))) : Nx g env mem bnd L (RunC g (.code .ret :: k)) := h
theorem atEnd (h : Nx g env mem bnd L (RunC g [])) : Nx g env mem bnd L (RunC g []) := h
theorem atLoop (h : Nx g env mem bnd L (RunC g (.code (.loop c) :: k))) : Nx g env mem bnd L (RunC g (.code (.loop c) :: k)) := h
theorem atIn (h : Nx g env mem bnd L (RunC g (.inLoop c :: k))) : Nx g env mem bnd L (RunC g (.inLoop c :: k)) := h
theorem atDrawn (h : Nx g env mem bnd L (RunC g (.code (.region i ops true) :: k))) : Nx g env mem bnd L (RunC g (.code (.region i ops true) :: k)) := h
theorem atRun (h : Nx g env mem bnd L (RunC g k)) : Nx g env mem bnd L (RunC g k) := h
theorem atOps {all : Array Oper} {rest : List Oper} (h : Nx g env mem bnd L (OpsC g all rest k)) : Nx g env mem bnd L (OpsC g all rest k) := h
theorem atIdx {t : TypeId} {x j : Operand} (h : Nx g env mem bnd L (OneC g ⟨dst, .indexAddr t x j, ty, pos, af, gd⟩ N Q)) : Nx g env mem bnd L (OneC g ⟨dst, .indexAddr t x j, ty, pos, af, gd⟩ N Q) := h
theorem atLoad {t : TypeId} {x : Operand} (h : Nx g env mem bnd L (OneC g ⟨dst, .load t x, ty, pos, af, gd⟩ N Q)) : Nx g env mem bnd L (OneC g ⟨dst, .load t x, ty, pos, af, gd⟩ N Q) := h
theorem atStore {t : TypeId} {x y : Operand} (h : Nx g env mem bnd L (OneC g ⟨dst, .store t x y, ty, pos, af, gd⟩ N Q)) : Nx g env mem bnd L (OneC g ⟨dst, .store t x y, ty, pos, af, gd⟩ N Q) := h
theorem atCall (f : Nat) {as : Array Operand} {ts : Array TypeId} (h : Nx g env mem bnd L (OneC g ⟨dst, .call ⟨.value (.func f), as, ts⟩, ty, pos, af, gd⟩ N Q)) : Nx g env mem bnd L (OneC g ⟨dst, .call ⟨.value (.func f), as, ts⟩, ty, pos, af, gd⟩ N Q) := h
theorem atApp {as : Array Operand} {ts : Array TypeId} (h : Nx g env mem bnd L (OneC g ⟨dst, .call ⟨.builtin .append, as, ts⟩, ty, pos, af, gd⟩ N Q)) : Nx g env mem bnd L (OneC g ⟨dst, .call ⟨.builtin .append, as, ts⟩, ty, pos, af, gd⟩ N Q) := h
theorem atOne (h : Nx g env mem bnd L (OneC g ⟨dst, op, ty, pos, af, gd⟩ N Q)) : Nx g env mem bnd L (OneC g ⟨dst, op, ty, pos, af, gd⟩ N Q) := h
theorem atHoIdx {T : World → Prop} {t : TypeId} {x j : Operand} (h : Nx g env mem bnd L (HoC g T ⟨dst, .indexAddr t x j, ty, pos, af, gd⟩ N)) : Nx g env mem bnd L (HoC g T ⟨dst, .indexAddr t x j, ty, pos, af, gd⟩ N) := h
theorem atHoLoad {T : World → Prop} {t : TypeId} {x : Operand} (h : Nx g env mem bnd L (HoC g T ⟨dst, .load t x, ty, pos, af, gd⟩ N)) : Nx g env mem bnd L (HoC g T ⟨dst, .load t x, ty, pos, af, gd⟩ N) := h
theorem atHo {T : World → Prop} (h : Nx g env mem bnd L (HoC g T ⟨dst, op, ty, pos, af, gd⟩ N)) : Nx g env mem bnd L (HoC g T ⟨dst, op, ty, pos, af, gd⟩ N) := h
theorem atPlan {H : Held} {hold : Bool} {plan : List PI} (h : Nx g env mem bnd L (planHead g ops H hold plan k)) : Nx g env mem bnd L (planHead g ops H hold plan k) := h
theorem atAftK {H : Held} {plan : List PI} (h : Nx g env mem bnd L (AftC g ops H true plan k)) : Nx g env mem bnd L (AftC g ops H true plan k) := h
theorem atAftL {H : Held} {plan : List PI} (h : Nx g env mem bnd L (AftC g ops H false plan k)) : Nx g env mem bnd L (AftC g ops H false plan k) := h
theorem atBr {b : Bool} {X Y : Prop} (h : BrM b X Y) : BrM b X Y := h
theorem atAr {kk : IntKind} {n : Int} {C : Int → Prop} (h : Ar kk n C) : Ar kk n C := h
end
end Go.Proofs.Ytngfadijcpnblaa
