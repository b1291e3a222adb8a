/- The awake of norialaw23. -/
import Derived.Test.YtngfadijcpnblaaMwA
namespace Go.Proofs.Ytngfadijcpnblaa
open Go.RowKit
theorem awake_gx : gxTrue Try.prog exT 1000000 8 [] = true := by kernel_rfl
theorem awake_ok : FnOk Try.prog 8 [] [] fun v _ => v = .bool true := gxTrue_ok exT_ok noNg0 mix0 awake_gx (by simp) []
/-- .. with what awake comes to. -/
def exM (f : Nat) (vs : List SV) : Option SV :=
  match f, vs with
  | 8, [] => some (.c (.v (.bool true)))
  | f, vs => exT f vs
theorem exM_ok : ExOk Try.prog exM := by
  intro f vs x h
  unfold exM at h
  split at h
  · cases h
    exact ⟨fun _ => trivial, fun β => .inr awake_ok⟩
  · exact exT_ok f vs x h
end Go.Proofs.Ytngfadijcpnblaa
