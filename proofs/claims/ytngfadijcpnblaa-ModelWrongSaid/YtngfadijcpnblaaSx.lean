/- The framework, whole. -/
import Derived.Test.YtngfadijcpnblaaSxn
namespace Go.Proofs.Ytngfadijcpnblaa
abbrev iv (n : Int) : SV := .c (.v (.int .i64 n))
abbrev bv (b : Bool) : SV := .c (.v (.bool b))
abbrev sl (A : Option Addr) (n c : Nat) : SV := .c (.v (.slice A n c))
end Go.Proofs.Ytngfadijcpnblaa
