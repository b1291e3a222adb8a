/- ModelWrong, whatever its arguments. -/
import Derived.Test.YtngfadijcpnblaaMwB
namespace Go.Proofs.Ytngfadijcpnblaa
open Go.RowKit
abbrev iS (n : Int) : SV := .c (.v (.int .i64 n))
abbrev iC (n : Int) : Ce := .v (.int .i64 n)
theorem wrong_gx (a b c d e f g h m n p : Int) : gxTrue Try.prog exM 1000000 6 [.agg [iC a, iC b, iC c, iC d, iC e, iC f, iC g, iC h], iS m, iS n, iS p] = true := by
  rcases b with b | _ | b <;> rcases n with n | _ | n <;> kernel_rfl
theorem modelWrong_ok (a b c d e f g h m n p : Int) (Pre : List SP) : FnOk Try.prog 6 [.agg #[.int .i64 a, .int .i64 b, .int .i64 c, .int .i64 d, .int .i64 e, .int .i64 f, .int .i64 g, .int .i64 h], .int .i64 m, .int .i64 n, .int .i64 p] Pre fun v _ => v = .bool true :=
  gxTrue_ok exM_ok noNg0 mix0 (wrong_gx a b c d e f g h m n p) (by
    intro v hv
    simp only [List.mem_cons, List.not_mem_nil, or_false] at hv
    rcases hv with rfl | rfl | rfl | rfl <;> first | trivial | (intro x hx; simp only [List.mem_cons, List.not_mem_nil, or_false] at hx; rcases hx with rfl | rfl | rfl | rfl | rfl | rfl | rfl | rfl <;> trivial)) Pre
end Go.Proofs.Ytngfadijcpnblaa
