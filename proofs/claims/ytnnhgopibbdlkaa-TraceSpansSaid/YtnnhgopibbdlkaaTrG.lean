/- Arguments of the laws: notes. -/
import Derived.Test.YtnnhgopibbdlkaaTop
import Derived.Test.YtnnhgopibbdlkaaTrA
import Derived.KernelRfl
namespace Go.Proofs.Ytnnhgopibbdlkaa
open Go.RowKit

def Note.ok (n : Note) : Prop := I64 n.who ∧ I64 n.ring ∧ I64 n.deed ∧ I64 n.lo ∧ I64 n.seq ∧ I64 n.key ∧ I64 n.val ∧ I64 n.code
theorem own0 : ownKnob Try.prog.godebug = none := by kernel_rfl
theorem laid0 : laidOutB Try.prog = true := by kernel_rfl
theorem cells37 : Try.prog.cellsOf 37 = 8 := by kernel_rfl
theorem open_note {H : Type} {enc : TypeId × Value → H} {w : World} {base : Nat} {spare : Nat → Bool} {held : Bool} (n : Nat) (cs : List Value) (y : DataW H × List MemPlace) (h : DataW.trod enc Try.prog w base spare held n 37 cs = some y) : ∃ x : Note, cs = x.enc ∧ x.ok := by
  obtain ⟨_, _, _, _, hlen, _, _⟩ := DataW.trod_struct Try.underlying37 h
  rw [cells37] at hlen
  obtain ⟨l, rfl, hr⟩ := trod_ints (P := Try.prog) 4 (by kernel_rfl) h
  simp only [ints64, List.length_map] at hlen
  match l, hlen, hr with
  | [a, b, c, d, e, f, g, i], _, hr => exact ⟨⟨a, b, c, d, e, f, g, i⟩, rfl, by simpa [Note.ok] using hr⟩
theorem open_notes {H : Type} {enc : TypeId × Value → H} {W : World} {r : Reach} {b0 : Nat} {v : Value} {d : DataW H} {p : List MemPlace} (hval : Value.okWide Try.prog W r b0 22 v) (h : DataW.Trod enc Try.prog W 0 (fun _ => true) true 22 v d p) :
    ∃ (A : Option Addr) (l : List Note) (c : Nat), v = .slice A l.length c ∧ Sees (roAll (hw W)) A l.length 8 (notes l) ∧ (∀ x ∈ l, x.ok) ∧ l.length ≤ c ∧ c ≤ maxLen := by
  obtain ⟨A, l, c, h1, h2, h3, h4, h5⟩ := open_flat Try.underlying22 cells37 (by decide) open_note Note.enc_len hval h
  exact ⟨A, l, c, h1, roAll_sees h2, h3, h4, h5⟩
theorem cells3 : Try.prog.cellsOf 3 = 1 := by kernel_rfl
theorem open_nums39 {H : Type} {enc : TypeId × Value → H} {W : World} {r : Reach} {b0 : Nat} {v : Value} {d : DataW H} {p : List MemPlace} (hval : Value.okWide Try.prog W r b0 39 v) (h : DataW.Trod enc Try.prog W 0 (fun _ => true) true 39 v d p) :
    ∃ (A : Option Addr) (l : List Int) (c : Nat), v = .slice A l.length c ∧ Sees (roAll (hw W)) A l.length 1 (ints l) ∧ (∀ x ∈ l, I64 x) ∧ l.length ≤ c ∧ c ≤ maxLen := by
  obtain ⟨A, l, c, h1, h2, h3, h4, h5⟩ := open_flat Try.underlying39 cells3 (by decide) (fun n cs y hy => by
    obtain ⟨m, rfl, _, hw⟩ := DataW.trod_int Try.underlying3 hy
    exact ⟨m, rfl, I64.of_wf hw⟩) encI_len hval h
  exact ⟨A, l, c, h1, roAll_sees h2, h3, h4, h5⟩
end Go.Proofs.Ytnnhgopibbdlkaa
