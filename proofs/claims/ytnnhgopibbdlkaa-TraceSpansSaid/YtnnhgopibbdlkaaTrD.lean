/- awake: the document's example. -/
import Derived.Test.YtnnhgopibbdlkaaTrC
namespace Go.Proofs.Ytnnhgopibbdlkaa
open Go.RowKit
attribute [local irreducible] Nx Ar

def exN : List Note := [⟨0, 0, 1, 0, 2, 0, 0, 0⟩, ⟨0, 0, 1, 4, 4, 0, 0, 0⟩, ⟨0, 0, 1, 3, 3, 0, 0, 0⟩]
theorem shown_ex : shown exN 0 = [⟨0, 4⟩] := by decide
theorem length_ex : lengthOf [⟨0, 4⟩] 2 = 3 := by decide

theorem awake_ok : FnOk Try.prog 11 [] [] (fun v Q => v = .bool true ∧ Q = []) := by
  refine FnOk.start Try.func11 rfl rfl rfl rfl fun F os tape output => ?_
  refine go 200 ?_
  conv => whnf
  intro b
  refine go 200 ?_
  conv => whnf
  refine Nx.out 6 rfl rfl rfl rfl ?_
  have hs : Sees (blk b (.cells (notes exN).toArray 37 (0, 0))) (some ⟨b, 0, none⟩) exN.length 8 (notes exN) := blk_sees b 3 8 37 (notes exN) rfl
  refine Nx.call [6] [6,1] rfl rfl rfl rfl rfl (Shown_ok (blk b (.cells (notes exN).toArray 37 (0, 0))) _ 3 exN 0 (by decide) hs) rfl fun v Q hQ => ?_
  rw [shown_ex] at hQ
  obtain ⟨A1, c1, rfl, rfl⟩ := hQ
  refine go 200 ?_
  conv => whnf
  refine go 200 ?_
  conv => whnf
  have h1 := ownS_sees 29 A1 [(⟨0, 4⟩ : Span)].length c1 2 (spans [⟨0, 4⟩])
  refine Nx.idx 1 (l := [(⟨0, 4⟩ : Span)]) (j := 0) rfl rfl rfl Try.underlying26 rfl rfl rfl Span.enc_len h1 rfl rfl (by decide) fun b2 p2 hq => ?_
  refine go 200 ?_
  conv => whnf
  refine Nx.load 1 rfl rfl rfl rfl hq rfl rfl ?_
  refine go 200 ?_
  conv => whnf
  refine Nx.eqS rfl (.inl rfl) rfl rfl rfl rfl (by kernel_rfl) (eq29 ⟨0, 4⟩ ⟨0, 4⟩) rfl ?_
  refine go 200 ?_
  conv => whnf
  refine go 200 ?_
  conv => whnf
  refine Nx.call [6] [6] rfl rfl rfl rfl rfl (Length_ok (blk b (.cells (notes exN).toArray 37 (0, 0))) _ 3 exN 0 2 (by decide) hs) rfl fun v Q hQ => ?_
  rw [shown_ex, length_ex] at hQ
  obtain ⟨rfl, rfl⟩ := hQ
  refine go 200 ?_
  conv => whnf
  refine go 200 ?_
  conv => whnf
  refine Nx.call [6] [6] rfl rfl rfl rfl rfl (Counts_ok (blk b (.cells (notes exN).toArray 37 (0, 0))) _ 3 exN (by decide) hs) rfl fun v Q hQ => ?_
  obtain ⟨rfl, rfl⟩ := hQ
  refine go 200 ?_
  conv => whnf
  refine Nx.elem (j := 1) rfl rfl rfl Try.underlying41 rfl rfl rfl (by decide) rfl ?_
  refine go 200 ?_
  conv => whnf
  refine Nx.ret [] Try.func11 rfl rfl ?_
  exact ⟨rfl, rfl⟩
end Go.Proofs.Ytnnhgopibbdlkaa
