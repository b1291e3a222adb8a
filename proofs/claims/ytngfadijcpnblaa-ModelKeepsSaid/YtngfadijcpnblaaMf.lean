/- ModelRefuses, walked. -/
import Derived.Test.YtngfadijcpnblaaMe
import Derived.KernelRfl
import Derived.Test.YtngfadijcpnblaaChecked
import Derived.OpenShut
import Derived.SizedLaws
import Derived.Laws.Externs
set_option linter.unusedSimpArgs false
set_option linter.unusedVariables false
/- The reference: writes. -/
namespace Go.Proofs.Ytngfadijcpnblaa
open Go.RowKit
set_option maxRecDepth 20000
set_option maxHeartbeats 4000000
theorem call_bnd {m : MdR} (hm : MdV m) {k : Nat} {l : List Ev} {s f : Int} (h : m.call k = some (l, s, f)) : 0 ≤ s ∧ s ≤ l.length ∧ 0 < l.length ∧ l.length ≤ 64 ∧ -1 ≤ f ∧ f ≤ 4611686018427387904 := by
  unfold MdR.call at h
  split at h
  · cases h
  rename_i w hw
  split at h
  · cases h
  rename_i l' hl
  simp only [Option.some.injEq, Prod.mk.injEq] at h
  obtain ⟨rfl, rfl, rfl⟩ := h
  have hwm := List.mem_of_getElem? hw
  have hc := hm.call w hwm
  have h6 := (hm.calls w hwm).2 l' (List.mem_of_getElem? hl)
  exact ⟨hc.s0, hc.s1 l' hl, h6.1, h6.2, hc.f0, hc.fm⟩
attribute [local irreducible] Nx Ar BrM headC OneC HoC AftC planHead endF
theorem rWrites_ok (M : RefH) (hm : MdV M.p) {k : Nat} (hk : k < M.writers.length) {q : Nat} (hql : q < M.logs.length) (n : Nt) (hq : n.ring = q) :
    FnOk Try.prog 55 [ptr M.b, .int .i64 k, n.v] [M.sp] (ShQ M (M.p.writes k n)) := by
  have hdid := rDid_ok M hm n.who (-1) 7
  have hcl := rCall_ok M hm hk
  have hsh : ∀ {l : List Ev} {sn : Nat} {f : Int}, M.p.call k = some (l, (sn : Int), f) → FnOk Try.prog 63 [ptr M.b, .int .i64 k, n.v] [M.sp] (ShQ M (M.p.showsR l sn f n)) := fun {l sn f} h => by
    obtain ⟨a1, a2, a3, a4, a5, a6⟩ := call_bnd hm h
    exact rShows_ok M hm hk hql h (by omega) a4 ⟨a5, a6⟩ n hq
  unfold MdR.writes
  unfold Nt.v at hsh ⊢
  cases hcall : M.p.call k with
  | none =>
    have hcn := hcl.mono fun _ _ h => CallV.none h hcall
    cases hd : didF M.p.facts n.who (-1) 7 with
    | true =>
      rw [hd] at hdid
      rw [if_pos rfl]
      refine FnOk.start Try.func55 rfl rfl rfl rfl fun F os tape output => ?_
      refine Nx.also 0 9 (rdS none 0 2 []) rfl (fun _ _ _ => rd_nil _ _) ?_
      refine go 200 ?_
      conv => whnf
      repeat' (first | ((first | refine BrM.t rfl ?_ | refine BrM.f rfl ?_ | refine BrM.dec (fun _ => ?_) (fun _ => ?_) | refine BrM.mk (fun _ => ?_) (fun _ => ?_) | refine Ar.i64 (by omega) (by omega) ?_ | refine gO rfl ?_ | refine gP rfl (by repeat constructor) ?_) <;> conv => whnf) | (refine atCall 62 ?_; refine cE [0] [0] rfl rfl rfl rfl rfl (hcn) rfl ?_) | (refine atCall 35 ?_; refine cE [0] [0] rfl rfl rfl rfl rfl (hdid) rfl ?_) | (refine atRet ?_; refine Nx.ret [0,9] Try.func55 rfl rfl ?_; (exact ⟨none, 0, rfl, rfl⟩)) | refine Nx.late ?_)
    | false =>
    rw [hd] at hdid
    rw [if_neg (by decide)]
    by_cases d7 : n.deed = 7
    · rw [if_pos d7, if_neg (by decide)]
      refine FnOk.start Try.func55 rfl rfl rfl rfl fun F os tape output => ?_
      refine Nx.also 0 9 (rdS none 0 2 []) rfl (fun _ _ _ => rd_nil _ _) ?_
      refine go 200 ?_
      conv => whnf
      repeat' (first | ((first | refine BrM.yes (by omega) ?_ | refine BrM.not (by omega) ?_ | refine BrM.t rfl ?_ | refine BrM.f rfl ?_ | refine BrM.dec (fun _ => ?_) (fun _ => ?_) | refine BrM.mk (fun _ => ?_) (fun _ => ?_) | refine Ar.i64 (by omega) (by omega) ?_ | refine gO rfl ?_ | refine gP rfl (by repeat constructor) ?_) <;> conv => whnf) | (refine atCall 62 ?_; refine cE [0] [0] rfl rfl rfl rfl rfl (hcn) rfl ?_) | (refine atCall 35 ?_; refine cE [0] [0] rfl rfl rfl rfl rfl (hdid) rfl ?_) | (refine atRet ?_; refine Nx.ret [0,9] Try.func55 rfl rfl ?_; (exact ⟨none, 0, rfl, rfl⟩)) | refine Nx.late ?_)
    rw [if_neg d7]
    by_cases d1 : n.deed ≠ 1 ∧ n.deed ≠ 4
    · rw [if_pos d1]
      refine FnOk.start Try.func55 rfl rfl rfl rfl fun F os tape output => ?_
      refine Nx.also 0 9 (rdS none 0 2 []) rfl (fun _ _ _ => rd_nil _ _) ?_
      refine go 200 ?_
      conv => whnf
      repeat' (first | ((first | refine BrM.yes (by omega) ?_ | refine BrM.not (by omega) ?_ | refine BrM.t rfl ?_ | refine BrM.f rfl ?_ | refine BrM.dec (fun _ => ?_) (fun _ => ?_) | refine BrM.mk (fun _ => ?_) (fun _ => ?_) | refine Ar.i64 (by omega) (by omega) ?_ | refine gO rfl ?_ | refine gP rfl (by repeat constructor) ?_) <;> conv => whnf) | (refine atCall 62 ?_; refine cE [0] [0] rfl rfl rfl rfl rfl (hcn) rfl ?_) | (refine atCall 35 ?_; refine cE [0] [0] rfl rfl rfl rfl rfl (hdid) rfl ?_) | (refine atRet ?_; refine Nx.ret [0,9] Try.func55 rfl rfl ?_; (exact ⟨none, 0, rfl, rfl⟩)) | refine Nx.late ?_)
    rw [if_neg d1]
    refine FnOk.start Try.func55 rfl rfl rfl rfl fun F os tape output => ?_
    refine Nx.also 0 9 (rdS none 0 2 []) rfl (fun _ _ _ => rd_nil _ _) ?_
    refine go 200 ?_
    conv => whnf
    repeat' (first | ((first | refine BrM.yes (by omega) ?_ | refine BrM.not (by omega) ?_ | refine BrM.t rfl ?_ | refine BrM.f rfl ?_ | refine BrM.dec (fun _ => ?_) (fun _ => ?_) | refine BrM.mk (fun _ => ?_) (fun _ => ?_) | refine Ar.i64 (by omega) (by omega) ?_ | refine gO rfl ?_ | refine gP rfl (by repeat constructor) ?_) <;> conv => whnf) | (refine atCall 62 ?_; refine cE [0] [0] rfl rfl rfl rfl rfl (hcn) rfl ?_) | (refine atCall 35 ?_; refine cE [0] [0] rfl rfl rfl rfl rfl (hdid) rfl ?_) | (refine atRet ?_; refine Nx.ret [0,9] Try.func55 rfl rfl ?_; (exact ⟨none, 0, rfl, rfl⟩)) | refine Nx.late ?_)
  | some t =>
    obtain ⟨l, s, f⟩ := t
    obtain ⟨a1, a2, a3, a4, a5, a6⟩ := call_bnd hm hcall
    obtain ⟨sn, rfl⟩ : ∃ sn : Nat, s = sn := ⟨s.toNat, by omega⟩
    have hcs := hcl.mono fun _ _ h => CallV.some h hcall
    have hsh := hsh hcall
    cases hd : didF M.p.facts n.who (-1) 7 with
    | true =>
      rw [hd] at hdid
      rw [if_pos rfl]
      refine FnOk.start Try.func55 rfl rfl rfl rfl fun F os tape output => ?_
      refine Nx.also 0 9 (rdS none 0 2 []) rfl (fun _ _ _ => rd_nil _ _) ?_
      refine go 200 ?_
      conv => whnf
      repeat' (first | ((first | refine BrM.t rfl ?_ | refine BrM.f rfl ?_ | refine BrM.dec (fun _ => ?_) (fun _ => ?_) | refine BrM.mk (fun _ => ?_) (fun _ => ?_) | refine Ar.i64 (by omega) (by omega) ?_ | refine gO rfl ?_ | refine gP rfl (by repeat constructor) ?_) <;> conv => whnf) | (refine (atCall 62) ?_; refine Nx.call [0] [0] rfl rfl rfl rfl rfl (hcs) rfl fun v Q hQ => ?_; obtain ⟨⟨c,hcm,rfl,rfl⟩,rfl⟩ := hQ) | (refine atCall 35 ?_; refine cE [0] [0] rfl rfl rfl rfl rfl (hdid) rfl ?_) | (refine atRet ?_; refine Nx.ret [0,9] Try.func55 rfl rfl ?_; (exact ⟨none, 0, rfl, rfl⟩)) | refine Nx.late ?_)
    | false =>
    rw [hd] at hdid
    rw [if_neg (by decide)]
    by_cases d7 : n.deed = 7
    · rw [if_pos d7, if_pos (show (some (l, (sn : Int), f)).isSome = true from rfl)]
      refine FnOk.start Try.func55 rfl rfl rfl rfl fun F os tape output => ?_
      refine Nx.also 0 9 (rdS none 0 2 []) rfl (fun _ _ _ => rd_nil _ _) ?_
      refine go 200 ?_
      conv => whnf
      repeat' (first | ((first | refine BrM.yes (by omega) ?_ | refine BrM.not (by omega) ?_ | refine BrM.t rfl ?_ | refine BrM.f rfl ?_ | refine BrM.dec (fun _ => ?_) (fun _ => ?_) | refine BrM.mk (fun _ => ?_) (fun _ => ?_) | refine Ar.i64 (by omega) (by omega) ?_ | refine gO rfl ?_ | refine gP rfl (by repeat constructor) ?_) <;> conv => whnf) | (refine (atCall 62) ?_; refine Nx.call [0] [0] rfl rfl rfl rfl rfl (hcs) rfl fun v Q hQ => ?_; obtain ⟨⟨c,hcm,rfl,rfl⟩,rfl⟩ := hQ) | (refine atCall 35 ?_; refine cE [0] [0] rfl rfl rfl rfl rfl (hdid) rfl ?_) | (refine atRet ?_; refine Nx.ret [0,9] Try.func55 rfl rfl ?_; (exact ⟨none, 0, rfl, rfl⟩)) | refine Nx.late ?_)
    rw [if_neg d7]
    by_cases d1 : n.deed ≠ 1 ∧ n.deed ≠ 4
    · rw [if_pos d1]
      refine FnOk.start Try.func55 rfl rfl rfl rfl fun F os tape output => ?_
      refine Nx.also 0 9 (rdS none 0 2 []) rfl (fun _ _ _ => rd_nil _ _) ?_
      refine go 200 ?_
      conv => whnf
      repeat' (first | ((first | refine BrM.yes (by omega) ?_ | refine BrM.not (by omega) ?_ | refine BrM.t rfl ?_ | refine BrM.f rfl ?_ | refine BrM.dec (fun _ => ?_) (fun _ => ?_) | refine BrM.mk (fun _ => ?_) (fun _ => ?_) | refine Ar.i64 (by omega) (by omega) ?_ | refine gO rfl ?_ | refine gP rfl (by repeat constructor) ?_) <;> conv => whnf) | (refine (atCall 62) ?_; refine Nx.call [0] [0] rfl rfl rfl rfl rfl (hcs) rfl fun v Q hQ => ?_; obtain ⟨⟨c,hcm,rfl,rfl⟩,rfl⟩ := hQ) | (refine atCall 35 ?_; refine cE [0] [0] rfl rfl rfl rfl rfl (hdid) rfl ?_) | (refine atRet ?_; refine Nx.ret [0,9] Try.func55 rfl rfl ?_; (exact ⟨none, 0, rfl, rfl⟩)) | refine Nx.late ?_)
    rw [if_neg d1]
    dsimp only
    by_cases e1 : n.deed = 1
    · rw [if_pos e1]
      refine FnOk.start Try.func55 rfl rfl rfl rfl fun F os tape output => ?_
      refine go 200 ?_
      conv => whnf
      repeat' (first | ((first | refine BrM.yes (by omega) ?_ | refine BrM.not (by omega) ?_ | refine BrM.t rfl ?_ | refine BrM.f rfl ?_ | refine BrM.dec (fun _ => ?_) (fun _ => ?_) | refine BrM.mk (fun _ => ?_) (fun _ => ?_) | refine Ar.i64 (by omega) (by omega) ?_ | refine gO rfl ?_ | refine gP rfl (by repeat constructor) ?_) <;> conv => whnf) | (refine (atCall 62) ?_; refine Nx.call [0] [0] rfl rfl rfl rfl rfl (hcs) rfl fun v Q hQ => ?_; obtain ⟨⟨c,hcm,rfl,rfl⟩,rfl⟩ := hQ) | (refine atCall 35 ?_; refine cE [0] [0] rfl rfl rfl rfl rfl (hdid) rfl ?_) | (refine (atCall 63) ?_; refine Nx.call [0] [0,8] rfl rfl rfl rfl rfl (hsh) rfl fun v Q hQ => ?_; obtain ⟨A,ac,rfl,rfl⟩ := hQ) | (refine atRet ?_; refine Nx.ret [0,8] Try.func55 rfl rfl ?_; (exact ⟨A, ac, rfl, rfl⟩)) | refine Nx.late ?_)
    rw [if_neg e1]
    by_cases e2 : n.code ≠ 0
    · rw [if_pos e2]
      by_cases e3 : 0 < (sn : Int)
      · rw [if_pos e3]
        refine FnOk.start Try.func55 rfl rfl rfl rfl fun F os tape output => ?_
        refine Nx.also 0 9 (rdS none 0 2 []) rfl (fun _ _ _ => rd_nil _ _) ?_
        refine go 200 ?_
        conv => whnf
        repeat' (first | ((first | refine BrM.yes (by omega) ?_ | refine BrM.not (by omega) ?_ | refine BrM.t rfl ?_ | refine BrM.f rfl ?_ | refine BrM.dec (fun _ => ?_) (fun _ => ?_) | refine BrM.mk (fun _ => ?_) (fun _ => ?_) | refine Ar.i64 (by omega) (by omega) ?_ | refine gO rfl ?_ | refine gP rfl (by repeat constructor) ?_) <;> conv => whnf) | (refine (atCall 62) ?_; refine Nx.call [0] [0] rfl rfl rfl rfl rfl (hcs) rfl fun v Q hQ => ?_; obtain ⟨⟨c,hcm,rfl,rfl⟩,rfl⟩ := hQ) | (refine atCall 35 ?_; refine cE [0] [0] rfl rfl rfl rfl rfl (hdid) rfl ?_) | (refine atRet ?_; refine Nx.ret [0,9] Try.func55 rfl rfl ?_; (exact ⟨none, 0, rfl, rfl⟩)) | refine Nx.late ?_)
      · rw [if_neg e3]
        refine FnOk.start Try.func55 rfl rfl rfl rfl fun F os tape output => ?_
        refine Nx.also 0 9 (rdS none 0 2 []) rfl (fun _ _ _ => rd_nil _ _) ?_
        refine go 200 ?_
        conv => whnf
        repeat' (first | ((first | refine BrM.yes (by omega) ?_ | refine BrM.not (by omega) ?_ | refine BrM.t rfl ?_ | refine BrM.f rfl ?_ | refine BrM.dec (fun _ => ?_) (fun _ => ?_) | refine BrM.mk (fun _ => ?_) (fun _ => ?_) | refine Ar.i64 (by omega) (by omega) ?_ | refine gO rfl ?_ | refine gP rfl (by repeat constructor) ?_) <;> conv => whnf) | (refine (atCall 62) ?_; refine Nx.call [0] [0] rfl rfl rfl rfl rfl (hcs) rfl fun v Q hQ => ?_; obtain ⟨⟨c,hcm,rfl,rfl⟩,rfl⟩ := hQ) | (refine atCall 35 ?_; refine cE [0] [0] rfl rfl rfl rfl rfl (hdid) rfl ?_) | (refine atRet ?_; refine Nx.ret [0,9] Try.func55 rfl rfl ?_; (exact ⟨none, 0, rfl, rfl⟩)) | refine Nx.late ?_)
    rw [if_neg e2]
    by_cases e3 : (sn : Int) ≠ l.length ∨ n.lo ≠ f ∨ n.seq ≠ f + sn - 1
    · rw [if_pos e3]
      refine FnOk.start Try.func55 rfl rfl rfl rfl fun F os tape output => ?_
      refine Nx.also 0 9 (rdS none 0 2 []) rfl (fun _ _ _ => rd_nil _ _) ?_
      refine go 200 ?_
      conv => whnf
      repeat' (first | ((first | refine BrM.yes (by omega) ?_ | refine BrM.not (by omega) ?_ | refine BrM.t rfl ?_ | refine BrM.f rfl ?_ | refine BrM.dec (fun _ => ?_) (fun _ => ?_) | refine BrM.mk (fun _ => ?_) (fun _ => ?_) | refine Ar.i64 (by omega) (by omega) ?_ | refine gO rfl ?_ | refine gP rfl (by repeat constructor) ?_) <;> conv => whnf) | (refine (atCall 62) ?_; refine Nx.call [0] [0] rfl rfl rfl rfl rfl (hcs) rfl fun v Q hQ => ?_; obtain ⟨⟨c,hcm,rfl,rfl⟩,rfl⟩ := hQ) | (refine atCall 35 ?_; refine cE [0] [0] rfl rfl rfl rfl rfl (hdid) rfl ?_) | (refine atRet ?_; refine Nx.ret [0,9] Try.func55 rfl rfl ?_; (exact ⟨none, 0, rfl, rfl⟩)) | refine Nx.late ?_)
    · rw [if_neg e3]
      refine FnOk.start Try.func55 rfl rfl rfl rfl fun F os tape output => ?_
      refine Nx.also 0 9 (rdS none 0 2 []) rfl (fun _ _ _ => rd_nil _ _) ?_
      refine go 200 ?_
      conv => whnf
      repeat' (first | ((first | refine BrM.yes (by omega) ?_ | refine BrM.not (by omega) ?_ | refine BrM.t rfl ?_ | refine BrM.f rfl ?_ | refine BrM.dec (fun _ => ?_) (fun _ => ?_) | refine BrM.mk (fun _ => ?_) (fun _ => ?_) | refine Ar.i64 (by omega) (by omega) ?_ | refine gO rfl ?_ | refine gP rfl (by repeat constructor) ?_) <;> conv => whnf) | (refine (atCall 62) ?_; refine Nx.call [0] [0] rfl rfl rfl rfl rfl (hcs) rfl fun v Q hQ => ?_; obtain ⟨⟨c,hcm,rfl,rfl⟩,rfl⟩ := hQ) | (refine atCall 35 ?_; refine cE [0] [0] rfl rfl rfl rfl rfl (hdid) rfl ?_) | (refine atRet ?_; refine Nx.ret [0,9] Try.func55 rfl rfl ?_; (exact ⟨none, 0, rfl, rfl⟩)) | refine Nx.late ?_)
end Go.Proofs.Ytngfadijcpnblaa

/- The reference: moves, handles. -/
namespace Go.Proofs.Ytngfadijcpnblaa
open Go.RowKit
set_option maxRecDepth 20000
set_option maxHeartbeats 4000000
theorem nextF_bnd (fs : List Fact) (who ring start : Int) : start ≤ (nextF fs who ring start).1 ∧ (nextF fs who ring start).1 ≤ start + fs.length ∧ start ≤ (nextF fs who ring start).2 ∧ (nextF fs who ring start).2 ≤ start + fs.length := by
  unfold nextF
  have : ∀ (l : List Fact) (s : Int × Int) (n : Nat), start ≤ s.1 → s.1 ≤ start + n → start ≤ s.2 → s.2 ≤ start + n → start ≤ (l.foldl (nextStep who ring) s).1 ∧ (l.foldl (nextStep who ring) s).1 ≤ start + n + l.length ∧ start ≤ (l.foldl (nextStep who ring) s).2 ∧ (l.foldl (nextStep who ring) s).2 ≤ start + n + l.length := by
    intro l
    induction l with
    | nil => intro s n a b c d; exact ⟨a, by simpa using b, c, by simpa using d⟩
    | cons f r ih =>
      intro s n a b c d
      rw [List.foldl_cons]
      have := ih (nextStep who ring s f) (n + 1) (by unfold nextStep; split; exact a; split; (first | omega | (dsimp only; omega)); split <;> exact a) (by unfold nextStep; split; (first | omega | (dsimp only; omega)); split; (first | omega | (dsimp only; omega)); split <;> first | omega | (dsimp only; omega)) (by unfold nextStep; split; exact c; split; exact c; split; exact a; exact c) (by unfold nextStep; split; (first | omega | (dsimp only; omega)); split; (first | omega | (dsimp only; omega)); split <;> first | omega | (dsimp only; omega))
      simp only [List.length_cons]
      omega
  have h := this fs (start, start) 0 (by dsimp only; omega) (by dsimp only; omega) (by dsimp only; omega) (by dsimp only; omega)
  omega
attribute [local irreducible] Nx Ar BrM headC OneC HoC AftC planHead endF
theorem rMoves_ok (M : RefH) (hm : MdV M.p) {k : Nat} (hk : k < M.readers.length) (n : Nt) :
    FnOk Try.prog 66 [ptr M.b, .int .i64 k, n.v] [M.sp] (fun v Q => v = .int .i64 (M.p.moves M.readers[k].r n) ∧ Q = [M.sp]) := by
  obtain ⟨hl8, hl5, hl2⟩ := hm.lens
  have b2 := M.seeB.sub 2 rfl
  have hR := M.seeR
  have hcur := rCursor_ok M hm hk
  have hnext := rNext_ok M hm hk
  have hrm := List.mem_map_of_mem (f := RRdH.r) (List.getElem_mem hk)
  have hrs := hm.rstart _ hrm
  have hrb := hm.rb _ hrm
  obtain ⟨n1, n2, n3, n4⟩ := nextF_bnd M.p.facts M.readers[k].r.who M.readers[k].r.ring M.readers[k].r.start
  rw [M.lf] at n2 n4
  have hev := rEvent_ok M hm n.ring n.seq
  unfold MdR.moves
  obtain ⟨cu, hcu⟩ : ∃ cu, cu = cursorF M.p.facts M.readers[k].r.who M.readers[k].r.ring M.readers[k].r.start := ⟨_, rfl⟩
  obtain ⟨nx, hnx⟩ : ∃ nx, nx = nextF M.p.facts M.readers[k].r.who M.readers[k].r.ring M.readers[k].r.start := ⟨_, rfl⟩
  rw [← hcu] at hcur hrb ⊢
  rw [← hnx] at hnext n1 n2 n3 n4 ⊢
  unfold Nt.v
  by_cases d1 : n.lo ≠ cu + 1 ∨ n.seq < n.lo ∨ (M.readers[k].r.pool < 0 ∧ n.seq ≠ nx.1 - 1)
  · rw [if_pos d1]
    refine FnOk.start Try.func66 rfl rfl rfl rfl fun F os tape output => ?_
    refine go 200 ?_
    conv => whnf
    refine Nx.bind (l := 5) (fun b5 => ?_) rfl
    repeat' (first | ((first | refine BrM.yes (by omega) ?_ | refine BrM.not (by omega) ?_ | refine BrM.t rfl ?_ | refine BrM.f rfl ?_ | refine BrM.dec (fun _ => ?_) (fun _ => ?_) | refine BrM.mk (fun _ => ?_) (fun _ => ?_) | refine Ar.i64 (by omega) (by omega) ?_ | refine gO rfl ?_ | refine gP rfl (by repeat constructor) ?_) <;> conv => whnf) | (refine atCall 64 ?_; refine cE [0] [0] rfl rfl rfl rfl rfl (hnext) rfl ?_) | (refine dN 2 [0] [0,5,8,12,18,20,24,28,32,37,40,45,48,52,56,60,64,68,73,76,80,84,89,92,96,100,105,108,112,116,120,124] rfl (by kernel_rfl) rfl (by kernel_rfl) rfl (by repeat constructor) rfl ?_) | (refine atCall 33 ?_; refine cE [0] [0] rfl rfl rfl rfl rfl (hcur) rfl ?_) | (refine atAftK ?_; refine Nx.keepN [0] rfl (by repeat constructor) (by repeat constructor) rfl ?_) | (refine atHoIdx ?_; refine Nx.hoIdx 0 (j := k) rfl rfl rfl Try.underlying31 rfl rfl rfl RRdH.enc_len hR rfl (by omega) (by omega) fun _ _ _ => ?_) | (refine atHoLoad ?_; first | refine hL1 rfl rfl rfl rfl (SeesAt.sub (by assumption) _ rfl) (by repeat constructor) rfl ?_ | refine hL1 rfl rfl rfl rfl (by assumption) (by repeat constructor) rfl ?_ | refine hLm rfl rfl rfl rfl (by assumption) (by repeat constructor) rfl rfl ?_) | (refine atRet ?_; refine Nx.ret [0] Try.func66 rfl rfl ?_; (exact ⟨rfl, rfl⟩)) | refine Nx.late ?_)
  rw [if_neg d1]
  have d1a : ¬(n.lo ≠ cu + 1) := fun h => d1 (.inl h)
  have d1b : ¬(n.seq < n.lo) := fun h => d1 (.inr (.inl h))
  have d1c : ¬(M.readers[k].r.pool < 0 ∧ n.seq ≠ nx.1 - 1) := fun h => d1 (.inr (.inr h))
  cases he : eventF M.p.facts n.ring n.seq with
  | none =>
    rw [he] at hev
    rw [if_pos (show (none : Option Ev).isNone = true from rfl)]
    refine FnOk.start Try.func66 rfl rfl rfl rfl fun F os tape output => ?_
    refine go 200 ?_
    conv => whnf
    refine Nx.bind (l := 5) (fun b5 => ?_) rfl
    repeat' (first | ((first | refine BrM.yes (by omega) ?_ | refine BrM.not (by omega) ?_ | refine BrM.t rfl ?_ | refine BrM.f rfl ?_ | refine BrM.dec (fun _ => ?_) (fun _ => ?_) | refine BrM.mk (fun _ => ?_) (fun _ => ?_) | refine Ar.i64 (by omega) (by omega) ?_ | refine gO rfl ?_ | refine gP rfl (by repeat constructor) ?_) <;> conv => whnf) | (refine atCall 64 ?_; refine cE [0] [0] rfl rfl rfl rfl rfl (hnext) rfl ?_) | (refine dN 2 [0] [0,5,8,12,18,20,24,28,32,37,40,45,48,52,56,60,64,68,73,76,80,84,89,92,96,100,105,108,112,116,120,124] rfl (by kernel_rfl) rfl (by kernel_rfl) rfl (by repeat constructor) rfl ?_) | (refine atCall 33 ?_; refine cE [0] [0] rfl rfl rfl rfl rfl (hcur) rfl ?_) | (refine atAftK ?_; refine Nx.keepN [0] rfl (by repeat constructor) (by repeat constructor) rfl ?_) | (refine atHoIdx ?_; refine Nx.hoIdx 0 (j := k) rfl rfl rfl Try.underlying31 rfl rfl rfl RRdH.enc_len hR rfl (by omega) (by omega) fun _ _ _ => ?_) | (refine atHoLoad ?_; first | refine hL1 rfl rfl rfl rfl (SeesAt.sub (by assumption) _ rfl) (by repeat constructor) rfl ?_ | refine hL1 rfl rfl rfl rfl (by assumption) (by repeat constructor) rfl ?_ | refine hLm rfl rfl rfl rfl (by assumption) (by repeat constructor) rfl rfl ?_) | (refine atCall 13 ?_; refine cE [0] [0] rfl rfl rfl rfl rfl (hev) rfl ?_) | (refine atRet ?_; refine Nx.ret [0] Try.func66 rfl rfl ?_; (exact ⟨rfl, rfl⟩)) | refine Nx.late ?_)
  | some e =>
    rw [he] at hev
    rw [if_neg (by simp)]
    refine FnOk.start Try.func66 rfl rfl rfl rfl fun F os tape output => ?_
    refine go 200 ?_
    conv => whnf
    refine Nx.bind (l := 5) (fun b5 => ?_) rfl
    repeat' (first | ((first | refine BrM.yes (by omega) ?_ | refine BrM.not (by omega) ?_ | refine BrM.t rfl ?_ | refine BrM.f rfl ?_ | refine BrM.dec (fun _ => ?_) (fun _ => ?_) | refine BrM.mk (fun _ => ?_) (fun _ => ?_) | refine Ar.i64 (by omega) (by omega) ?_ | refine gO rfl ?_ | refine gP rfl (by repeat constructor) ?_) <;> conv => whnf) | (refine atCall 64 ?_; refine cE [0] [0] rfl rfl rfl rfl rfl (hnext) rfl ?_) | (refine dN 2 [0] [0,5,8,12,18,20,24,28,32,37,40,45,48,52,56,60,64,68,73,76,80,84,89,92,96,100,105,108,112,116,120,124] rfl (by kernel_rfl) rfl (by kernel_rfl) rfl (by repeat constructor) rfl ?_) | (refine atCall 33 ?_; refine cE [0] [0] rfl rfl rfl rfl rfl (hcur) rfl ?_) | (refine atAftK ?_; refine Nx.keepN [0] rfl (by repeat constructor) (by repeat constructor) rfl ?_) | (refine atHoIdx ?_; refine Nx.hoIdx 0 (j := k) rfl rfl rfl Try.underlying31 rfl rfl rfl RRdH.enc_len hR rfl (by omega) (by omega) fun _ _ _ => ?_) | (refine atHoLoad ?_; first | refine hL1 rfl rfl rfl rfl (SeesAt.sub (by assumption) _ rfl) (by repeat constructor) rfl ?_ | refine hL1 rfl rfl rfl rfl (by assumption) (by repeat constructor) rfl ?_ | refine hLm rfl rfl rfl rfl (by assumption) (by repeat constructor) rfl rfl ?_) | (refine atCall 13 ?_; refine cE [0] [0] rfl rfl rfl rfl rfl (hev) rfl ?_) | (refine atRet ?_; refine Nx.ret [0] Try.func66 rfl rfl ?_; (exact ⟨rfl, rfl⟩)) | refine Nx.late ?_)
theorem rHandles_ok (M : RefH) (hm : MdV M.p) {k : Nat} (hk : k < M.readers.length) (n : Nt) (hring : M.readers[k].r.ring = n.ring) :
    FnOk Try.prog 65 [ptr M.b, .int .i64 k, n.v] [M.sp] (fun v Q => v = .int .i64 (M.p.handles M.readers[k].r n) ∧ Q = [M.sp]) := by
  obtain ⟨hl8, hl5, hl2⟩ := hm.lens
  have b2 := M.seeB.sub 2 rfl
  have hR := M.seeR
  have hnext := rNext_ok M hm hk
  have hxm := List.getElem_mem hk
  obtain ⟨x, hx⟩ : ∃ x, x = M.readers[k] := ⟨_, rfl⟩
  rw [← hx] at hnext hxm hring ⊢
  have hrm := List.mem_map_of_mem (f := RRdH.r) hxm
  have hral := hm.ral _ hrm
  have hrah := hm.rah _ hrm
  rw [hring] at hrah
  have hA := RefH.rah hxm
  have hev := rEvent_ok M hm n.ring n.seq
  unfold MdR.handles
  obtain ⟨nx, hnx⟩ : ∃ nx, nx = nextF M.p.facts x.r.who x.r.ring x.r.start := ⟨_, rfl⟩
  rw [← hnx] at hnext ⊢
  unfold Nt.v
  cases he : eventF M.p.facts n.ring n.seq with
  | none =>
    rw [he] at hev
    dsimp only
    refine FnOk.start Try.func65 rfl rfl rfl rfl fun F os tape output => ?_
    refine go 200 ?_
    conv => whnf
    repeat' (first | ((first | refine BrM.t rfl ?_ | refine BrM.f rfl ?_ | refine BrM.dec (fun _ => ?_) (fun _ => ?_) | refine BrM.mk (fun _ => ?_) (fun _ => ?_) | refine Ar.i64 (by omega) (by omega) ?_ | refine gO rfl ?_ | refine gP rfl (by repeat constructor) ?_) <;> conv => whnf) | (refine atLoad ?_; refine Nx.load1 0 rfl rfl rfl rfl (b2) rfl ?_) | (refine atIdx ?_; refine Nx.idx 0 (j := k) rfl rfl rfl Try.underlying31 rfl rfl rfl RRdH.enc_len hR rfl (by omega) (by omega) fun b p hqr => ?_; rw [← hx] at hqr) | (refine atLoad ?_; first | (refine Nx.load1 0 rfl rfl rfl rfl (SeesAt.sub (by assumption) _ rfl) rfl ?_) | (refine Nx.load1 0 rfl rfl rfl rfl (by assumption) rfl ?_) | (refine Nx.load 0 rfl rfl rfl rfl (by assumption) rfl rfl ?_)) | (refine atCall 13 ?_; refine cE [0] [0] rfl rfl rfl rfl rfl (hev) rfl ?_) | (refine atRet ?_; refine Nx.ret [0] Try.func65 rfl rfl ?_; (exact ⟨rfl, rfl⟩)) | refine Nx.late ?_)
  | some e =>
  rw [he] at hev
  dsimp only
  by_cases h1 : n.lo ≠ n.seq
  · rw [if_pos h1]
    refine FnOk.start Try.func65 rfl rfl rfl rfl fun F os tape output => ?_
    refine go 200 ?_
    conv => whnf
    repeat' (first | ((first | refine BrM.yes (by omega) ?_ | refine BrM.not (by omega) ?_ | refine BrM.t rfl ?_ | refine BrM.f rfl ?_ | refine BrM.dec (fun _ => ?_) (fun _ => ?_) | refine BrM.mk (fun _ => ?_) (fun _ => ?_) | refine Ar.i64 (by omega) (by omega) ?_ | refine gO rfl ?_ | refine gP rfl (by repeat constructor) ?_) <;> conv => whnf) | (refine atLoad ?_; refine Nx.load1 0 rfl rfl rfl rfl (b2) rfl ?_) | (refine atIdx ?_; refine Nx.idx 0 (j := k) rfl rfl rfl Try.underlying31 rfl rfl rfl RRdH.enc_len hR rfl (by omega) (by omega) fun b p hqr => ?_; rw [← hx] at hqr) | (refine atLoad ?_; first | (refine Nx.load1 0 rfl rfl rfl rfl (SeesAt.sub (by assumption) _ rfl) rfl ?_) | (refine Nx.load1 0 rfl rfl rfl rfl (by assumption) rfl ?_) | (refine Nx.load 0 rfl rfl rfl rfl (by assumption) rfl rfl ?_)) | (refine atCall 13 ?_; refine cE [0] [0] rfl rfl rfl rfl rfl (hev) rfl ?_) | (refine atRet ?_; refine Nx.ret [0] Try.func65 rfl rfl ?_; (exact ⟨rfl, rfl⟩)) | refine Nx.late ?_)
  rw [if_neg (by omega)]
  by_cases h2 : e ≠ n.x
  · rw [if_pos h2]
    have hbt : (if BinOp.neq = BinOp.eql then decide (e = n.x) else !decide (e = n.x)) = true := by simp [h2]
    refine FnOk.start Try.func65 rfl rfl rfl rfl fun F os tape output => ?_
    refine go 200 ?_
    conv => whnf
    repeat' (first | (refine atBr ?_; refine BrM.t (hbt) ?_; conv => whnf) | ((first | refine BrM.yes (by omega) ?_ | refine BrM.not (by omega) ?_ | refine BrM.t rfl ?_ | refine BrM.f rfl ?_ | refine BrM.dec (fun _ => ?_) (fun _ => ?_) | refine BrM.mk (fun _ => ?_) (fun _ => ?_) | refine Ar.i64 (by omega) (by omega) ?_ | refine gO rfl ?_ | refine gP rfl (by repeat constructor) ?_) <;> conv => whnf) | (refine atOne ?_; refine Nx.eqS rfl (.inr rfl) rfl rfl rfl rfl (by kernel_rfl) (eq39 e n.x) rfl ?_) | (refine atLoad ?_; refine Nx.load1 0 rfl rfl rfl rfl (b2) rfl ?_) | (refine atIdx ?_; refine Nx.idx 0 (j := k) rfl rfl rfl Try.underlying31 rfl rfl rfl RRdH.enc_len hR rfl (by omega) (by omega) fun b p hqr => ?_; rw [← hx] at hqr) | (refine atLoad ?_; first | (refine Nx.load1 0 rfl rfl rfl rfl (SeesAt.sub (by assumption) _ rfl) rfl ?_) | (refine Nx.load1 0 rfl rfl rfl rfl (by assumption) rfl ?_) | (refine Nx.load 0 rfl rfl rfl rfl (by assumption) rfl rfl ?_)) | (refine atCall 13 ?_; refine cE [0] [0] rfl rfl rfl rfl rfl (hev) rfl ?_) | (refine atRet ?_; refine Nx.ret [0] Try.func65 rfl rfl ?_; (exact ⟨rfl, rfl⟩)) | refine Nx.late ?_)
  rw [if_neg h2]
  have h2 : e = n.x := Decidable.not_not.1 h2
  have hbf : (if BinOp.neq = BinOp.eql then decide (e = n.x) else !decide (e = n.x)) = false := by simp [h2]
  refine FnOk.start Try.func65 rfl rfl rfl rfl fun F os tape output => ?_
  refine go 200 ?_
  conv => whnf
  repeat' (first | (refine atBr ?_; refine BrM.f (hbf) ?_; conv => whnf) | ((first | refine BrM.yes (by omega) ?_ | refine BrM.not (by omega) ?_ | refine BrM.t rfl ?_ | refine BrM.f rfl ?_ | refine BrM.dec (fun _ => ?_) (fun _ => ?_) | refine BrM.mk (fun _ => ?_) (fun _ => ?_) | refine Ar.i64 (by omega) (by omega) ?_ | refine gO rfl ?_ | refine gP rfl (by repeat constructor) ?_) <;> conv => whnf) | (refine atOne ?_; refine Nx.eqS rfl (.inr rfl) rfl rfl rfl rfl (by kernel_rfl) (eq39 e n.x) rfl ?_) | (refine atLoad ?_; refine Nx.load1 0 rfl rfl rfl rfl (b2) rfl ?_) | (refine atIdx ?_; refine Nx.idx 0 (j := k) rfl rfl rfl Try.underlying31 rfl rfl rfl RRdH.enc_len hR rfl (by omega) (by omega) fun b p hqr => ?_; rw [← hx] at hqr) | (refine atLoad ?_; first | (refine Nx.load1 0 rfl rfl rfl rfl (SeesAt.sub (by assumption) _ rfl) rfl ?_) | (refine Nx.load1 0 rfl rfl rfl rfl (by assumption) rfl ?_) | (refine Nx.load 0 rfl rfl rfl rfl (by assumption) rfl rfl ?_)) | (refine atCall 13 ?_; refine cE [0] [0] rfl rfl rfl rfl rfl (hev) rfl ?_) | (fail) | refine Nx.late ?_)
  refine Nx.bind (l := 5) (fun b5 => ?_) rfl
  refine Nx.bind (l := 7) (fun b7 => ?_) rfl
  refine Nx.loop (X := Nat) (fun j => j ≤ x.r.ahead.length ∧ ∀ q, (hq : q < j) → (hl : q < x.r.ahead.length) → M.p.blocks n.ring n.seq x.r.ahead[q] = false) (fun j => x.r.ahead.length - j)
    (fun j => [(0, .c (.v (ptr M.b))), (1, iv k), (5, .c (.loc 5 0)), (7, .c (.loc 7 0)), (10, iv j)]) (fun _ => [(5, 42, [.v (.int .i64 n.who), .v (.int .i64 n.ring), .v (.int .i64 n.deed), .v (.int .i64 n.lo), .v (.int .i64 n.seq), .v (.int .i64 n.x.key), .v (.int .i64 n.x.val), .v (.int .i64 n.code)]), (7, 54, [.v (.int .i64 x.r.who), .v (.int .i64 x.r.ring), .v (.int .i64 x.r.start), .v (.int .i64 x.r.pool), .v (.slice x.aA x.r.ahead.length x.ac)])]) [(5, b5), (7, b7)] (fun _ => [(0, M.sp)]) 0 ⟨Nat.zero_le _, fun i hi => by omega⟩ ?_ ?_ ?_ ?_ ?_
  all_goals repeat (first | exact .nil _ | refine .cons rfl ?_ | refine .cons rfl rfl ?_ | refine .cons rfl rfl rfl ?_ | refine .cons' rfl (fun _ => rfl) ?_)
  intro j ⟨hj, hno⟩ ih
  by_cases hlt : j < x.r.ahead.length
  · have hat := rAt_ok M hm x.r.ahead[j] n.ring
    have hsome := hrah _ (List.getElem_mem hlt)
    obtain ⟨o, ho⟩ := Option.isSome_iff_exists.1 hsome
    have hol : o < M.readers.length := by
      have := (findI_is ho).1
      rw [M.lr] at this
      exact this
    have eo : ixV (some o) = (o : Int) := rfl
    rw [ho, eo] at hat
    have eb : M.p.blocks n.ring n.seq x.r.ahead[j] = if M.readers[o].r.pool < 0 then decide (cursorF M.p.facts M.readers[o].r.who M.readers[o].r.ring M.readers[o].r.start < n.seq) else !M.p.has M.readers[o].r.pool n.seq := by
      unfold MdR.blocks
      rw [ho]
      dsimp only
      rw [RefH.gr hol]
    have hyes : M.p.blocks n.ring n.seq x.r.ahead[j] = true → (x.r.ahead.any (M.p.blocks n.ring n.seq)) = true := fun h => List.any_eq_true.2 ⟨_, List.getElem_mem hlt, h⟩
    have next : M.p.blocks n.ring n.seq x.r.ahead[j] = false → ∀ q, (hq : q < j + 1) → (hl : q < x.r.ahead.length) → M.p.blocks n.ring n.seq x.r.ahead[q] = false := fun h q hq hl => by
      by_cases e : q = j
      · subst e; exact h
      · exact hno q (by omega) hl
    have hcur := rCursor_ok M hm hol
    have hhas := rHas_ok M hm M.readers[o].r.pool n.seq
    by_cases c1 : M.readers[o].r.pool < 0
    · rw [if_pos c1] at eb
      by_cases c2 : cursorF M.p.facts M.readers[o].r.who M.readers[o].r.ring M.readers[o].r.start < n.seq
      · rw [hyes (by rw [eb]; simp [c2]), if_pos rfl]
        repeat' (first | ((first | refine BrM.yes (by omega) ?_ | refine BrM.not (by omega) ?_ | refine BrM.t rfl ?_ | refine BrM.f rfl ?_ | refine BrM.dec (fun _ => ?_) (fun _ => ?_) | refine BrM.mk (fun _ => ?_) (fun _ => ?_) | refine Ar.i64 (by omega) (by omega) ?_ | refine gO rfl ?_ | refine gP rfl (by repeat constructor) ?_) <;> conv => whnf) | (refine dN 10 [0] [0,4,9,12,16,21,24,29,34,36] rfl (by kernel_rfl) rfl (by kernel_rfl) rfl (by repeat constructor) rfl ?_) | (refine dN 11 [0] [0,4,8,13,16,20,24,29,32,36,40,44,52,57,50,60,64] rfl (by kernel_rfl) rfl (by kernel_rfl) rfl (by repeat constructor) rfl ?_) | (refine dN 13 [0] [0,4,8,13,16,20,24,29,32,36,40,44,48,52,57,60,64,68,73,76,81,86,88,92] rfl (by kernel_rfl) rfl (by kernel_rfl) rfl (by repeat constructor) rfl ?_) | (refine atHoIdx ?_; refine Nx.hoIdx 0 (j := j) rfl rfl rfl Try.underlying35 rfl rfl rfl inC_len hA rfl (by omega) (by omega) fun _ _ _ => ?_) | (refine atHoIdx ?_; refine Nx.hoIdx 0 (j := o) rfl rfl rfl Try.underlying31 rfl rfl rfl RRdH.enc_len hR rfl (by omega) (by omega) fun _ _ _ => ?_) | (refine atHoLoad ?_; first | refine hL1 rfl rfl rfl rfl (SeesAt.sub (by assumption) _ rfl) (by repeat constructor) rfl ?_ | refine hL1 rfl rfl rfl rfl (by assumption) (by repeat constructor) rfl ?_ | refine hLm rfl rfl rfl rfl (by assumption) (by repeat constructor) rfl rfl ?_) | (refine atCall 52 ?_; refine cE [0] [0] rfl rfl rfl rfl rfl (hat) rfl ?_) | (refine atCall 33 ?_; refine cE [0] [0] rfl rfl rfl rfl rfl (hcur) rfl ?_) | (refine atAftK ?_; refine Nx.keepN [0] rfl (by repeat constructor) (by repeat constructor) rfl ?_) | (refine atRet ?_; refine Nx.ret [0] Try.func65 rfl rfl ?_; (exact ⟨rfl, rfl⟩)) | refine Nx.late ?_)
      · repeat' (first | ((first | refine BrM.yes (by omega) ?_ | refine BrM.not (by omega) ?_ | refine BrM.t rfl ?_ | refine BrM.f rfl ?_ | refine BrM.dec (fun _ => ?_) (fun _ => ?_) | refine BrM.mk (fun _ => ?_) (fun _ => ?_) | refine Ar.i64 (by omega) (by omega) ?_ | refine gO rfl ?_ | refine gP rfl (by repeat constructor) ?_) <;> conv => whnf) | (refine dN 10 [0] [0,4,9,12,16,21,24,29,34,36] rfl (by kernel_rfl) rfl (by kernel_rfl) rfl (by repeat constructor) rfl ?_) | (refine dN 11 [0] [0,4,8,13,16,20,24,29,32,36,40,44,52,57,50,60,64] rfl (by kernel_rfl) rfl (by kernel_rfl) rfl (by repeat constructor) rfl ?_) | (refine dN 13 [0] [0,4,8,13,16,20,24,29,32,36,40,44,48,52,57,60,64,68,73,76,81,86,88,92] rfl (by kernel_rfl) rfl (by kernel_rfl) rfl (by repeat constructor) rfl ?_) | (refine atHoIdx ?_; refine Nx.hoIdx 0 (j := j) rfl rfl rfl Try.underlying35 rfl rfl rfl inC_len hA rfl (by omega) (by omega) fun _ _ _ => ?_) | (refine atHoIdx ?_; refine Nx.hoIdx 0 (j := o) rfl rfl rfl Try.underlying31 rfl rfl rfl RRdH.enc_len hR rfl (by omega) (by omega) fun _ _ _ => ?_) | (refine atHoLoad ?_; first | refine hL1 rfl rfl rfl rfl (SeesAt.sub (by assumption) _ rfl) (by repeat constructor) rfl ?_ | refine hL1 rfl rfl rfl rfl (by assumption) (by repeat constructor) rfl ?_ | refine hLm rfl rfl rfl rfl (by assumption) (by repeat constructor) rfl rfl ?_) | (refine atCall 52 ?_; refine cE [0] [0] rfl rfl rfl rfl rfl (hat) rfl ?_) | (refine atCall 33 ?_; refine cE [0] [0] rfl rfl rfl rfl rfl (hcur) rfl ?_) | (refine atAftK ?_; refine Nx.keepN [0] rfl (by repeat constructor) (by repeat constructor) rfl ?_) | refine Nx.late ?_)
        refine (ih (j + 1) ⟨by omega, next (by rw [eb]; simp [c2])⟩ (by omega)).weak ?_ ?_ ?_ ?_
        all_goals repeat (first | exact .nil _ | refine .cons rfl ?_ | refine .cons rfl rfl ?_ | refine .cons rfl rfl rfl ?_ | refine .cons' rfl (fun _ => rfl) ?_)
    · rw [if_neg c1] at eb
      cases hh : M.p.has M.readers[o].r.pool n.seq with
      | true =>
        rw [hh] at hhas eb
        repeat' (first | ((first | refine BrM.yes (by omega) ?_ | refine BrM.not (by omega) ?_ | refine BrM.t rfl ?_ | refine BrM.f rfl ?_ | refine BrM.dec (fun _ => ?_) (fun _ => ?_) | refine BrM.mk (fun _ => ?_) (fun _ => ?_) | refine Ar.i64 (by omega) (by omega) ?_ | refine gO rfl ?_ | refine gP rfl (by repeat constructor) ?_) <;> conv => whnf) | (refine dN 10 [0] [0,4,9,12,16,21,24,29,34,36] rfl (by kernel_rfl) rfl (by kernel_rfl) rfl (by repeat constructor) rfl ?_) | (refine dN 11 [0] [0,4,8,13,16,20,24,29,32,36,40,44,52,57,50,60,64] rfl (by kernel_rfl) rfl (by kernel_rfl) rfl (by repeat constructor) rfl ?_) | (refine dN 13 [0] [0,4,8,13,16,20,24,29,32,36,40,44,48,52,57,60,64,68,73,76,81,86,88,92] rfl (by kernel_rfl) rfl (by kernel_rfl) rfl (by repeat constructor) rfl ?_) | (refine atHoIdx ?_; refine Nx.hoIdx 0 (j := j) rfl rfl rfl Try.underlying35 rfl rfl rfl inC_len hA rfl (by omega) (by omega) fun _ _ _ => ?_) | (refine atHoIdx ?_; refine Nx.hoIdx 0 (j := o) rfl rfl rfl Try.underlying31 rfl rfl rfl RRdH.enc_len hR rfl (by omega) (by omega) fun _ _ _ => ?_) | (refine atHoLoad ?_; first | refine hL1 rfl rfl rfl rfl (SeesAt.sub (by assumption) _ rfl) (by repeat constructor) rfl ?_ | refine hL1 rfl rfl rfl rfl (by assumption) (by repeat constructor) rfl ?_ | refine hLm rfl rfl rfl rfl (by assumption) (by repeat constructor) rfl rfl ?_) | (refine atCall 52 ?_; refine cE [0] [0] rfl rfl rfl rfl rfl (hat) rfl ?_) | (refine atCall 69 ?_; refine cE [0] [0] rfl rfl rfl rfl rfl (hhas) rfl ?_) | (refine atAftK ?_; refine Nx.keepN [0] rfl (by repeat constructor) (by repeat constructor) rfl ?_) | refine Nx.late ?_)
        refine (ih (j + 1) ⟨by omega, next (by rw [eb]; rfl)⟩ (by omega)).weak ?_ ?_ ?_ ?_
        all_goals repeat (first | exact .nil _ | refine .cons rfl ?_ | refine .cons rfl rfl ?_ | refine .cons rfl rfl rfl ?_ | refine .cons' rfl (fun _ => rfl) ?_)
      | false =>
        rw [hh] at hhas eb
        rw [hyes (by rw [eb]; rfl), if_pos rfl]
        repeat' (first | ((first | refine BrM.yes (by omega) ?_ | refine BrM.not (by omega) ?_ | refine BrM.t rfl ?_ | refine BrM.f rfl ?_ | refine BrM.dec (fun _ => ?_) (fun _ => ?_) | refine BrM.mk (fun _ => ?_) (fun _ => ?_) | refine Ar.i64 (by omega) (by omega) ?_ | refine gO rfl ?_ | refine gP rfl (by repeat constructor) ?_) <;> conv => whnf) | (refine dN 10 [0] [0,4,9,12,16,21,24,29,34,36] rfl (by kernel_rfl) rfl (by kernel_rfl) rfl (by repeat constructor) rfl ?_) | (refine dN 11 [0] [0,4,8,13,16,20,24,29,32,36,40,44,52,57,50,60,64] rfl (by kernel_rfl) rfl (by kernel_rfl) rfl (by repeat constructor) rfl ?_) | (refine dN 13 [0] [0,4,8,13,16,20,24,29,32,36,40,44,48,52,57,60,64,68,73,76,81,86,88,92] rfl (by kernel_rfl) rfl (by kernel_rfl) rfl (by repeat constructor) rfl ?_) | (refine atHoIdx ?_; refine Nx.hoIdx 0 (j := j) rfl rfl rfl Try.underlying35 rfl rfl rfl inC_len hA rfl (by omega) (by omega) fun _ _ _ => ?_) | (refine atHoIdx ?_; refine Nx.hoIdx 0 (j := o) rfl rfl rfl Try.underlying31 rfl rfl rfl RRdH.enc_len hR rfl (by omega) (by omega) fun _ _ _ => ?_) | (refine atHoLoad ?_; first | refine hL1 rfl rfl rfl rfl (SeesAt.sub (by assumption) _ rfl) (by repeat constructor) rfl ?_ | refine hL1 rfl rfl rfl rfl (by assumption) (by repeat constructor) rfl ?_ | refine hLm rfl rfl rfl rfl (by assumption) (by repeat constructor) rfl rfl ?_) | (refine atCall 52 ?_; refine cE [0] [0] rfl rfl rfl rfl rfl (hat) rfl ?_) | (refine atCall 69 ?_; refine cE [0] [0] rfl rfl rfl rfl rfl (hhas) rfl ?_) | (refine atAftK ?_; refine Nx.keepN [0] rfl (by repeat constructor) (by repeat constructor) rfl ?_) | (refine atRet ?_; refine Nx.ret [0] Try.func65 rfl rfl ?_; (exact ⟨rfl, rfl⟩)) | refine Nx.late ?_)
  have ea : (x.r.ahead.any (M.p.blocks n.ring n.seq)) = false := by
    rw [List.any_eq_false]
    intro a hqa
    obtain ⟨q, hql, rfl⟩ := List.getElem_of_mem hqa
    rw [hno q (by omega) hql]; decide
  rw [ea, if_neg (by decide)]
  by_cases h3 : 0 ≤ x.r.pool
  · rw [if_pos h3]
    have hhas := rHas_ok M hm x.r.pool n.seq
    cases hh : M.p.has x.r.pool n.seq with
    | true =>
      rw [hh] at hhas
      rw [if_pos rfl]
      repeat' (first | ((first | refine BrM.yes (by omega) ?_ | refine BrM.not (by omega) ?_ | refine BrM.t rfl ?_ | refine BrM.f rfl ?_ | refine BrM.dec (fun _ => ?_) (fun _ => ?_) | refine BrM.mk (fun _ => ?_) (fun _ => ?_) | refine Ar.i64 (by omega) (by omega) ?_ | refine gO rfl ?_ | refine gP rfl (by repeat constructor) ?_) <;> conv => whnf) | (refine atCall 69 ?_; refine cE [0] [0] rfl rfl rfl rfl rfl (hhas) rfl ?_) | (refine atRet ?_; refine Nx.ret [0] Try.func65 rfl rfl ?_; (exact ⟨rfl, rfl⟩)) | refine Nx.late ?_)
    | false =>
      rw [hh] at hhas
      rw [if_neg (by decide)]
      repeat' (first | ((first | refine BrM.yes (by omega) ?_ | refine BrM.not (by omega) ?_ | refine BrM.t rfl ?_ | refine BrM.f rfl ?_ | refine BrM.dec (fun _ => ?_) (fun _ => ?_) | refine BrM.mk (fun _ => ?_) (fun _ => ?_) | refine Ar.i64 (by omega) (by omega) ?_ | refine gO rfl ?_ | refine gP rfl (by repeat constructor) ?_) <;> conv => whnf) | (refine atCall 69 ?_; refine cE [0] [0] rfl rfl rfl rfl rfl (hhas) rfl ?_) | (refine atRet ?_; refine Nx.ret [0] Try.func65 rfl rfl ?_; (exact ⟨rfl, rfl⟩)) | refine Nx.late ?_)
  · rw [if_neg h3]
    by_cases h4 : n.seq ≠ nx.1
    · rw [if_pos h4]
      repeat' (first | ((first | refine BrM.yes (by omega) ?_ | refine BrM.not (by omega) ?_ | refine BrM.t rfl ?_ | refine BrM.f rfl ?_ | refine BrM.dec (fun _ => ?_) (fun _ => ?_) | refine BrM.mk (fun _ => ?_) (fun _ => ?_) | refine Ar.i64 (by omega) (by omega) ?_ | refine gO rfl ?_ | refine gP rfl (by repeat constructor) ?_) <;> conv => whnf) | (refine atCall 64 ?_; refine cE [0] [0] rfl rfl rfl rfl rfl (hnext) rfl ?_) | (refine atRet ?_; refine Nx.ret [0] Try.func65 rfl rfl ?_; (exact ⟨rfl, rfl⟩)) | refine Nx.late ?_)
    · rw [if_neg h4]
      repeat' (first | ((first | refine BrM.yes (by omega) ?_ | refine BrM.not (by omega) ?_ | refine BrM.t rfl ?_ | refine BrM.f rfl ?_ | refine BrM.dec (fun _ => ?_) (fun _ => ?_) | refine BrM.mk (fun _ => ?_) (fun _ => ?_) | refine Ar.i64 (by omega) (by omega) ?_ | refine gO rfl ?_ | refine gP rfl (by repeat constructor) ?_) <;> conv => whnf) | (refine atCall 64 ?_; refine cE [0] [0] rfl rfl rfl rfl rfl (hnext) rfl ?_) | (refine atRet ?_; refine Nx.ret [0] Try.func65 rfl rfl ?_; (exact ⟨rfl, rfl⟩)) | refine Nx.late ?_)
end Go.Proofs.Ytngfadijcpnblaa

/- The reference: reads, Take. -/
namespace Go.Proofs.Ytngfadijcpnblaa
open Go.RowKit
set_option maxRecDepth 20000
set_option maxHeartbeats 4000000
attribute [local irreducible] Nx Ar BrM headC OneC HoC AftC planHead endF
theorem rReads_ok (M : RefH) (hm : MdV M.p) {k : Nat} (hk : k < M.readers.length) (n : Nt) (hring : M.readers[k].r.ring = n.ring) :
    FnOk Try.prog 56 [ptr M.b, .int .i64 k, n.v] [M.sp] (fun v Q => v = .int .i64 (M.p.readsAt M.readers[k].r n) ∧ Q = [M.sp]) := by
  obtain ⟨hl8, hl5, hl2⟩ := hm.lens
  have b2 := M.seeB.sub 2 rfl
  have hR := M.seeR
  have hcur := rCursor_ok M hm hk
  have hnext := rNext_ok M hm hk
  have hrm := List.mem_map_of_mem (f := RRdH.r) (List.getElem_mem hk)
  have hrs := hm.rstart _ hrm
  have hrb := hm.rb _ hrm
  obtain ⟨n1, n2, n3, n4⟩ := nextF_bnd M.p.facts M.readers[k].r.who M.readers[k].r.ring M.readers[k].r.start
  rw [M.lf] at n2 n4
  have hhan := rHandles_ok M hm hk n hring
  have hmov := rMoves_ok M hm hk n
  have hdid := rDid_ok M hm n.who n.ring 6
  unfold MdR.readsAt
  dsimp only
  obtain ⟨cu, hcu⟩ : ∃ cu, cu = cursorF M.p.facts M.readers[k].r.who M.readers[k].r.ring M.readers[k].r.start := ⟨_, rfl⟩
  obtain ⟨nx, hnx⟩ : ∃ nx, nx = nextF M.p.facts M.readers[k].r.who M.readers[k].r.ring M.readers[k].r.start := ⟨_, rfl⟩
  rw [← hcu] at hcur hrb ⊢
  rw [← hnx] at hnext n1 n2 n3 n4 ⊢
  unfold Nt.v at hhan hmov ⊢
  by_cases d2 : n.deed = 2
  · rw [if_pos d2]
    refine FnOk.start Try.func56 rfl rfl rfl rfl fun F os tape output => ?_
    refine go 200 ?_
    conv => whnf
    repeat' (first | ((first | refine BrM.yes (by omega) ?_ | refine BrM.not (by omega) ?_ | refine BrM.t rfl ?_ | refine BrM.f rfl ?_ | refine BrM.dec (fun _ => ?_) (fun _ => ?_) | refine BrM.mk (fun _ => ?_) (fun _ => ?_) | refine Ar.i64 (by omega) (by omega) ?_ | refine gO rfl ?_ | refine gP rfl (by repeat constructor) ?_) <;> conv => whnf) | (refine atCall 64 ?_; refine cE [0] [0] rfl rfl rfl rfl rfl (hnext) rfl ?_) | (refine atCall 65 ?_; refine cE [0] [0] rfl rfl rfl rfl rfl (hhan) rfl ?_) | (refine atRet ?_; refine Nx.ret [0] Try.func56 rfl rfl ?_; (exact ⟨rfl, rfl⟩)) | refine Nx.late ?_)
  rw [if_neg d2]
  by_cases d3 : n.deed = 3
  · rw [if_pos d3]
    refine FnOk.start Try.func56 rfl rfl rfl rfl fun F os tape output => ?_
    refine go 200 ?_
    conv => whnf
    repeat' (first | ((first | refine BrM.yes (by omega) ?_ | refine BrM.not (by omega) ?_ | refine BrM.t rfl ?_ | refine BrM.f rfl ?_ | refine BrM.dec (fun _ => ?_) (fun _ => ?_) | refine BrM.mk (fun _ => ?_) (fun _ => ?_) | refine Ar.i64 (by omega) (by omega) ?_ | refine gO rfl ?_ | refine gP rfl (by repeat constructor) ?_) <;> conv => whnf) | (refine atCall 64 ?_; refine cE [0] [0] rfl rfl rfl rfl rfl (hnext) rfl ?_) | (refine atCall 66 ?_; refine cE [0] [0] rfl rfl rfl rfl rfl (hmov) rfl ?_) | (refine atRet ?_; refine Nx.ret [0] Try.func56 rfl rfl ?_; (exact ⟨rfl, rfl⟩)) | refine Nx.late ?_)
  rw [if_neg d3]
  by_cases d4 : n.deed = 4
  · rw [if_pos d4]
    by_cases p : 0 ≤ M.readers[k].r.pool
    · rw [if_pos p]
      refine FnOk.start Try.func56 rfl rfl rfl rfl fun F os tape output => ?_
      refine go 200 ?_
      conv => whnf
      repeat' (first | ((first | refine BrM.yes (by omega) ?_ | refine BrM.not (by omega) ?_ | refine BrM.t rfl ?_ | refine BrM.f rfl ?_ | refine BrM.dec (fun _ => ?_) (fun _ => ?_) | refine BrM.mk (fun _ => ?_) (fun _ => ?_) | refine Ar.i64 (by omega) (by omega) ?_ | refine gO rfl ?_ | refine gP rfl (by repeat constructor) ?_) <;> conv => whnf) | (refine atCall 64 ?_; refine cE [0] [0] rfl rfl rfl rfl rfl (hnext) rfl ?_) | (refine atLoad ?_; refine Nx.load1 0 rfl rfl rfl rfl (b2) rfl ?_) | (refine atIdx ?_; refine Nx.idx 0 (j := k) rfl rfl rfl Try.underlying31 rfl rfl rfl RRdH.enc_len hR rfl (by omega) (by omega) fun _ _ _ => ?_) | (refine atLoad ?_; first | (refine Nx.load1 0 rfl rfl rfl rfl (SeesAt.sub (by assumption) _ rfl) rfl ?_) | (refine Nx.load1 0 rfl rfl rfl rfl (by assumption) rfl ?_) | (refine Nx.load 0 rfl rfl rfl rfl (by assumption) rfl rfl ?_)) | (refine atRet ?_; refine Nx.ret [0] Try.func56 rfl rfl ?_; (exact ⟨rfl, rfl⟩)) | refine Nx.late ?_)
    rw [if_neg p]
    by_cases c : n.code ≠ 0
    · rw [if_pos c]
      by_cases e : nx.1 ≠ nx.2
      · rw [if_pos e]
        refine FnOk.start Try.func56 rfl rfl rfl rfl fun F os tape output => ?_
        refine go 200 ?_
        conv => whnf
        repeat' (first | ((first | refine BrM.yes (by omega) ?_ | refine BrM.not (by omega) ?_ | refine BrM.t rfl ?_ | refine BrM.f rfl ?_ | refine BrM.dec (fun _ => ?_) (fun _ => ?_) | refine BrM.mk (fun _ => ?_) (fun _ => ?_) | refine Ar.i64 (by omega) (by omega) ?_ | refine gO rfl ?_ | refine gP rfl (by repeat constructor) ?_) <;> conv => whnf) | (refine atCall 64 ?_; refine cE [0] [0] rfl rfl rfl rfl rfl (hnext) rfl ?_) | (refine atLoad ?_; refine Nx.load1 0 rfl rfl rfl rfl (b2) rfl ?_) | (refine atIdx ?_; refine Nx.idx 0 (j := k) rfl rfl rfl Try.underlying31 rfl rfl rfl RRdH.enc_len hR rfl (by omega) (by omega) fun _ _ _ => ?_) | (refine atLoad ?_; first | (refine Nx.load1 0 rfl rfl rfl rfl (SeesAt.sub (by assumption) _ rfl) rfl ?_) | (refine Nx.load1 0 rfl rfl rfl rfl (by assumption) rfl ?_) | (refine Nx.load 0 rfl rfl rfl rfl (by assumption) rfl rfl ?_)) | (refine atRet ?_; refine Nx.ret [0] Try.func56 rfl rfl ?_; (exact ⟨rfl, rfl⟩)) | refine Nx.late ?_)
      · rw [if_neg e]
        refine FnOk.start Try.func56 rfl rfl rfl rfl fun F os tape output => ?_
        refine go 200 ?_
        conv => whnf
        repeat' (first | ((first | refine BrM.yes (by omega) ?_ | refine BrM.not (by omega) ?_ | refine BrM.t rfl ?_ | refine BrM.f rfl ?_ | refine BrM.dec (fun _ => ?_) (fun _ => ?_) | refine BrM.mk (fun _ => ?_) (fun _ => ?_) | refine Ar.i64 (by omega) (by omega) ?_ | refine gO rfl ?_ | refine gP rfl (by repeat constructor) ?_) <;> conv => whnf) | (refine atCall 64 ?_; refine cE [0] [0] rfl rfl rfl rfl rfl (hnext) rfl ?_) | (refine atLoad ?_; refine Nx.load1 0 rfl rfl rfl rfl (b2) rfl ?_) | (refine atIdx ?_; refine Nx.idx 0 (j := k) rfl rfl rfl Try.underlying31 rfl rfl rfl RRdH.enc_len hR rfl (by omega) (by omega) fun _ _ _ => ?_) | (refine atLoad ?_; first | (refine Nx.load1 0 rfl rfl rfl rfl (SeesAt.sub (by assumption) _ rfl) rfl ?_) | (refine Nx.load1 0 rfl rfl rfl rfl (by assumption) rfl ?_) | (refine Nx.load 0 rfl rfl rfl rfl (by assumption) rfl rfl ?_)) | (refine atRet ?_; refine Nx.ret [0] Try.func56 rfl rfl ?_; (exact ⟨rfl, rfl⟩)) | refine Nx.late ?_)
    rw [if_neg c]
    by_cases g : n.lo ≠ nx.2 ∨ n.seq ≠ nx.1 - 1 ∨ n.seq < n.lo ∨ cu ≠ n.seq
    · rw [if_pos g]
      refine FnOk.start Try.func56 rfl rfl rfl rfl fun F os tape output => ?_
      refine go 200 ?_
      conv => whnf
      refine Nx.bind (l := 5) (fun b5 => ?_) rfl
      repeat' (first | ((first | refine BrM.yes (by omega) ?_ | refine BrM.not (by omega) ?_ | refine BrM.t rfl ?_ | refine BrM.f rfl ?_ | refine BrM.dec (fun _ => ?_) (fun _ => ?_) | refine BrM.mk (fun _ => ?_) (fun _ => ?_) | refine Ar.i64 (by omega) (by omega) ?_ | refine gO rfl ?_ | refine gP rfl (by repeat constructor) ?_) <;> conv => whnf) | (refine atCall 64 ?_; refine cE [0] [0] rfl rfl rfl rfl rfl (hnext) rfl ?_) | (refine atLoad ?_; refine Nx.load1 0 rfl rfl rfl rfl (b2) rfl ?_) | (refine atIdx ?_; refine Nx.idx 0 (j := k) rfl rfl rfl Try.underlying31 rfl rfl rfl RRdH.enc_len hR rfl (by omega) (by omega) fun _ _ _ => ?_) | (refine atLoad ?_; first | (refine Nx.load1 0 rfl rfl rfl rfl (SeesAt.sub (by assumption) _ rfl) rfl ?_) | (refine Nx.load1 0 rfl rfl rfl rfl (by assumption) rfl ?_) | (refine Nx.load 0 rfl rfl rfl rfl (by assumption) rfl rfl ?_)) | (refine dN 14 [0] [0,5,8,12,16,20,25,28,32,36,40,44,48,53,56,61,64,68,72,76,80,88,93,86,96,100] rfl (by kernel_rfl) rfl (by kernel_rfl) rfl (by repeat constructor) rfl ?_) | (refine atCall 33 ?_; refine cE [0] [0] rfl rfl rfl rfl rfl (hcur) rfl ?_) | (refine atAftK ?_; refine Nx.keepN [0] rfl (by repeat constructor) (by repeat constructor) rfl ?_) | (refine atHoLoad ?_; first | refine hL1 rfl rfl rfl rfl (SeesAt.sub (by assumption) _ rfl) (by repeat constructor) rfl ?_ | refine hL1 rfl rfl rfl rfl (by assumption) (by repeat constructor) rfl ?_ | refine hLm rfl rfl rfl rfl (by assumption) (by repeat constructor) rfl rfl ?_) | (refine atRet ?_; refine Nx.ret [0] Try.func56 rfl rfl ?_; (exact ⟨rfl, rfl⟩)) | refine Nx.late ?_)
    · rw [if_neg g]
      refine FnOk.start Try.func56 rfl rfl rfl rfl fun F os tape output => ?_
      refine go 200 ?_
      conv => whnf
      refine Nx.bind (l := 5) (fun b5 => ?_) rfl
      repeat' (first | ((first | refine BrM.yes (by omega) ?_ | refine BrM.not (by omega) ?_ | refine BrM.t rfl ?_ | refine BrM.f rfl ?_ | refine BrM.dec (fun _ => ?_) (fun _ => ?_) | refine BrM.mk (fun _ => ?_) (fun _ => ?_) | refine Ar.i64 (by omega) (by omega) ?_ | refine gO rfl ?_ | refine gP rfl (by repeat constructor) ?_) <;> conv => whnf) | (refine atCall 64 ?_; refine cE [0] [0] rfl rfl rfl rfl rfl (hnext) rfl ?_) | (refine atLoad ?_; refine Nx.load1 0 rfl rfl rfl rfl (b2) rfl ?_) | (refine atIdx ?_; refine Nx.idx 0 (j := k) rfl rfl rfl Try.underlying31 rfl rfl rfl RRdH.enc_len hR rfl (by omega) (by omega) fun _ _ _ => ?_) | (refine atLoad ?_; first | (refine Nx.load1 0 rfl rfl rfl rfl (SeesAt.sub (by assumption) _ rfl) rfl ?_) | (refine Nx.load1 0 rfl rfl rfl rfl (by assumption) rfl ?_) | (refine Nx.load 0 rfl rfl rfl rfl (by assumption) rfl rfl ?_)) | (refine dN 14 [0] [0,5,8,12,16,20,25,28,32,36,40,44,48,53,56,61,64,68,72,76,80,88,93,86,96,100] rfl (by kernel_rfl) rfl (by kernel_rfl) rfl (by repeat constructor) rfl ?_) | (refine atCall 33 ?_; refine cE [0] [0] rfl rfl rfl rfl rfl (hcur) rfl ?_) | (refine atAftK ?_; refine Nx.keepN [0] rfl (by repeat constructor) (by repeat constructor) rfl ?_) | (refine atHoLoad ?_; first | refine hL1 rfl rfl rfl rfl (SeesAt.sub (by assumption) _ rfl) (by repeat constructor) rfl ?_ | refine hL1 rfl rfl rfl rfl (by assumption) (by repeat constructor) rfl ?_ | refine hLm rfl rfl rfl rfl (by assumption) (by repeat constructor) rfl rfl ?_) | (refine atRet ?_; refine Nx.ret [0] Try.func56 rfl rfl ?_; (exact ⟨rfl, rfl⟩)) | refine Nx.late ?_)
  rw [if_neg d4]
  by_cases d5 : n.deed = 5
  · rw [if_pos d5]
    by_cases g : n.seq ≤ cu
    · rw [if_pos g]
      refine FnOk.start Try.func56 rfl rfl rfl rfl fun F os tape output => ?_
      refine go 200 ?_
      conv => whnf
      refine Nx.bind (l := 5) (fun b5 => ?_) rfl
      repeat' (first | ((first | refine BrM.yes (by omega) ?_ | refine BrM.not (by omega) ?_ | refine BrM.t rfl ?_ | refine BrM.f rfl ?_ | refine BrM.dec (fun _ => ?_) (fun _ => ?_) | refine BrM.mk (fun _ => ?_) (fun _ => ?_) | refine Ar.i64 (by omega) (by omega) ?_ | refine gO rfl ?_ | refine gP rfl (by repeat constructor) ?_) <;> conv => whnf) | (refine atCall 64 ?_; refine cE [0] [0] rfl rfl rfl rfl rfl (hnext) rfl ?_) | (refine dN 18 [0] [0,5,8,12,18,20] rfl (by kernel_rfl) rfl (by kernel_rfl) rfl (by repeat constructor) rfl ?_) | (refine atCall 33 ?_; refine cE [0] [0] rfl rfl rfl rfl rfl (hcur) rfl ?_) | (refine atAftK ?_; refine Nx.keepN [0] rfl (by repeat constructor) (by repeat constructor) rfl ?_) | (refine atHoLoad ?_; first | refine hL1 rfl rfl rfl rfl (SeesAt.sub (by assumption) _ rfl) (by repeat constructor) rfl ?_ | refine hL1 rfl rfl rfl rfl (by assumption) (by repeat constructor) rfl ?_ | refine hLm rfl rfl rfl rfl (by assumption) (by repeat constructor) rfl rfl ?_) | (refine atRet ?_; refine Nx.ret [0] Try.func56 rfl rfl ?_; (exact ⟨rfl, rfl⟩)) | refine Nx.late ?_)
    · rw [if_neg g]
      refine FnOk.start Try.func56 rfl rfl rfl rfl fun F os tape output => ?_
      refine go 200 ?_
      conv => whnf
      refine Nx.bind (l := 5) (fun b5 => ?_) rfl
      repeat' (first | ((first | refine BrM.yes (by omega) ?_ | refine BrM.not (by omega) ?_ | refine BrM.t rfl ?_ | refine BrM.f rfl ?_ | refine BrM.dec (fun _ => ?_) (fun _ => ?_) | refine BrM.mk (fun _ => ?_) (fun _ => ?_) | refine Ar.i64 (by omega) (by omega) ?_ | refine gO rfl ?_ | refine gP rfl (by repeat constructor) ?_) <;> conv => whnf) | (refine atCall 64 ?_; refine cE [0] [0] rfl rfl rfl rfl rfl (hnext) rfl ?_) | (refine dN 18 [0] [0,5,8,12,18,20] rfl (by kernel_rfl) rfl (by kernel_rfl) rfl (by repeat constructor) rfl ?_) | (refine atCall 33 ?_; refine cE [0] [0] rfl rfl rfl rfl rfl (hcur) rfl ?_) | (refine atAftK ?_; refine Nx.keepN [0] rfl (by repeat constructor) (by repeat constructor) rfl ?_) | (refine atHoLoad ?_; first | refine hL1 rfl rfl rfl rfl (SeesAt.sub (by assumption) _ rfl) (by repeat constructor) rfl ?_ | refine hL1 rfl rfl rfl rfl (by assumption) (by repeat constructor) rfl ?_ | refine hLm rfl rfl rfl rfl (by assumption) (by repeat constructor) rfl rfl ?_) | (refine atRet ?_; refine Nx.ret [0] Try.func56 rfl rfl ?_; (exact ⟨rfl, rfl⟩)) | refine Nx.late ?_)
  rw [if_neg d5]
  by_cases d6 : n.deed = 6
  · rw [if_pos d6]
    cases hd : didF M.p.facts n.who n.ring 6 with
    | true =>
      rw [hd] at hdid
      rw [if_pos (.inl rfl)]
      refine FnOk.start Try.func56 rfl rfl rfl rfl fun F os tape output => ?_
      refine go 200 ?_
      conv => whnf
      refine Nx.bind (l := 5) (fun b5 => ?_) rfl
      repeat' (first | ((first | refine BrM.yes (by omega) ?_ | refine BrM.not (by omega) ?_ | refine BrM.t rfl ?_ | refine BrM.f rfl ?_ | refine BrM.dec (fun _ => ?_) (fun _ => ?_) | refine BrM.mk (fun _ => ?_) (fun _ => ?_) | refine Ar.i64 (by omega) (by omega) ?_ | refine gO rfl ?_ | refine gP rfl (by repeat constructor) ?_) <;> conv => whnf) | (refine atCall 64 ?_; refine cE [0] [0] rfl rfl rfl rfl rfl (hnext) rfl ?_) | (refine dN 22 [0] [0,4,9,12,17,22,24,28,33,36,40,46,48,52] rfl (by kernel_rfl) rfl (by kernel_rfl) rfl (by repeat constructor) rfl ?_) | (refine atCall 35 ?_; refine cE [0] [0] rfl rfl rfl rfl rfl (hdid) rfl ?_) | (refine atCall 33 ?_; refine cE [0] [0] rfl rfl rfl rfl rfl (hcur) rfl ?_) | (refine atAftK ?_; refine Nx.keepN [0] rfl (by repeat constructor) (by repeat constructor) rfl ?_) | (refine atHoLoad ?_; first | refine hL1 rfl rfl rfl rfl (SeesAt.sub (by assumption) _ rfl) (by repeat constructor) rfl ?_ | refine hL1 rfl rfl rfl rfl (by assumption) (by repeat constructor) rfl ?_ | refine hLm rfl rfl rfl rfl (by assumption) (by repeat constructor) rfl rfl ?_) | (refine atRet ?_; refine Nx.ret [0] Try.func56 rfl rfl ?_; (exact ⟨rfl, rfl⟩)) | refine Nx.late ?_)
    | false =>
      rw [hd] at hdid
      by_cases g : n.seq ≠ cu
      · rw [if_pos (.inr g)]
        refine FnOk.start Try.func56 rfl rfl rfl rfl fun F os tape output => ?_
        refine go 200 ?_
        conv => whnf
        refine Nx.bind (l := 5) (fun b5 => ?_) rfl
        repeat' (first | ((first | refine BrM.yes (by omega) ?_ | refine BrM.not (by omega) ?_ | refine BrM.t rfl ?_ | refine BrM.f rfl ?_ | refine BrM.dec (fun _ => ?_) (fun _ => ?_) | refine BrM.mk (fun _ => ?_) (fun _ => ?_) | refine Ar.i64 (by omega) (by omega) ?_ | refine gO rfl ?_ | refine gP rfl (by repeat constructor) ?_) <;> conv => whnf) | (refine atCall 64 ?_; refine cE [0] [0] rfl rfl rfl rfl rfl (hnext) rfl ?_) | (refine dN 22 [0] [0,4,9,12,17,22,24,28,33,36,40,46,48,52] rfl (by kernel_rfl) rfl (by kernel_rfl) rfl (by repeat constructor) rfl ?_) | (refine atCall 35 ?_; refine cE [0] [0] rfl rfl rfl rfl rfl (hdid) rfl ?_) | (refine atCall 33 ?_; refine cE [0] [0] rfl rfl rfl rfl rfl (hcur) rfl ?_) | (refine atAftK ?_; refine Nx.keepN [0] rfl (by repeat constructor) (by repeat constructor) rfl ?_) | (refine atHoLoad ?_; first | refine hL1 rfl rfl rfl rfl (SeesAt.sub (by assumption) _ rfl) (by repeat constructor) rfl ?_ | refine hL1 rfl rfl rfl rfl (by assumption) (by repeat constructor) rfl ?_ | refine hLm rfl rfl rfl rfl (by assumption) (by repeat constructor) rfl rfl ?_) | (refine atRet ?_; refine Nx.ret [0] Try.func56 rfl rfl ?_; (exact ⟨rfl, rfl⟩)) | refine Nx.late ?_)
      · rw [if_neg (fun h => by rcases h with h | h; cases h; exact g h)]
        refine FnOk.start Try.func56 rfl rfl rfl rfl fun F os tape output => ?_
        refine go 200 ?_
        conv => whnf
        refine Nx.bind (l := 5) (fun b5 => ?_) rfl
        repeat' (first | ((first | refine BrM.yes (by omega) ?_ | refine BrM.not (by omega) ?_ | refine BrM.t rfl ?_ | refine BrM.f rfl ?_ | refine BrM.dec (fun _ => ?_) (fun _ => ?_) | refine BrM.mk (fun _ => ?_) (fun _ => ?_) | refine Ar.i64 (by omega) (by omega) ?_ | refine gO rfl ?_ | refine gP rfl (by repeat constructor) ?_) <;> conv => whnf) | (refine atCall 64 ?_; refine cE [0] [0] rfl rfl rfl rfl rfl (hnext) rfl ?_) | (refine dN 22 [0] [0,4,9,12,17,22,24,28,33,36,40,46,48,52] rfl (by kernel_rfl) rfl (by kernel_rfl) rfl (by repeat constructor) rfl ?_) | (refine atCall 35 ?_; refine cE [0] [0] rfl rfl rfl rfl rfl (hdid) rfl ?_) | (refine atCall 33 ?_; refine cE [0] [0] rfl rfl rfl rfl rfl (hcur) rfl ?_) | (refine atAftK ?_; refine Nx.keepN [0] rfl (by repeat constructor) (by repeat constructor) rfl ?_) | (refine atHoLoad ?_; first | refine hL1 rfl rfl rfl rfl (SeesAt.sub (by assumption) _ rfl) (by repeat constructor) rfl ?_ | refine hL1 rfl rfl rfl rfl (by assumption) (by repeat constructor) rfl ?_ | refine hLm rfl rfl rfl rfl (by assumption) (by repeat constructor) rfl rfl ?_) | (refine atRet ?_; refine Nx.ret [0] Try.func56 rfl rfl ?_; (exact ⟨rfl, rfl⟩)) | refine Nx.late ?_)
  rw [if_neg d6]
  by_cases d7 : n.deed = 7
  · rw [if_pos d7]
    refine FnOk.start Try.func56 rfl rfl rfl rfl fun F os tape output => ?_
    refine go 200 ?_
    conv => whnf
    repeat' (first | ((first | refine BrM.yes (by omega) ?_ | refine BrM.not (by omega) ?_ | refine BrM.t rfl ?_ | refine BrM.f rfl ?_ | refine BrM.dec (fun _ => ?_) (fun _ => ?_) | refine BrM.mk (fun _ => ?_) (fun _ => ?_) | refine Ar.i64 (by omega) (by omega) ?_ | refine gO rfl ?_ | refine gP rfl (by repeat constructor) ?_) <;> conv => whnf) | (refine atCall 64 ?_; refine cE [0] [0] rfl rfl rfl rfl rfl (hnext) rfl ?_) | (refine atRet ?_; refine Nx.ret [0] Try.func56 rfl rfl ?_; (exact ⟨rfl, rfl⟩)) | refine Nx.late ?_)
  rw [if_neg d7]
  refine FnOk.start Try.func56 rfl rfl rfl rfl fun F os tape output => ?_
  refine go 200 ?_
  conv => whnf
  repeat' (first | ((first | refine BrM.yes (by omega) ?_ | refine BrM.not (by omega) ?_ | refine BrM.t rfl ?_ | refine BrM.f rfl ?_ | refine BrM.dec (fun _ => ?_) (fun _ => ?_) | refine BrM.mk (fun _ => ?_) (fun _ => ?_) | refine Ar.i64 (by omega) (by omega) ?_ | refine gO rfl ?_ | refine gP rfl (by repeat constructor) ?_) <;> conv => whnf) | (refine atCall 64 ?_; refine cE [0] [0] rfl rfl rfl rfl rfl (hnext) rfl ?_) | (refine atRet ?_; refine Nx.ret [0] Try.func56 rfl rfl ?_; (exact ⟨rfl, rfl⟩)) | refine Nx.late ?_)
def TkQ (b : Nat) (r : MdR × Int) (v : Value) (Q : List SP) : Prop := ∃ M' : RefH, M'.b = b ∧ M'.p = r.1 ∧ v = .int .i64 r.2 ∧ Q = [M'.sp]
theorem TkQ.same {M : RefH} {c : Int} : TkQ M.b (M.p, c) (.int .i64 c) [M.sp] := ⟨M, rfl, rfl, rfl, rfl⟩
theorem rTake_ok (M : RefH) (hm : MdV M.p) (n : Nt) : FnOk Try.prog 31 [ptr M.b, n.v] [M.sp] (TkQ M.b (M.p.take n)) := by
  obtain ⟨hl8, hl5, hl2⟩ := hm.lens
  have b0 := M.seeB.sub 0 rfl
  have b1 := M.seeB.sub 1 rfl
  have b4 := M.seeB.sub 4 rfl
  have hW := M.seeW
  have el : M.p.logs.length = M.logs.length := rfl
  have hof := rOf_ok M hm n.who
  unfold MdR.take
  by_cases h1 : n.ring < 0 ∨ (M.logs.length : Int) ≤ n.ring
  · have hJ : M.p.judge n = ([], 3) := by unfold MdR.judge; rw [if_pos (by rw [el]; exact h1)]
    rw [hJ, if_neg (by decide)]
    unfold Nt.v
    refine FnOk.start Try.func31 rfl rfl rfl rfl fun F os tape output => ?_
    refine go 200 ?_
    conv => whnf
    refine Nx.bind (l := 3) (fun b3 => ?_) rfl
    repeat' (first | ((first | refine BrM.yes (by omega) ?_ | refine BrM.not (by omega) ?_ | refine BrM.t rfl ?_ | refine BrM.f rfl ?_ | refine BrM.dec (fun _ => ?_) (fun _ => ?_) | refine BrM.mk (fun _ => ?_) (fun _ => ?_) | refine Ar.i64 (by omega) (by omega) ?_ | refine gO rfl ?_ | refine gP rfl (by repeat constructor) ?_) <;> conv => whnf) | (refine dN 1 [0] [0,5,8,12,16,21,24,28,32,37,40,44,48] rfl (by kernel_rfl) rfl (by kernel_rfl) rfl (by repeat constructor) rfl ?_) | (refine atHoLoad ?_; first | refine hL1 rfl rfl rfl rfl (SeesAt.sub (by assumption) _ rfl) (by repeat constructor) rfl ?_ | refine hL1 rfl rfl rfl rfl (by assumption) (by repeat constructor) rfl ?_ | refine hLm rfl rfl rfl rfl (by assumption) (by repeat constructor) rfl rfl ?_) | (refine atRet ?_; refine Nx.ret [0] Try.func31 rfl rfl ?_; (exact TkQ.same)) | refine Nx.late ?_)
  obtain ⟨q, hq⟩ : ∃ q : Nat, n.ring = q := ⟨n.ring.toNat, by omega⟩
  have hql : q < M.logs.length := by omega
  by_cases hWr : ∃ k, ∃ hk : k < M.writers.length, M.p.of n.who = some k ∧ M.writers[k].ring = n.ring
  · obtain ⟨k, hk, h2, hr⟩ := hWr
    have hJ : M.p.judge n = M.p.writes k n := by
      unfold MdR.judge
      rw [if_neg (by rw [el]; exact h1), h2]
      dsimp only
      rw [RefH.gw hk]
      dsimp only
      exact if_pos hr
    rw [hJ]
    have hw := rWrites_ok M hm hk hql n hq
    generalize M.p.writes k n = le at hw ⊢
    obtain ⟨l, e⟩ := le
    dsimp only
    have ek : ixV (some k) = (k : Int) := rfl
    rw [h2, ek] at hof
    unfold Nt.v at hw ⊢
    by_cases he : e = 0
    · subst he
      rw [if_pos rfl]
      refine FnOk.start Try.func31 rfl rfl rfl rfl fun F os tape output => ?_
      refine go 200 ?_
      conv => whnf
      refine Nx.bind (l := 3) (fun b3 => ?_) rfl
      repeat' (first | ((first | refine BrM.yes (by omega) ?_ | refine BrM.not (by omega) ?_ | refine BrM.t rfl ?_ | refine BrM.f rfl ?_ | refine BrM.dec (fun _ => ?_) (fun _ => ?_) | refine BrM.mk (fun _ => ?_) (fun _ => ?_) | refine Ar.i64 (by omega) (by omega) ?_ | refine gO rfl ?_ | refine gP rfl (by repeat constructor) ?_) <;> conv => whnf) | (refine dN 1 [0] [0,5,8,12,16,21,24,28,32,37,40,44,48] rfl (by kernel_rfl) rfl (by kernel_rfl) rfl (by repeat constructor) rfl ?_) | (refine dN 6 [0] [0,4,8,12,16,20,25,28,32,36,41,44,49,52,56] rfl (by kernel_rfl) rfl (by kernel_rfl) rfl (by repeat constructor) rfl ?_) | (refine atHoIdx ?_; refine Nx.hoIdx 0 (j := k) rfl rfl rfl Try.underlying30 rfl rfl rfl RWrH.enc_len hW rfl (by omega) (by omega) fun _ _ _ => ?_) | (refine atHoLoad ?_; first | refine hL1 rfl rfl rfl rfl (SeesAt.sub (by assumption) _ rfl) (by repeat constructor) rfl ?_ | refine hL1 rfl rfl rfl rfl (by assumption) (by repeat constructor) rfl ?_ | refine hLm rfl rfl rfl rfl (by assumption) (by repeat constructor) rfl rfl ?_) | (refine atCall 51 ?_; refine cE [0] [0] rfl rfl rfl rfl rfl (hof) rfl ?_) | (refine (atCall 55) ?_; refine Nx.call [0] [0,8] rfl rfl rfl rfl rfl (hw) rfl fun v Q hQ => ?_; obtain ⟨A,ac,rfl,rfl⟩ := hQ) | (refine dN 15 [0] [0,4,8,12,17,24,22,28,34,39,40,44,51] rfl (by kernel_rfl) rfl (by kernel_rfl) rfl (by repeat constructor) rfl ?_) | (refine atAftK ?_; refine Nx.keepN [0] rfl (by repeat constructor) (by repeat constructor) rfl ?_) | refine Nx.late ?_)
      refine Nx.turn [0] [20, 21, 22, 23, 24, 25, 26, 27] M.parts rfl sat_unstar ?_
      refine Nx.appendT 24 (sz := 9) (by_ := 88) (news := RFaH.enc ⟨⟨n, l⟩, A, ac⟩) rfl rfl rfl rfl rfl Try.underlying32 rfl rfl rfl rfl rfl (by decide) (by unfold maxLen; omega) (by omega) fun A' c'' => ?_
      repeat' (first | ((first | refine BrM.t rfl ?_ | refine BrM.f rfl ?_ | refine BrM.dec (fun _ => ?_) (fun _ => ?_) | refine BrM.mk (fun _ => ?_) (fun _ => ?_) | refine Ar.i64 (by omega) (by omega) ?_ | refine gO rfl ?_ | refine gP rfl (by repeat constructor) ?_) <;> conv => whnf) | (fail) | refine Nx.late ?_)
      refine Nx.storeW 20 (blk M.b (.cells (M.cells.set 4 (.slice A' (M.facts.length + 1) c'')).toArray 34 (0, 0))) rfl rfl rfl rfl rfl rfl rfl rfl rfl (blk_set (by show 4 < 5; decide)) ?_
      obtain ⟨M', hM'⟩ : ∃ M' : RefH, M' = { M with facts := M.facts ++ [⟨⟨n, l⟩, A, ac⟩], fA := A', fc := c'' } := ⟨_, rfl⟩
      refine Nx.turn [20, 21, 22, 23, 24, 25, 26, 27, 8] [0] [M'.sp] rfl (fun r h hs => ?_) ?_
      · have := regroup [_, _, _, _, _, _, _] [] (P := rdS A l.length 2 (l.flatMap evC)) (P' := RFaH.sp ⟨⟨n, l⟩, A, ac⟩) (fun _ _ h => h) hs
        subst hM'
        refine sat_restar ?_
        simp only [RefH.cells, List.set_cons_zero, List.set_cons_succ] at this
        simp only [RefH.parts, RefH.cells, List.map_append, List.map_cons, List.map_nil, List.flatMap_append, List.flatMap_cons, List.flatMap_nil, List.length_append, List.length_singleton, List.append_nil]
        exact this
      have em : M'.b = M.b := by rw [hM']
      have ep : M'.p = { M.p with facts := M.p.facts ++ [⟨n, l⟩] } := by rw [hM']; simp [RefH.p]
      repeat' (first | ((first | refine BrM.t rfl ?_ | refine BrM.f rfl ?_ | refine BrM.dec (fun _ => ?_) (fun _ => ?_) | refine BrM.mk (fun _ => ?_) (fun _ => ?_) | refine Ar.i64 (by omega) (by omega) ?_ | refine gO rfl ?_ | refine gP rfl (by repeat constructor) ?_) <;> conv => whnf) | (refine atRet ?_; refine Nx.ret [0] Try.func31 rfl rfl ?_; (exact ⟨M', em, ep, rfl, rfl⟩)) | refine Nx.late ?_)
    · rw [if_neg he]
      refine FnOk.start Try.func31 rfl rfl rfl rfl fun F os tape output => ?_
      refine go 200 ?_
      conv => whnf
      refine Nx.bind (l := 3) (fun b3 => ?_) rfl
      repeat' (first | ((first | refine BrM.yes (by omega) ?_ | refine BrM.not (by omega) ?_ | refine BrM.t rfl ?_ | refine BrM.f rfl ?_ | refine BrM.dec (fun _ => ?_) (fun _ => ?_) | refine BrM.mk (fun _ => ?_) (fun _ => ?_) | refine Ar.i64 (by omega) (by omega) ?_ | refine gO rfl ?_ | refine gP rfl (by repeat constructor) ?_) <;> conv => whnf) | (refine dN 1 [0] [0,5,8,12,16,21,24,28,32,37,40,44,48] rfl (by kernel_rfl) rfl (by kernel_rfl) rfl (by repeat constructor) rfl ?_) | (refine dN 6 [0] [0,4,8,12,16,20,25,28,32,36,41,44,49,52,56] rfl (by kernel_rfl) rfl (by kernel_rfl) rfl (by repeat constructor) rfl ?_) | (refine atHoIdx ?_; refine Nx.hoIdx 0 (j := k) rfl rfl rfl Try.underlying30 rfl rfl rfl RWrH.enc_len hW rfl (by omega) (by omega) fun _ _ _ => ?_) | (refine atHoLoad ?_; first | refine hL1 rfl rfl rfl rfl (SeesAt.sub (by assumption) _ rfl) (by repeat constructor) rfl ?_ | refine hL1 rfl rfl rfl rfl (by assumption) (by repeat constructor) rfl ?_ | refine hLm rfl rfl rfl rfl (by assumption) (by repeat constructor) rfl rfl ?_) | (refine atCall 51 ?_; refine cE [0] [0] rfl rfl rfl rfl rfl (hof) rfl ?_) | (refine (atCall 55) ?_; refine Nx.call [0] [0,8] rfl rfl rfl rfl rfl (hw) rfl fun v Q hQ => ?_; obtain ⟨A,ac,rfl,rfl⟩ := hQ) | (refine atRet ?_; refine Nx.ret [0] Try.func31 rfl rfl ?_; (exact TkQ.same)) | refine Nx.late ?_)
  have hJ : M.p.judge n = ([], M.p.reads n) := by
    unfold MdR.judge
    rw [if_neg (by rw [el]; exact h1)]
    cases h2 : M.p.of n.who with
    | none => rfl
    | some k =>
      have hk : k < M.writers.length := by
        have := (findI_is h2).1
        rw [M.lw] at this
        exact this
      dsimp only
      rw [RefH.gw hk]
      dsimp only
      exact if_neg (show ¬(M.writers[k].m.ring = n.ring) from fun e => hWr ⟨k, hk, h2, e⟩)
  rw [hJ]
  dsimp only
  have hat := rAt_ok M hm n.who n.ring
  have hdid := rDid_ok M hm n.who (-1) 7
  have hred : ∀ {k : Nat} (hk : k < M.readers.length), M.readers[k].r.ring = n.ring → _ := fun hk h => rReads_ok M hm hk n h
  unfold Nt.v at hred ⊢
  have eN : ixV none = -1 := rfl
  have eS : ∀ k : Nat, ixV (some k) = (k : Int) := fun _ => rfl
  cases h2 : M.p.of n.who with
  | none =>
    rw [h2, eN] at hof
    cases h3 : M.p.at n.who n.ring with
    | none =>
      rw [h3, eN] at hat
      have hR : M.p.reads n = 3 := by unfold MdR.reads; rw [h3]
      rw [hR, if_neg (by decide)]
      refine FnOk.start Try.func31 rfl rfl rfl rfl fun F os tape output => ?_
      refine go 200 ?_
      conv => whnf
      refine Nx.bind (l := 3) (fun b3 => ?_) rfl
      repeat' (first | ((first | refine BrM.yes (by omega) ?_ | refine BrM.not (by omega) ?_ | refine BrM.t rfl ?_ | refine BrM.f rfl ?_ | refine BrM.dec (fun _ => ?_) (fun _ => ?_) | refine BrM.mk (fun _ => ?_) (fun _ => ?_) | refine Ar.i64 (by omega) (by omega) ?_ | refine gO rfl ?_ | refine gP rfl (by repeat constructor) ?_) <;> conv => whnf) | (refine dN 1 [0] [0,5,8,12,16,21,24,28,32,37,40,44,48] rfl (by kernel_rfl) rfl (by kernel_rfl) rfl (by repeat constructor) rfl ?_) | (refine dN 6 [0] [0,4,8,12,16,20,25,28,32,36,41,44,49,52,56] rfl (by kernel_rfl) rfl (by kernel_rfl) rfl (by repeat constructor) rfl ?_) | (refine atHoLoad ?_; first | refine hL1 rfl rfl rfl rfl (SeesAt.sub (by assumption) _ rfl) (by repeat constructor) rfl ?_ | refine hL1 rfl rfl rfl rfl (by assumption) (by repeat constructor) rfl ?_ | refine hLm rfl rfl rfl rfl (by assumption) (by repeat constructor) rfl rfl ?_) | (refine atCall 51 ?_; refine cE [0] [0] rfl rfl rfl rfl rfl (hof) rfl ?_) | (refine atCall 52 ?_; refine cE [0] [0] rfl rfl rfl rfl rfl (hat) rfl ?_) | (refine atCall 35 ?_; refine cE [0] [0] rfl rfl rfl rfl rfl (hdid) rfl ?_) | (refine atRet ?_; refine Nx.ret [0] Try.func31 rfl rfl ?_; (exact TkQ.same)) | refine Nx.late ?_)
    | some k2 =>
      rw [h3, eS] at hat
      have hk2 : k2 < M.readers.length := by
        have := (findI_is h3).1
        rw [M.lr] at this
        exact this
      have hring : M.readers[k2].r.ring = n.ring := by
        have := (findI_is h3).2.1
        simp only [Bool.and_eq_true, decide_eq_true_eq] at this
        have h4 := this.2
        simpa [RefH.p] using h4
      have hR : M.p.reads n = if didF M.p.facts n.who (-1) 7 = true ∧ n.deed ≠ 6 then 17 else M.p.readsAt M.readers[k2].r n := by
        unfold MdR.reads
        rw [h3]
        dsimp only
        rw [RefH.gr hk2]
      rw [hR]
      have hred := hred hk2 hring
      by_cases hA : didF M.p.facts n.who (-1) 7 = true ∧ n.deed ≠ 6
      · rw [if_pos hA, if_neg (by decide)]
        obtain ⟨hA1, hA2⟩ := hA
        rw [hA1] at hdid
        refine FnOk.start Try.func31 rfl rfl rfl rfl fun F os tape output => ?_
        refine go 200 ?_
        conv => whnf
        refine Nx.bind (l := 3) (fun b3 => ?_) rfl
        repeat' (first | ((first | refine BrM.yes (by omega) ?_ | refine BrM.not (by omega) ?_ | refine BrM.t rfl ?_ | refine BrM.f rfl ?_ | refine BrM.dec (fun _ => ?_) (fun _ => ?_) | refine BrM.mk (fun _ => ?_) (fun _ => ?_) | refine Ar.i64 (by omega) (by omega) ?_ | refine gO rfl ?_ | refine gP rfl (by repeat constructor) ?_) <;> conv => whnf) | (refine dN 1 [0] [0,5,8,12,16,21,24,28,32,37,40,44,48] rfl (by kernel_rfl) rfl (by kernel_rfl) rfl (by repeat constructor) rfl ?_) | (refine dN 6 [0] [0,4,8,12,16,20,25,28,32,36,41,44,49,52,56] rfl (by kernel_rfl) rfl (by kernel_rfl) rfl (by repeat constructor) rfl ?_) | (refine atHoLoad ?_; first | refine hL1 rfl rfl rfl rfl (SeesAt.sub (by assumption) _ rfl) (by repeat constructor) rfl ?_ | refine hL1 rfl rfl rfl rfl (by assumption) (by repeat constructor) rfl ?_ | refine hLm rfl rfl rfl rfl (by assumption) (by repeat constructor) rfl rfl ?_) | (refine atCall 51 ?_; refine cE [0] [0] rfl rfl rfl rfl rfl (hof) rfl ?_) | (refine atCall 52 ?_; refine cE [0] [0] rfl rfl rfl rfl rfl (hat) rfl ?_) | (refine atCall 35 ?_; refine cE [0] [0] rfl rfl rfl rfl rfl (hdid) rfl ?_) | (refine atRet ?_; refine Nx.ret [0] Try.func31 rfl rfl ?_; (exact TkQ.same)) | refine Nx.late ?_)
      rw [if_neg hA]
      have hS : didF M.p.facts n.who (-1) 7 = false ∨ (didF M.p.facts n.who (-1) 7 = true ∧ n.deed = 6) := by
        cases hs : didF M.p.facts n.who (-1) 7 with
        | false => exact .inl rfl
        | true => exact .inr ⟨rfl, Decidable.byContradiction fun e => hA ⟨hs, e⟩⟩
      clear hR hA
      generalize M.p.readsAt M.readers[k2].r n = e at hred ⊢
      by_cases he : e = 0
      · subst he
        rw [if_pos rfl]
        refine FnOk.start Try.func31 rfl rfl rfl rfl fun F os tape output => ?_
        refine go 200 ?_
        conv => whnf
        refine Nx.bind (l := 3) (fun b3 => ?_) rfl
        refine Nx.also 0 8 (rdS none 0 2 []) rfl (fun _ _ _ => rd_nil _ _) ?_
        rcases hS with hs | ⟨hs, hs2⟩
        · rw [hs] at hdid
          repeat' (first | ((first | refine BrM.yes (by omega) ?_ | refine BrM.not (by omega) ?_ | refine BrM.t rfl ?_ | refine BrM.f rfl ?_ | refine BrM.dec (fun _ => ?_) (fun _ => ?_) | refine BrM.mk (fun _ => ?_) (fun _ => ?_) | refine Ar.i64 (by omega) (by omega) ?_ | refine gO rfl ?_ | refine gP rfl (by repeat constructor) ?_) <;> conv => whnf) | (refine dN 1 [0] [0,5,8,12,16,21,24,28,32,37,40,44,48] rfl (by kernel_rfl) rfl (by kernel_rfl) rfl (by repeat constructor) rfl ?_) | (refine dN 6 [0] [0,4,8,12,16,20,25,28,32,36,41,44,49,52,56] rfl (by kernel_rfl) rfl (by kernel_rfl) rfl (by repeat constructor) rfl ?_) | (refine atHoLoad ?_; first | refine hL1 rfl rfl rfl rfl (SeesAt.sub (by assumption) _ rfl) (by repeat constructor) rfl ?_ | refine hL1 rfl rfl rfl rfl (by assumption) (by repeat constructor) rfl ?_ | refine hLm rfl rfl rfl rfl (by assumption) (by repeat constructor) rfl rfl ?_) | (refine atCall 51 ?_; refine cE [0] [0] rfl rfl rfl rfl rfl (hof) rfl ?_) | (refine atCall 52 ?_; refine cE [0] [0] rfl rfl rfl rfl rfl (hat) rfl ?_) | (refine atCall 35 ?_; refine cE [0] [0] rfl rfl rfl rfl rfl (hdid) rfl ?_) | (refine atCall 56 ?_; refine cE [0] [0] rfl rfl rfl rfl rfl (hred) rfl ?_) | (refine dN 15 [0] [0,4,8,12,17,24,22,28,34,39,40,44,51] rfl (by kernel_rfl) rfl (by kernel_rfl) rfl (by repeat constructor) rfl ?_) | (refine atAftK ?_; refine Nx.keepN [0] rfl (by repeat constructor) (by repeat constructor) rfl ?_) | refine Nx.late ?_)
          refine Nx.turn [0] [20, 21, 22, 23, 24, 25, 26, 27] M.parts rfl sat_unstar ?_
          refine Nx.appendT 24 (sz := 9) (by_ := 88) (news := RFaH.enc ⟨⟨n, []⟩, none, 0⟩) rfl rfl rfl rfl rfl Try.underlying32 rfl rfl rfl rfl rfl (by decide) (by unfold maxLen; omega) (by omega) fun A' c'' => ?_
          repeat' (first | ((first | refine BrM.t rfl ?_ | refine BrM.f rfl ?_ | refine BrM.dec (fun _ => ?_) (fun _ => ?_) | refine BrM.mk (fun _ => ?_) (fun _ => ?_) | refine Ar.i64 (by omega) (by omega) ?_ | refine gO rfl ?_ | refine gP rfl (by repeat constructor) ?_) <;> conv => whnf) | (fail) | refine Nx.late ?_)
          refine Nx.storeW 20 (blk M.b (.cells (M.cells.set 4 (.slice A' (M.facts.length + 1) c'')).toArray 34 (0, 0))) rfl rfl rfl rfl rfl rfl rfl rfl rfl (blk_set (by show 4 < 5; decide)) ?_
          obtain ⟨M', hM'⟩ : ∃ M' : RefH, M' = { M with facts := M.facts ++ [⟨⟨n, []⟩, none, 0⟩], fA := A', fc := c'' } := ⟨_, rfl⟩
          refine Nx.turn [20, 21, 22, 23, 24, 25, 26, 27, 8] [0] [M'.sp] rfl (fun r h hs => ?_) ?_
          · have := regroup [_, _, _, _, _, _, _] [] (P := rdS none 0 2 []) (P' := RFaH.sp ⟨⟨n, []⟩, none, 0⟩) (fun _ _ h => h) hs
            subst hM'
            refine sat_restar ?_
            simp only [RefH.cells, List.set_cons_zero, List.set_cons_succ] at this
            simp only [RefH.parts, RefH.cells, List.map_append, List.map_cons, List.map_nil, List.flatMap_append, List.flatMap_cons, List.flatMap_nil, List.length_append, List.length_singleton, List.append_nil]
            exact this
          have em : M'.b = M.b := by rw [hM']
          have ep : M'.p = { M.p with facts := M.p.facts ++ [⟨n, []⟩] } := by rw [hM']; simp [RefH.p]
          repeat' (first | ((first | refine BrM.t rfl ?_ | refine BrM.f rfl ?_ | refine BrM.dec (fun _ => ?_) (fun _ => ?_) | refine BrM.mk (fun _ => ?_) (fun _ => ?_) | refine Ar.i64 (by omega) (by omega) ?_ | refine gO rfl ?_ | refine gP rfl (by repeat constructor) ?_) <;> conv => whnf) | (refine atRet ?_; refine Nx.ret [0] Try.func31 rfl rfl ?_; (exact ⟨M', em, ep, rfl, rfl⟩)) | refine Nx.late ?_)
        · rw [hs] at hdid
          repeat' (first | ((first | refine BrM.yes (by omega) ?_ | refine BrM.not (by omega) ?_ | refine BrM.t rfl ?_ | refine BrM.f rfl ?_ | refine BrM.dec (fun _ => ?_) (fun _ => ?_) | refine BrM.mk (fun _ => ?_) (fun _ => ?_) | refine Ar.i64 (by omega) (by omega) ?_ | refine gO rfl ?_ | refine gP rfl (by repeat constructor) ?_) <;> conv => whnf) | (refine dN 1 [0] [0,5,8,12,16,21,24,28,32,37,40,44,48] rfl (by kernel_rfl) rfl (by kernel_rfl) rfl (by repeat constructor) rfl ?_) | (refine dN 6 [0] [0,4,8,12,16,20,25,28,32,36,41,44,49,52,56] rfl (by kernel_rfl) rfl (by kernel_rfl) rfl (by repeat constructor) rfl ?_) | (refine atHoLoad ?_; first | refine hL1 rfl rfl rfl rfl (SeesAt.sub (by assumption) _ rfl) (by repeat constructor) rfl ?_ | refine hL1 rfl rfl rfl rfl (by assumption) (by repeat constructor) rfl ?_ | refine hLm rfl rfl rfl rfl (by assumption) (by repeat constructor) rfl rfl ?_) | (refine atCall 51 ?_; refine cE [0] [0] rfl rfl rfl rfl rfl (hof) rfl ?_) | (refine atCall 52 ?_; refine cE [0] [0] rfl rfl rfl rfl rfl (hat) rfl ?_) | (refine atCall 35 ?_; refine cE [0] [0] rfl rfl rfl rfl rfl (hdid) rfl ?_) | (refine atCall 56 ?_; refine cE [0] [0] rfl rfl rfl rfl rfl (hred) rfl ?_) | (refine dN 15 [0] [0,4,8,12,17,24,22,28,34,39,40,44,51] rfl (by kernel_rfl) rfl (by kernel_rfl) rfl (by repeat constructor) rfl ?_) | (refine atAftK ?_; refine Nx.keepN [0] rfl (by repeat constructor) (by repeat constructor) rfl ?_) | refine Nx.late ?_)
          refine Nx.turn [0] [20, 21, 22, 23, 24, 25, 26, 27] M.parts rfl sat_unstar ?_
          refine Nx.appendT 24 (sz := 9) (by_ := 88) (news := RFaH.enc ⟨⟨n, []⟩, none, 0⟩) rfl rfl rfl rfl rfl Try.underlying32 rfl rfl rfl rfl rfl (by decide) (by unfold maxLen; omega) (by omega) fun A' c'' => ?_
          repeat' (first | ((first | refine BrM.t rfl ?_ | refine BrM.f rfl ?_ | refine BrM.dec (fun _ => ?_) (fun _ => ?_) | refine BrM.mk (fun _ => ?_) (fun _ => ?_) | refine Ar.i64 (by omega) (by omega) ?_ | refine gO rfl ?_ | refine gP rfl (by repeat constructor) ?_) <;> conv => whnf) | (fail) | refine Nx.late ?_)
          refine Nx.storeW 20 (blk M.b (.cells (M.cells.set 4 (.slice A' (M.facts.length + 1) c'')).toArray 34 (0, 0))) rfl rfl rfl rfl rfl rfl rfl rfl rfl (blk_set (by show 4 < 5; decide)) ?_
          obtain ⟨M', hM'⟩ : ∃ M' : RefH, M' = { M with facts := M.facts ++ [⟨⟨n, []⟩, none, 0⟩], fA := A', fc := c'' } := ⟨_, rfl⟩
          refine Nx.turn [20, 21, 22, 23, 24, 25, 26, 27, 8] [0] [M'.sp] rfl (fun r h hs => ?_) ?_
          · have := regroup [_, _, _, _, _, _, _] [] (P := rdS none 0 2 []) (P' := RFaH.sp ⟨⟨n, []⟩, none, 0⟩) (fun _ _ h => h) hs
            subst hM'
            refine sat_restar ?_
            simp only [RefH.cells, List.set_cons_zero, List.set_cons_succ] at this
            simp only [RefH.parts, RefH.cells, List.map_append, List.map_cons, List.map_nil, List.flatMap_append, List.flatMap_cons, List.flatMap_nil, List.length_append, List.length_singleton, List.append_nil]
            exact this
          have em : M'.b = M.b := by rw [hM']
          have ep : M'.p = { M.p with facts := M.p.facts ++ [⟨n, []⟩] } := by rw [hM']; simp [RefH.p]
          repeat' (first | ((first | refine BrM.t rfl ?_ | refine BrM.f rfl ?_ | refine BrM.dec (fun _ => ?_) (fun _ => ?_) | refine BrM.mk (fun _ => ?_) (fun _ => ?_) | refine Ar.i64 (by omega) (by omega) ?_ | refine gO rfl ?_ | refine gP rfl (by repeat constructor) ?_) <;> conv => whnf) | (refine atRet ?_; refine Nx.ret [0] Try.func31 rfl rfl ?_; (exact ⟨M', em, ep, rfl, rfl⟩)) | refine Nx.late ?_)
      · rw [if_neg he]
        rcases hS with hs | ⟨hs, hs2⟩
        · rw [hs] at hdid
          refine FnOk.start Try.func31 rfl rfl rfl rfl fun F os tape output => ?_
          refine go 200 ?_
          conv => whnf
          refine Nx.bind (l := 3) (fun b3 => ?_) rfl
          repeat' (first | ((first | refine BrM.yes (by omega) ?_ | refine BrM.not (by omega) ?_ | refine BrM.t rfl ?_ | refine BrM.f rfl ?_ | refine BrM.dec (fun _ => ?_) (fun _ => ?_) | refine BrM.mk (fun _ => ?_) (fun _ => ?_) | refine Ar.i64 (by omega) (by omega) ?_ | refine gO rfl ?_ | refine gP rfl (by repeat constructor) ?_) <;> conv => whnf) | (refine dN 1 [0] [0,5,8,12,16,21,24,28,32,37,40,44,48] rfl (by kernel_rfl) rfl (by kernel_rfl) rfl (by repeat constructor) rfl ?_) | (refine dN 6 [0] [0,4,8,12,16,20,25,28,32,36,41,44,49,52,56] rfl (by kernel_rfl) rfl (by kernel_rfl) rfl (by repeat constructor) rfl ?_) | (refine atHoLoad ?_; first | refine hL1 rfl rfl rfl rfl (SeesAt.sub (by assumption) _ rfl) (by repeat constructor) rfl ?_ | refine hL1 rfl rfl rfl rfl (by assumption) (by repeat constructor) rfl ?_ | refine hLm rfl rfl rfl rfl (by assumption) (by repeat constructor) rfl rfl ?_) | (refine atCall 51 ?_; refine cE [0] [0] rfl rfl rfl rfl rfl (hof) rfl ?_) | (refine atCall 52 ?_; refine cE [0] [0] rfl rfl rfl rfl rfl (hat) rfl ?_) | (refine atCall 35 ?_; refine cE [0] [0] rfl rfl rfl rfl rfl (hdid) rfl ?_) | (refine atCall 56 ?_; refine cE [0] [0] rfl rfl rfl rfl rfl (hred) rfl ?_) | (refine atRet ?_; refine Nx.ret [0] Try.func31 rfl rfl ?_; (exact TkQ.same)) | refine Nx.late ?_)
        · rw [hs] at hdid
          refine FnOk.start Try.func31 rfl rfl rfl rfl fun F os tape output => ?_
          refine go 200 ?_
          conv => whnf
          refine Nx.bind (l := 3) (fun b3 => ?_) rfl
          repeat' (first | ((first | refine BrM.yes (by omega) ?_ | refine BrM.not (by omega) ?_ | refine BrM.t rfl ?_ | refine BrM.f rfl ?_ | refine BrM.dec (fun _ => ?_) (fun _ => ?_) | refine BrM.mk (fun _ => ?_) (fun _ => ?_) | refine Ar.i64 (by omega) (by omega) ?_ | refine gO rfl ?_ | refine gP rfl (by repeat constructor) ?_) <;> conv => whnf) | (refine dN 1 [0] [0,5,8,12,16,21,24,28,32,37,40,44,48] rfl (by kernel_rfl) rfl (by kernel_rfl) rfl (by repeat constructor) rfl ?_) | (refine dN 6 [0] [0,4,8,12,16,20,25,28,32,36,41,44,49,52,56] rfl (by kernel_rfl) rfl (by kernel_rfl) rfl (by repeat constructor) rfl ?_) | (refine atHoLoad ?_; first | refine hL1 rfl rfl rfl rfl (SeesAt.sub (by assumption) _ rfl) (by repeat constructor) rfl ?_ | refine hL1 rfl rfl rfl rfl (by assumption) (by repeat constructor) rfl ?_ | refine hLm rfl rfl rfl rfl (by assumption) (by repeat constructor) rfl rfl ?_) | (refine atCall 51 ?_; refine cE [0] [0] rfl rfl rfl rfl rfl (hof) rfl ?_) | (refine atCall 52 ?_; refine cE [0] [0] rfl rfl rfl rfl rfl (hat) rfl ?_) | (refine atCall 35 ?_; refine cE [0] [0] rfl rfl rfl rfl rfl (hdid) rfl ?_) | (refine atCall 56 ?_; refine cE [0] [0] rfl rfl rfl rfl rfl (hred) rfl ?_) | (refine atRet ?_; refine Nx.ret [0] Try.func31 rfl rfl ?_; (exact TkQ.same)) | refine Nx.late ?_)
  | some k =>
    have hk : k < M.writers.length := by
      have := (findI_is h2).1
      rw [M.lw] at this
      exact this
    have hne : M.writers[k].ring ≠ n.ring := fun e => hWr ⟨k, hk, h2, e⟩
    rw [h2, eS] at hof
    cases h3 : M.p.at n.who n.ring with
    | none =>
      rw [h3, eN] at hat
      have hR : M.p.reads n = 3 := by unfold MdR.reads; rw [h3]
      rw [hR, if_neg (by decide)]
      refine FnOk.start Try.func31 rfl rfl rfl rfl fun F os tape output => ?_
      refine go 200 ?_
      conv => whnf
      refine Nx.bind (l := 3) (fun b3 => ?_) rfl
      repeat' (first | ((first | refine BrM.yes (by omega) ?_ | refine BrM.not (by omega) ?_ | refine BrM.t rfl ?_ | refine BrM.f rfl ?_ | refine BrM.dec (fun _ => ?_) (fun _ => ?_) | refine BrM.mk (fun _ => ?_) (fun _ => ?_) | refine Ar.i64 (by omega) (by omega) ?_ | refine gO rfl ?_ | refine gP rfl (by repeat constructor) ?_) <;> conv => whnf) | (refine dN 1 [0] [0,5,8,12,16,21,24,28,32,37,40,44,48] rfl (by kernel_rfl) rfl (by kernel_rfl) rfl (by repeat constructor) rfl ?_) | (refine dN 6 [0] [0,4,8,12,16,20,25,28,32,36,41,44,49,52,56] rfl (by kernel_rfl) rfl (by kernel_rfl) rfl (by repeat constructor) rfl ?_) | (refine atHoIdx ?_; refine Nx.hoIdx 0 (j := k) rfl rfl rfl Try.underlying30 rfl rfl rfl RWrH.enc_len hW rfl (by omega) (by omega) fun _ _ _ => ?_) | (refine atHoLoad ?_; first | refine hL1 rfl rfl rfl rfl (SeesAt.sub (by assumption) _ rfl) (by repeat constructor) rfl ?_ | refine hL1 rfl rfl rfl rfl (by assumption) (by repeat constructor) rfl ?_ | refine hLm rfl rfl rfl rfl (by assumption) (by repeat constructor) rfl rfl ?_) | (refine atCall 51 ?_; refine cE [0] [0] rfl rfl rfl rfl rfl (hof) rfl ?_) | (refine atCall 52 ?_; refine cE [0] [0] rfl rfl rfl rfl rfl (hat) rfl ?_) | (refine atCall 35 ?_; refine cE [0] [0] rfl rfl rfl rfl rfl (hdid) rfl ?_) | (refine atRet ?_; refine Nx.ret [0] Try.func31 rfl rfl ?_; (exact TkQ.same)) | refine Nx.late ?_)
    | some k2 =>
      rw [h3, eS] at hat
      have hk2 : k2 < M.readers.length := by
        have := (findI_is h3).1
        rw [M.lr] at this
        exact this
      have hring : M.readers[k2].r.ring = n.ring := by
        have := (findI_is h3).2.1
        simp only [Bool.and_eq_true, decide_eq_true_eq] at this
        have h4 := this.2
        simpa [RefH.p] using h4
      have hR : M.p.reads n = if didF M.p.facts n.who (-1) 7 = true ∧ n.deed ≠ 6 then 17 else M.p.readsAt M.readers[k2].r n := by
        unfold MdR.reads
        rw [h3]
        dsimp only
        rw [RefH.gr hk2]
      rw [hR]
      have hred := hred hk2 hring
      by_cases hA : didF M.p.facts n.who (-1) 7 = true ∧ n.deed ≠ 6
      · rw [if_pos hA, if_neg (by decide)]
        obtain ⟨hA1, hA2⟩ := hA
        rw [hA1] at hdid
        refine FnOk.start Try.func31 rfl rfl rfl rfl fun F os tape output => ?_
        refine go 200 ?_
        conv => whnf
        refine Nx.bind (l := 3) (fun b3 => ?_) rfl
        repeat' (first | ((first | refine BrM.yes (by omega) ?_ | refine BrM.not (by omega) ?_ | refine BrM.t rfl ?_ | refine BrM.f rfl ?_ | refine BrM.dec (fun _ => ?_) (fun _ => ?_) | refine BrM.mk (fun _ => ?_) (fun _ => ?_) | refine Ar.i64 (by omega) (by omega) ?_ | refine gO rfl ?_ | refine gP rfl (by repeat constructor) ?_) <;> conv => whnf) | (refine dN 1 [0] [0,5,8,12,16,21,24,28,32,37,40,44,48] rfl (by kernel_rfl) rfl (by kernel_rfl) rfl (by repeat constructor) rfl ?_) | (refine dN 6 [0] [0,4,8,12,16,20,25,28,32,36,41,44,49,52,56] rfl (by kernel_rfl) rfl (by kernel_rfl) rfl (by repeat constructor) rfl ?_) | (refine atHoIdx ?_; refine Nx.hoIdx 0 (j := k) rfl rfl rfl Try.underlying30 rfl rfl rfl RWrH.enc_len hW rfl (by omega) (by omega) fun _ _ _ => ?_) | (refine atHoLoad ?_; first | refine hL1 rfl rfl rfl rfl (SeesAt.sub (by assumption) _ rfl) (by repeat constructor) rfl ?_ | refine hL1 rfl rfl rfl rfl (by assumption) (by repeat constructor) rfl ?_ | refine hLm rfl rfl rfl rfl (by assumption) (by repeat constructor) rfl rfl ?_) | (refine atCall 51 ?_; refine cE [0] [0] rfl rfl rfl rfl rfl (hof) rfl ?_) | (refine atCall 52 ?_; refine cE [0] [0] rfl rfl rfl rfl rfl (hat) rfl ?_) | (refine atCall 35 ?_; refine cE [0] [0] rfl rfl rfl rfl rfl (hdid) rfl ?_) | (refine atRet ?_; refine Nx.ret [0] Try.func31 rfl rfl ?_; (exact TkQ.same)) | refine Nx.late ?_)
      rw [if_neg hA]
      have hS : didF M.p.facts n.who (-1) 7 = false ∨ (didF M.p.facts n.who (-1) 7 = true ∧ n.deed = 6) := by
        cases hs : didF M.p.facts n.who (-1) 7 with
        | false => exact .inl rfl
        | true => exact .inr ⟨rfl, Decidable.byContradiction fun e => hA ⟨hs, e⟩⟩
      clear hR hA
      generalize M.p.readsAt M.readers[k2].r n = e at hred ⊢
      by_cases he : e = 0
      · subst he
        rw [if_pos rfl]
        refine FnOk.start Try.func31 rfl rfl rfl rfl fun F os tape output => ?_
        refine go 200 ?_
        conv => whnf
        refine Nx.bind (l := 3) (fun b3 => ?_) rfl
        refine Nx.also 0 8 (rdS none 0 2 []) rfl (fun _ _ _ => rd_nil _ _) ?_
        rcases hS with hs | ⟨hs, hs2⟩
        · rw [hs] at hdid
          repeat' (first | ((first | refine BrM.yes (by omega) ?_ | refine BrM.not (by omega) ?_ | refine BrM.t rfl ?_ | refine BrM.f rfl ?_ | refine BrM.dec (fun _ => ?_) (fun _ => ?_) | refine BrM.mk (fun _ => ?_) (fun _ => ?_) | refine Ar.i64 (by omega) (by omega) ?_ | refine gO rfl ?_ | refine gP rfl (by repeat constructor) ?_) <;> conv => whnf) | (refine dN 1 [0] [0,5,8,12,16,21,24,28,32,37,40,44,48] rfl (by kernel_rfl) rfl (by kernel_rfl) rfl (by repeat constructor) rfl ?_) | (refine dN 6 [0] [0,4,8,12,16,20,25,28,32,36,41,44,49,52,56] rfl (by kernel_rfl) rfl (by kernel_rfl) rfl (by repeat constructor) rfl ?_) | (refine atHoIdx ?_; refine Nx.hoIdx 0 (j := k) rfl rfl rfl Try.underlying30 rfl rfl rfl RWrH.enc_len hW rfl (by omega) (by omega) fun _ _ _ => ?_) | (refine atHoLoad ?_; first | refine hL1 rfl rfl rfl rfl (SeesAt.sub (by assumption) _ rfl) (by repeat constructor) rfl ?_ | refine hL1 rfl rfl rfl rfl (by assumption) (by repeat constructor) rfl ?_ | refine hLm rfl rfl rfl rfl (by assumption) (by repeat constructor) rfl rfl ?_) | (refine atCall 51 ?_; refine cE [0] [0] rfl rfl rfl rfl rfl (hof) rfl ?_) | (refine atCall 52 ?_; refine cE [0] [0] rfl rfl rfl rfl rfl (hat) rfl ?_) | (refine atCall 35 ?_; refine cE [0] [0] rfl rfl rfl rfl rfl (hdid) rfl ?_) | (refine atCall 56 ?_; refine cE [0] [0] rfl rfl rfl rfl rfl (hred) rfl ?_) | (refine dN 15 [0] [0,4,8,12,17,24,22,28,34,39,40,44,51] rfl (by kernel_rfl) rfl (by kernel_rfl) rfl (by repeat constructor) rfl ?_) | (refine atAftK ?_; refine Nx.keepN [0] rfl (by repeat constructor) (by repeat constructor) rfl ?_) | refine Nx.late ?_)
          refine Nx.turn [0] [20, 21, 22, 23, 24, 25, 26, 27] M.parts rfl sat_unstar ?_
          refine Nx.appendT 24 (sz := 9) (by_ := 88) (news := RFaH.enc ⟨⟨n, []⟩, none, 0⟩) rfl rfl rfl rfl rfl Try.underlying32 rfl rfl rfl rfl rfl (by decide) (by unfold maxLen; omega) (by omega) fun A' c'' => ?_
          repeat' (first | ((first | refine BrM.t rfl ?_ | refine BrM.f rfl ?_ | refine BrM.dec (fun _ => ?_) (fun _ => ?_) | refine BrM.mk (fun _ => ?_) (fun _ => ?_) | refine Ar.i64 (by omega) (by omega) ?_ | refine gO rfl ?_ | refine gP rfl (by repeat constructor) ?_) <;> conv => whnf) | (fail) | refine Nx.late ?_)
          refine Nx.storeW 20 (blk M.b (.cells (M.cells.set 4 (.slice A' (M.facts.length + 1) c'')).toArray 34 (0, 0))) rfl rfl rfl rfl rfl rfl rfl rfl rfl (blk_set (by show 4 < 5; decide)) ?_
          obtain ⟨M', hM'⟩ : ∃ M' : RefH, M' = { M with facts := M.facts ++ [⟨⟨n, []⟩, none, 0⟩], fA := A', fc := c'' } := ⟨_, rfl⟩
          refine Nx.turn [20, 21, 22, 23, 24, 25, 26, 27, 8] [0] [M'.sp] rfl (fun r h hs => ?_) ?_
          · have := regroup [_, _, _, _, _, _, _] [] (P := rdS none 0 2 []) (P' := RFaH.sp ⟨⟨n, []⟩, none, 0⟩) (fun _ _ h => h) hs
            subst hM'
            refine sat_restar ?_
            simp only [RefH.cells, List.set_cons_zero, List.set_cons_succ] at this
            simp only [RefH.parts, RefH.cells, List.map_append, List.map_cons, List.map_nil, List.flatMap_append, List.flatMap_cons, List.flatMap_nil, List.length_append, List.length_singleton, List.append_nil]
            exact this
          have em : M'.b = M.b := by rw [hM']
          have ep : M'.p = { M.p with facts := M.p.facts ++ [⟨n, []⟩] } := by rw [hM']; simp [RefH.p]
          repeat' (first | ((first | refine BrM.t rfl ?_ | refine BrM.f rfl ?_ | refine BrM.dec (fun _ => ?_) (fun _ => ?_) | refine BrM.mk (fun _ => ?_) (fun _ => ?_) | refine Ar.i64 (by omega) (by omega) ?_ | refine gO rfl ?_ | refine gP rfl (by repeat constructor) ?_) <;> conv => whnf) | (refine atRet ?_; refine Nx.ret [0] Try.func31 rfl rfl ?_; (exact ⟨M', em, ep, rfl, rfl⟩)) | refine Nx.late ?_)
        · rw [hs] at hdid
          repeat' (first | ((first | refine BrM.yes (by omega) ?_ | refine BrM.not (by omega) ?_ | refine BrM.t rfl ?_ | refine BrM.f rfl ?_ | refine BrM.dec (fun _ => ?_) (fun _ => ?_) | refine BrM.mk (fun _ => ?_) (fun _ => ?_) | refine Ar.i64 (by omega) (by omega) ?_ | refine gO rfl ?_ | refine gP rfl (by repeat constructor) ?_) <;> conv => whnf) | (refine dN 1 [0] [0,5,8,12,16,21,24,28,32,37,40,44,48] rfl (by kernel_rfl) rfl (by kernel_rfl) rfl (by repeat constructor) rfl ?_) | (refine dN 6 [0] [0,4,8,12,16,20,25,28,32,36,41,44,49,52,56] rfl (by kernel_rfl) rfl (by kernel_rfl) rfl (by repeat constructor) rfl ?_) | (refine atHoIdx ?_; refine Nx.hoIdx 0 (j := k) rfl rfl rfl Try.underlying30 rfl rfl rfl RWrH.enc_len hW rfl (by omega) (by omega) fun _ _ _ => ?_) | (refine atHoLoad ?_; first | refine hL1 rfl rfl rfl rfl (SeesAt.sub (by assumption) _ rfl) (by repeat constructor) rfl ?_ | refine hL1 rfl rfl rfl rfl (by assumption) (by repeat constructor) rfl ?_ | refine hLm rfl rfl rfl rfl (by assumption) (by repeat constructor) rfl rfl ?_) | (refine atCall 51 ?_; refine cE [0] [0] rfl rfl rfl rfl rfl (hof) rfl ?_) | (refine atCall 52 ?_; refine cE [0] [0] rfl rfl rfl rfl rfl (hat) rfl ?_) | (refine atCall 35 ?_; refine cE [0] [0] rfl rfl rfl rfl rfl (hdid) rfl ?_) | (refine atCall 56 ?_; refine cE [0] [0] rfl rfl rfl rfl rfl (hred) rfl ?_) | (refine dN 15 [0] [0,4,8,12,17,24,22,28,34,39,40,44,51] rfl (by kernel_rfl) rfl (by kernel_rfl) rfl (by repeat constructor) rfl ?_) | (refine atAftK ?_; refine Nx.keepN [0] rfl (by repeat constructor) (by repeat constructor) rfl ?_) | refine Nx.late ?_)
          refine Nx.turn [0] [20, 21, 22, 23, 24, 25, 26, 27] M.parts rfl sat_unstar ?_
          refine Nx.appendT 24 (sz := 9) (by_ := 88) (news := RFaH.enc ⟨⟨n, []⟩, none, 0⟩) rfl rfl rfl rfl rfl Try.underlying32 rfl rfl rfl rfl rfl (by decide) (by unfold maxLen; omega) (by omega) fun A' c'' => ?_
          repeat' (first | ((first | refine BrM.t rfl ?_ | refine BrM.f rfl ?_ | refine BrM.dec (fun _ => ?_) (fun _ => ?_) | refine BrM.mk (fun _ => ?_) (fun _ => ?_) | refine Ar.i64 (by omega) (by omega) ?_ | refine gO rfl ?_ | refine gP rfl (by repeat constructor) ?_) <;> conv => whnf) | (fail) | refine Nx.late ?_)
          refine Nx.storeW 20 (blk M.b (.cells (M.cells.set 4 (.slice A' (M.facts.length + 1) c'')).toArray 34 (0, 0))) rfl rfl rfl rfl rfl rfl rfl rfl rfl (blk_set (by show 4 < 5; decide)) ?_
          obtain ⟨M', hM'⟩ : ∃ M' : RefH, M' = { M with facts := M.facts ++ [⟨⟨n, []⟩, none, 0⟩], fA := A', fc := c'' } := ⟨_, rfl⟩
          refine Nx.turn [20, 21, 22, 23, 24, 25, 26, 27, 8] [0] [M'.sp] rfl (fun r h hs => ?_) ?_
          · have := regroup [_, _, _, _, _, _, _] [] (P := rdS none 0 2 []) (P' := RFaH.sp ⟨⟨n, []⟩, none, 0⟩) (fun _ _ h => h) hs
            subst hM'
            refine sat_restar ?_
            simp only [RefH.cells, List.set_cons_zero, List.set_cons_succ] at this
            simp only [RefH.parts, RefH.cells, List.map_append, List.map_cons, List.map_nil, List.flatMap_append, List.flatMap_cons, List.flatMap_nil, List.length_append, List.length_singleton, List.append_nil]
            exact this
          have em : M'.b = M.b := by rw [hM']
          have ep : M'.p = { M.p with facts := M.p.facts ++ [⟨n, []⟩] } := by rw [hM']; simp [RefH.p]
          repeat' (first | ((first | refine BrM.t rfl ?_ | refine BrM.f rfl ?_ | refine BrM.dec (fun _ => ?_) (fun _ => ?_) | refine BrM.mk (fun _ => ?_) (fun _ => ?_) | refine Ar.i64 (by omega) (by omega) ?_ | refine gO rfl ?_ | refine gP rfl (by repeat constructor) ?_) <;> conv => whnf) | (refine atRet ?_; refine Nx.ret [0] Try.func31 rfl rfl ?_; (exact ⟨M', em, ep, rfl, rfl⟩)) | refine Nx.late ?_)
      · rw [if_neg he]
        rcases hS with hs | ⟨hs, hs2⟩
        · rw [hs] at hdid
          refine FnOk.start Try.func31 rfl rfl rfl rfl fun F os tape output => ?_
          refine go 200 ?_
          conv => whnf
          refine Nx.bind (l := 3) (fun b3 => ?_) rfl
          repeat' (first | ((first | refine BrM.yes (by omega) ?_ | refine BrM.not (by omega) ?_ | refine BrM.t rfl ?_ | refine BrM.f rfl ?_ | refine BrM.dec (fun _ => ?_) (fun _ => ?_) | refine BrM.mk (fun _ => ?_) (fun _ => ?_) | refine Ar.i64 (by omega) (by omega) ?_ | refine gO rfl ?_ | refine gP rfl (by repeat constructor) ?_) <;> conv => whnf) | (refine dN 1 [0] [0,5,8,12,16,21,24,28,32,37,40,44,48] rfl (by kernel_rfl) rfl (by kernel_rfl) rfl (by repeat constructor) rfl ?_) | (refine dN 6 [0] [0,4,8,12,16,20,25,28,32,36,41,44,49,52,56] rfl (by kernel_rfl) rfl (by kernel_rfl) rfl (by repeat constructor) rfl ?_) | (refine atHoIdx ?_; refine Nx.hoIdx 0 (j := k) rfl rfl rfl Try.underlying30 rfl rfl rfl RWrH.enc_len hW rfl (by omega) (by omega) fun _ _ _ => ?_) | (refine atHoLoad ?_; first | refine hL1 rfl rfl rfl rfl (SeesAt.sub (by assumption) _ rfl) (by repeat constructor) rfl ?_ | refine hL1 rfl rfl rfl rfl (by assumption) (by repeat constructor) rfl ?_ | refine hLm rfl rfl rfl rfl (by assumption) (by repeat constructor) rfl rfl ?_) | (refine atCall 51 ?_; refine cE [0] [0] rfl rfl rfl rfl rfl (hof) rfl ?_) | (refine atCall 52 ?_; refine cE [0] [0] rfl rfl rfl rfl rfl (hat) rfl ?_) | (refine atCall 35 ?_; refine cE [0] [0] rfl rfl rfl rfl rfl (hdid) rfl ?_) | (refine atCall 56 ?_; refine cE [0] [0] rfl rfl rfl rfl rfl (hred) rfl ?_) | (refine atRet ?_; refine Nx.ret [0] Try.func31 rfl rfl ?_; (exact TkQ.same)) | refine Nx.late ?_)
        · rw [hs] at hdid
          refine FnOk.start Try.func31 rfl rfl rfl rfl fun F os tape output => ?_
          refine go 200 ?_
          conv => whnf
          refine Nx.bind (l := 3) (fun b3 => ?_) rfl
          repeat' (first | ((first | refine BrM.yes (by omega) ?_ | refine BrM.not (by omega) ?_ | refine BrM.t rfl ?_ | refine BrM.f rfl ?_ | refine BrM.dec (fun _ => ?_) (fun _ => ?_) | refine BrM.mk (fun _ => ?_) (fun _ => ?_) | refine Ar.i64 (by omega) (by omega) ?_ | refine gO rfl ?_ | refine gP rfl (by repeat constructor) ?_) <;> conv => whnf) | (refine dN 1 [0] [0,5,8,12,16,21,24,28,32,37,40,44,48] rfl (by kernel_rfl) rfl (by kernel_rfl) rfl (by repeat constructor) rfl ?_) | (refine dN 6 [0] [0,4,8,12,16,20,25,28,32,36,41,44,49,52,56] rfl (by kernel_rfl) rfl (by kernel_rfl) rfl (by repeat constructor) rfl ?_) | (refine atHoIdx ?_; refine Nx.hoIdx 0 (j := k) rfl rfl rfl Try.underlying30 rfl rfl rfl RWrH.enc_len hW rfl (by omega) (by omega) fun _ _ _ => ?_) | (refine atHoLoad ?_; first | refine hL1 rfl rfl rfl rfl (SeesAt.sub (by assumption) _ rfl) (by repeat constructor) rfl ?_ | refine hL1 rfl rfl rfl rfl (by assumption) (by repeat constructor) rfl ?_ | refine hLm rfl rfl rfl rfl (by assumption) (by repeat constructor) rfl rfl ?_) | (refine atCall 51 ?_; refine cE [0] [0] rfl rfl rfl rfl rfl (hof) rfl ?_) | (refine atCall 52 ?_; refine cE [0] [0] rfl rfl rfl rfl rfl (hat) rfl ?_) | (refine atCall 35 ?_; refine cE [0] [0] rfl rfl rfl rfl rfl (hdid) rfl ?_) | (refine atCall 56 ?_; refine cE [0] [0] rfl rfl rfl rfl rfl (hred) rfl ?_) | (refine atRet ?_; refine Nx.ret [0] Try.func31 rfl rfl ?_; (exact TkQ.same)) | refine Nx.late ?_)
end Go.Proofs.Ytngfadijcpnblaa

/- The reference: what is added; Send; Length. -/
namespace Go.Proofs.Ytngfadijcpnblaa
open Go.RowKit
set_option maxRecDepth 20000
set_option maxHeartbeats 4000000
theorem flat_setAt {α : Type} {enc : α → List Value} {sz : Nat} (he : ∀ x, (enc x).length = sz) : ∀ {L : List α} {k : Nat} {x y : α} {j : Nat} {v : Value}, L[k]? = some x → j < sz → enc y = (enc x).set j v → (L.set k y).flatMap enc = (L.flatMap enc).set (k * sz + j) v
  | [], _, _, _, _, _, h, _, _ => by simp at h
  | a :: l, 0, x, y, j, v, h, hj, e => by
    simp only [List.getElem?_cons_zero, Option.some.injEq] at h
    subst h
    rw [List.set_cons_zero, List.flatMap_cons, List.flatMap_cons, e, List.set_append_left _ _ (by rw [he]; omega), Nat.zero_mul, Nat.zero_add]
  | a :: l, k + 1, x, y, j, v, h, hj, e => by
    rw [List.set_cons_succ, List.flatMap_cons, List.flatMap_cons, flat_setAt he (L := l) (k := k) (x := x) (by simpa using h) hj e, List.set_append_right _ _ (by rw [he, Nat.succ_mul]; omega), he, show (k + 1) * sz + j - sz = k * sz + j by rw [Nat.succ_mul]; omega]
theorem rtwice_true {m : MdR} {ring : Int} : ∀ {l had : List Int} {j : Nat} (hj : j < l.length), ((m.of l[j]).isSome = true ∨ (m.at l[j] ring).isSome = true ∨ l[j] ∈ had ∨ ∃ i, ∃ hi : i < j, l[i] = l[j]) → m.twice ring had l = true
  | [], _, j, hj, _ => by simp at hj
  | a :: r, had, 0, hj, h => by
    unfold MdR.twice
    rcases h with h | h | h | ⟨i, hi, _⟩
    · simp only [List.getElem_cons_zero] at h; rw [h]; rfl
    · simp only [List.getElem_cons_zero] at h; rw [h]; simp
    · simp only [List.getElem_cons_zero] at h
      simp [h]
    · omega
  | a :: r, had, j + 1, hj, h => by
    unfold MdR.twice
    rw [Bool.or_eq_true]
    right
    simp only [List.getElem_cons_succ] at h
    have hj' : j < r.length := by simpa using hj
    refine rtwice_true (j := j) hj' ?_
    rcases h with h | h | h | ⟨i, hi, h⟩
    · exact .inl h
    · exact .inr (.inl h)
    · exact .inr (.inr (.inl (List.mem_append_left _ h)))
    · cases i with
      | zero => exact .inr (.inr (.inl (List.mem_append_right _ (by simp only [List.getElem_cons_zero] at h; rw [← h]; exact List.mem_singleton.2 rfl))))
      | succ i => exact .inr (.inr (.inr ⟨i, by omega, by simpa using h⟩))
theorem rtwice_false {m : MdR} {ring : Int} : ∀ {l had : List Int}, (∀ j, (hj : j < l.length) → m.of l[j] = none ∧ m.at l[j] ring = none ∧ l[j] ∉ had ∧ ∀ i, (hi : i < j) → l[i] ≠ l[j]) → m.twice ring had l = false
  | [], _, _ => rfl
  | a :: r, had, h => by
    have h0 := h 0 (by simp)
    simp only [List.getElem_cons_zero] at h0
    unfold MdR.twice
    have h1 : m.twice ring (had ++ [a]) r = false := rtwice_false fun j hj => by
      obtain ⟨a1, a2, a3, a4⟩ := h (j + 1) (by simpa using hj)
      simp only [List.getElem_cons_succ] at a1 a2 a3 a4
      refine ⟨a1, a2, fun hm => ?_, fun i hi => ?_⟩
      · rcases List.mem_append.1 hm with hm | hm
        · exact a3 hm
        · have := a4 0 (by omega)
          simp only [List.getElem_cons_zero] at this
          exact this (List.mem_singleton.1 hm).symm
      · have := a4 (i + 1) (by omega)
        simpa using this
    rw [h0.1, h0.2.1, h1]
    simp [h0.2.2.1]
theorem RefH.set3 (M : RefH) (v : Int) : SetAt M.sp M.b 3 (.int .i64 v) { M with pools := v }.sp :=
  star_set (L := M.parts) (k := 0) (P := blk M.b (.cells M.cells.toArray 34 (0, 0))) rfl (blk_set (b := M.b) (t := 34) (ys := M.cells) (y := .int .i64 v) (p := 3) (by show 3 < 5; decide))
theorem newW_sp (who ring : Int) : ∀ r h, RWrH.sp ⟨who, ring, [], none, 0⟩ r h := fun r h => ⟨r, PH.em, h, PH.le_refl _, PH.em_le _, PH.le_refl _, PH.em_dj _, ownT_nil _ _ _ _ _, r, h, PH.em, PH.le_refl _, PH.le_refl _, PH.em_le _, PH.dj_em _, trivial, trivial⟩
structure RpX where
  M : RefH
  j : Nat
attribute [local irreducible] Nx Ar BrM headC OneC HoC AftC planHead endF
theorem ixS (k : Nat) : ixV (some k) = (k : Int) := rfl
theorem ixN : ixV none = -1 := rfl
theorem rAddLog_ok (M : RefH) (hm : MdV M.p) (size : Int) (many : Bool) : FnOk Try.prog 26 [ptr M.b, .int .i64 size, .bool many] [M.sp] (TkQ M.b (M.p.addLog size many)) := by
  obtain ⟨hl8, hl5, hl2⟩ := hm.lens
  have b0 := M.seeB.sub 0 rfl
  have el : M.p.logs.length = M.logs.length := rfl
  unfold MdR.addLog
  by_cases h1 : size < 1 ∨ 1048576 < size
  · rw [if_pos h1]
    refine FnOk.start Try.func26 rfl rfl rfl rfl fun F os tape output => ?_
    refine go 200 ?_
    conv => whnf
    repeat' (first | ((first | refine BrM.yes (by omega) ?_ | refine BrM.not (by omega) ?_ | refine BrM.t rfl ?_ | refine BrM.f rfl ?_ | refine BrM.dec (fun _ => ?_) (fun _ => ?_) | refine BrM.mk (fun _ => ?_) (fun _ => ?_) | refine Ar.i64 (by omega) (by omega) ?_ | refine gO rfl ?_ | refine gP rfl (by repeat constructor) ?_) <;> conv => whnf) | (refine atRet ?_; refine Nx.ret [0] Try.func26 rfl rfl ?_; (exact TkQ.same)) | refine Nx.late ?_)
  rw [if_neg h1, el]
  by_cases h3 : 8 ≤ M.logs.length
  · rw [if_pos h3]
    refine FnOk.start Try.func26 rfl rfl rfl rfl fun F os tape output => ?_
    refine go 200 ?_
    conv => whnf
    repeat' (first | ((first | refine BrM.yes (by omega) ?_ | refine BrM.not (by omega) ?_ | refine BrM.t rfl ?_ | refine BrM.f rfl ?_ | refine BrM.dec (fun _ => ?_) (fun _ => ?_) | refine BrM.mk (fun _ => ?_) (fun _ => ?_) | refine Ar.i64 (by omega) (by omega) ?_ | refine gO rfl ?_ | refine gP rfl (by repeat constructor) ?_) <;> conv => whnf) | (refine atLoad ?_; refine Nx.load1 0 rfl rfl rfl rfl (b0) rfl ?_) | (refine atRet ?_; refine Nx.ret [0] Try.func26 rfl rfl ?_; (exact TkQ.same)) | refine Nx.late ?_)
  rw [if_neg h3]
  refine FnOk.start Try.func26 rfl rfl rfl rfl fun F os tape output => ?_
  refine go 200 ?_
  conv => whnf
  repeat' (first | ((first | refine BrM.not (by omega) ?_ | refine BrM.t rfl ?_ | refine BrM.f rfl ?_ | refine BrM.dec (fun _ => ?_) (fun _ => ?_) | refine BrM.mk (fun _ => ?_) (fun _ => ?_) | refine Ar.i64 (by omega) (by omega) ?_ | refine gO rfl ?_ | refine gP rfl (by repeat constructor) ?_) <;> conv => whnf) | (refine atLoad ?_; refine Nx.load1 0 rfl rfl rfl rfl (b0) rfl ?_) | refine Nx.late ?_)
  refine Nx.turn [0] [20, 21, 22, 23, 24, 25, 26, 27] M.parts rfl sat_unstar ?_
  refine Nx.appendT 21 (sz := 2) (by_ := 16) (news := [.int .i64 size, .bool many]) rfl rfl rfl rfl rfl Try.underlying29 rfl rfl rfl rfl rfl (by decide) (by unfold maxLen; omega) (by omega) fun A' c'' => ?_
  repeat' (first | ((first | refine BrM.t rfl ?_ | refine BrM.f rfl ?_ | refine BrM.dec (fun _ => ?_) (fun _ => ?_) | refine BrM.mk (fun _ => ?_) (fun _ => ?_) | refine Ar.i64 (by omega) (by omega) ?_ | refine gO rfl ?_ | refine gP rfl (by repeat constructor) ?_) <;> conv => whnf) | (fail) | refine Nx.late ?_)
  refine Nx.storeW 20 (blk M.b (.cells (M.cells.set 0 (.slice A' (M.logs.length + 1) c'')).toArray 34 (0, 0))) rfl rfl rfl rfl rfl rfl rfl rfl rfl (blk_set (by show 0 < 5; decide)) ?_
  obtain ⟨M', hM'⟩ : ∃ M' : RefH, M' = { M with logs := M.logs ++ [(size, many)], lA := A', lc := c'' } := ⟨_, rfl⟩
  refine Nx.turn [20, 21, 22, 23, 24, 25, 26, 27] [0] [M'.sp] rfl (fun r h hs => ?_) ?_
  · have := hs
    subst hM'
    refine sat_restar ?_
    simp only [RefH.cells, List.set_cons_zero, List.set_cons_succ] at this
    simp only [RefH.parts, RefH.cells, List.map_append, List.map_cons, List.map_nil, List.flatMap_append, List.flatMap_cons, List.flatMap_nil, List.length_append, List.length_singleton, List.append_nil]
    exact this
  have em : M'.b = M.b := by rw [hM']
  have ep : M'.p = { M.p with logs := M.p.logs ++ [(size, many)] } := by rw [hM']; simp [RefH.p]
  repeat' (first | ((first | refine BrM.t rfl ?_ | refine BrM.f rfl ?_ | refine BrM.dec (fun _ => ?_) (fun _ => ?_) | refine BrM.mk (fun _ => ?_) (fun _ => ?_) | refine Ar.i64 (by omega) (by omega) ?_ | refine gO rfl ?_ | refine gP rfl (by repeat constructor) ?_) <;> conv => whnf) | (refine atRet ?_; refine Nx.ret [0] Try.func26 rfl rfl ?_; (exact ⟨M', em, ep, rfl, rfl⟩)) | refine Nx.late ?_)
theorem rAddWriter_ok (M : RefH) (hm : MdV M.p) (who ring : Int) : FnOk Try.prog 27 [ptr M.b, .int .i64 who, .int .i64 ring] [M.sp] (TkQ M.b (M.p.addWriter who ring)) := by
  obtain ⟨hl8, hl5, hl2⟩ := hm.lens
  have b1 := M.seeB.sub 1 rfl
  have b2 := M.seeB.sub 2 rfl
  have hR := M.seeR
  have hf := rFresh_ok M hm 1 ring (by omega) (by omega)
  have hof := rOf_ok M hm who
  unfold MdR.addWriter
  by_cases h1 : M.p.fresh 1 ring ≠ 0
  · rw [if_pos h1]
    generalize M.p.fresh 1 ring = fr at hf h1 ⊢
    refine FnOk.start Try.func27 rfl rfl rfl rfl fun F os tape output => ?_
    refine go 200 ?_
    conv => whnf
    repeat' (first | ((first | refine BrM.yes (by omega) ?_ | refine BrM.t rfl ?_ | refine BrM.f rfl ?_ | refine BrM.dec (fun _ => ?_) (fun _ => ?_) | refine BrM.mk (fun _ => ?_) (fun _ => ?_) | refine Ar.i64 (by omega) (by omega) ?_ | refine gO rfl ?_ | refine gP rfl (by repeat constructor) ?_) <;> conv => whnf) | (refine atCall 50 ?_; refine cE [0] [0] rfl rfl rfl rfl rfl (hf) rfl ?_) | (refine atRet ?_; refine Nx.ret [0] Try.func27 rfl rfl ?_; (exact TkQ.same)) | refine Nx.late ?_)
  rw [if_neg h1]
  have h1' : M.p.fresh 1 ring = 0 := by omega
  rw [h1'] at hf
  cases h2 : M.p.of who with
  | some k =>
    rw [h2, ixS] at hof
    rw [if_pos (by simp)]
    refine FnOk.start Try.func27 rfl rfl rfl rfl fun F os tape output => ?_
    refine go 200 ?_
    conv => whnf
    repeat' (first | ((first | refine BrM.yes (by omega) ?_ | refine BrM.not (by omega) ?_ | refine BrM.t rfl ?_ | refine BrM.f rfl ?_ | refine BrM.dec (fun _ => ?_) (fun _ => ?_) | refine BrM.mk (fun _ => ?_) (fun _ => ?_) | refine Ar.i64 (by omega) (by omega) ?_ | refine gO rfl ?_ | refine gP rfl (by repeat constructor) ?_) <;> conv => whnf) | (refine atCall 50 ?_; refine cE [0] [0] rfl rfl rfl rfl rfl (hf) rfl ?_) | (refine atCall 51 ?_; refine cE [0] [0] rfl rfl rfl rfl rfl (hof) rfl ?_) | (refine atRet ?_; refine Nx.ret [0] Try.func27 rfl rfl ?_; (exact TkQ.same)) | refine Nx.late ?_)
  | none =>
  rw [h2, ixN] at hof
  rw [if_neg (by simp)]
  refine FnOk.start Try.func27 rfl rfl rfl rfl fun F os tape output => ?_
  refine go 200 ?_
  conv => whnf
  repeat' (first | ((first | refine BrM.not (by omega) ?_ | refine BrM.t rfl ?_ | refine BrM.f rfl ?_ | refine BrM.dec (fun _ => ?_) (fun _ => ?_) | refine BrM.mk (fun _ => ?_) (fun _ => ?_) | refine Ar.i64 (by omega) (by omega) ?_ | refine gO rfl ?_ | refine gP rfl (by repeat constructor) ?_) <;> conv => whnf) | (refine atCall 50 ?_; refine cE [0] [0] rfl rfl rfl rfl rfl (hf) rfl ?_) | (refine atCall 51 ?_; refine cE [0] [0] rfl rfl rfl rfl rfl (hof) rfl ?_) | refine Nx.late ?_)
  refine Nx.loop (X := Nat) (fun j => j ≤ M.readers.length ∧ ∀ q, (hq : q < j) → (hl : q < M.readers.length) → M.readers[q].r.who ≠ who) (fun j => M.readers.length - j)
    (fun j => [(0, .c (.v (ptr M.b))), (1, iv who), (2, iv ring), (8, iv j)]) (fun _ => []) [] (fun _ => [(0, M.sp)]) 0 ⟨Nat.zero_le _, fun i hi => by omega⟩ ?_ ?_ ?_ ?_ ?_
  all_goals repeat (first | exact .nil _ | refine .cons rfl ?_ | refine .cons rfl rfl ?_ | refine .cons rfl rfl rfl ?_ | refine .cons' rfl (fun _ => rfl) ?_)
  intro j ⟨hj, hno⟩ ih
  by_cases hlt : j < M.readers.length
  · by_cases hw : M.readers[j].r.who = who
    · have e : (M.p.readers.any fun r => decide (r.who = who)) = true := List.any_eq_true.2 ⟨_, List.mem_map_of_mem (List.getElem_mem hlt), by simp [hw]⟩
      rw [e, if_pos rfl]
      repeat' (first | ((first | refine BrM.yes (by omega) ?_ | refine BrM.t rfl ?_ | refine BrM.f rfl ?_ | refine BrM.dec (fun _ => ?_) (fun _ => ?_) | refine BrM.mk (fun _ => ?_) (fun _ => ?_) | refine Ar.i64 (by omega) (by omega) ?_ | refine gO rfl ?_ | refine gP rfl (by repeat constructor) ?_) <;> conv => whnf) | (refine atLoad ?_; refine Nx.load1 0 rfl rfl rfl rfl (b2) rfl ?_) | (refine atIdx ?_; refine Nx.idx 0 (j := j) rfl rfl rfl Try.underlying31 rfl rfl rfl RRdH.enc_len hR rfl (by omega) (by omega) fun _ _ _ => ?_) | (refine atLoad ?_; first | (refine Nx.load1 0 rfl rfl rfl rfl (SeesAt.sub (by assumption) _ rfl) rfl ?_) | (refine Nx.load1 0 rfl rfl rfl rfl (by assumption) rfl ?_) | (refine Nx.load 0 rfl rfl rfl rfl (by assumption) rfl rfl ?_)) | (refine atRet ?_; refine Nx.ret [0] Try.func27 rfl rfl ?_; (exact TkQ.same)) | refine Nx.late ?_)
    · repeat' (first | (refine atBr ?_; refine BrM.not (hw) ?_; conv => whnf) | ((first | refine BrM.yes (by omega) ?_ | refine BrM.t rfl ?_ | refine BrM.f rfl ?_ | refine BrM.dec (fun _ => ?_) (fun _ => ?_) | refine BrM.mk (fun _ => ?_) (fun _ => ?_) | refine Ar.i64 (by omega) (by omega) ?_ | refine gO rfl ?_ | refine gP rfl (by repeat constructor) ?_) <;> conv => whnf) | (refine atLoad ?_; refine Nx.load1 0 rfl rfl rfl rfl (b2) rfl ?_) | (refine atIdx ?_; refine Nx.idx 0 (j := j) rfl rfl rfl Try.underlying31 rfl rfl rfl RRdH.enc_len hR rfl (by omega) (by omega) fun _ _ _ => ?_) | (refine atLoad ?_; first | (refine Nx.load1 0 rfl rfl rfl rfl (SeesAt.sub (by assumption) _ rfl) rfl ?_) | (refine Nx.load1 0 rfl rfl rfl rfl (by assumption) rfl ?_) | (refine Nx.load 0 rfl rfl rfl rfl (by assumption) rfl rfl ?_)) | refine Nx.late ?_)
      refine (ih (j + 1) ⟨by omega, fun q hq hl => ?_⟩ (by omega)).weak ?_ ?_ ?_ ?_
      · by_cases e : q = j
        · subst e; exact hw
        · exact hno q (by omega) hl
      all_goals repeat (first | exact .nil _ | refine .cons rfl ?_ | refine .cons rfl rfl ?_ | refine .cons rfl rfl rfl ?_ | refine .cons' rfl (fun _ => rfl) ?_)
  have e : (M.p.readers.any fun r => decide (r.who = who)) = false := by
    rw [List.any_eq_false]
    intro r hr
    obtain ⟨y, hy, rfl⟩ := List.mem_map.1 hr
    obtain ⟨q, hq, rfl⟩ := List.getElem_of_mem hy
    simpa using hno q (by omega) hq
  rw [e, if_neg (by decide)]
  repeat' (first | ((first | refine BrM.not (by omega) ?_ | refine BrM.t rfl ?_ | refine BrM.f rfl ?_ | refine BrM.dec (fun _ => ?_) (fun _ => ?_) | refine BrM.mk (fun _ => ?_) (fun _ => ?_) | refine Ar.i64 (by omega) (by omega) ?_ | refine gO rfl ?_ | refine gP rfl (by repeat constructor) ?_) <;> conv => whnf) | (refine atLoad ?_; refine Nx.load1 0 rfl rfl rfl rfl (b2) rfl ?_) | (refine atLoad ?_; refine Nx.load1 0 rfl rfl rfl rfl (b1) rfl ?_) | refine Nx.late ?_)
  refine Nx.give 6 (star []) trivial ?_
  refine Nx.turn [0] [20, 21, 22, 23, 24, 25, 26, 27] M.parts rfl sat_unstar ?_
  refine Nx.appendT 22 (sz := 3) (by_ := 40) (news := RWrH.enc ⟨who, ring, [], none, 0⟩) rfl rfl rfl rfl rfl Try.underlying30 rfl rfl rfl rfl rfl (by decide) (by unfold maxLen; omega) (by omega) fun A' c'' => ?_
  repeat' (first | ((first | refine BrM.t rfl ?_ | refine BrM.f rfl ?_ | refine BrM.dec (fun _ => ?_) (fun _ => ?_) | refine BrM.mk (fun _ => ?_) (fun _ => ?_) | refine Ar.i64 (by omega) (by omega) ?_ | refine gO rfl ?_ | refine gP rfl (by repeat constructor) ?_) <;> conv => whnf) | (fail) | refine Nx.late ?_)
  refine Nx.storeW 20 (blk M.b (.cells (M.cells.set 1 (.slice A' (M.writers.length + 1) c'')).toArray 34 (0, 0))) rfl rfl rfl rfl rfl rfl rfl rfl rfl (blk_set (by show 1 < 5; decide)) ?_
  obtain ⟨M', hM'⟩ : ∃ M' : RefH, M' = { M with writers := M.writers ++ [⟨who, ring, [], none, 0⟩], wA := A', wc := c'' } := ⟨_, rfl⟩
  refine Nx.turn [20, 21, 22, 23, 24, 25, 26, 27, 6] [0] [M'.sp] rfl (fun r h hs => ?_) ?_
  · have := regroup [_, _, _, _, _] [_, _] (P := star []) (P' := RWrH.sp ⟨who, ring, [], none, 0⟩) (fun _ _ h => newW_sp _ _ _ _) hs
    subst hM'
    refine sat_restar ?_
    simp only [RefH.cells, List.set_cons_zero, List.set_cons_succ] at this
    simp only [RefH.parts, RefH.cells, List.map_append, List.map_cons, List.map_nil, List.flatMap_append, List.flatMap_cons, List.flatMap_nil, List.length_append, List.length_singleton, List.append_nil]
    exact this
  have em : M'.b = M.b := by rw [hM']
  have ep : M'.p = { M.p with writers := M.p.writers ++ [⟨who, ring, []⟩] } := by rw [hM']; simp [RefH.p, RWrH.m]
  repeat' (first | ((first | refine BrM.t rfl ?_ | refine BrM.f rfl ?_ | refine BrM.dec (fun _ => ?_) (fun _ => ?_) | refine BrM.mk (fun _ => ?_) (fun _ => ?_) | refine Ar.i64 (by omega) (by omega) ?_ | refine gO rfl ?_ | refine gP rfl (by repeat constructor) ?_) <;> conv => whnf) | (refine atRet ?_; refine Nx.ret [0] Try.func27 rfl rfl ?_; (exact ⟨M', em, ep, rfl, rfl⟩)) | refine Nx.late ?_)
theorem rAdd_ok (M : RefH) (hl5 : M.readers.length ≤ 1000) (who ring start pool : Int) (ahead : List Int) (aA : Option Addr) (ac : Nat) (ha : ahead.length ≤ 1000) :
    FnOk Try.prog 54 [ptr M.b, .int .i64 who, .int .i64 ring, .int .i64 start, .int .i64 pool, .slice aA ahead.length ac] [M.sp, rdS aA ahead.length 1 (ahead.flatMap inC)]
      (fun _ Q => ∃ M' : RefH, M'.b = M.b ∧ M'.p = { M.p with readers := M.p.readers ++ [⟨who, ring, start, pool, ahead⟩] } ∧ M'.pools = M.pools ∧ Q = [M'.sp]) := by
  have b2 := M.seeB.sub 2 rfl
  have hL : Sees (rdS aA ahead.length 1 (ahead.flatMap inC)) aA ahead.length 1 (ahead.flatMap inC) := rdS_sees _ _ _ _
  refine FnOk.start Try.func54 rfl rfl rfl rfl fun F os tape output => ?_
  refine Nx.give 5 (ownS 3 none 0 0 1 []) (own_nil _ _ _ _) ?_
  refine go 200 ?_
  conv => whnf
  repeat' (first | ((first | refine BrM.t rfl ?_ | refine BrM.f rfl ?_ | refine BrM.dec (fun _ => ?_) (fun _ => ?_) | refine BrM.mk (fun _ => ?_) (fun _ => ?_) | refine Ar.i64 (by omega) (by omega) ?_ | refine gO rfl ?_ | refine gP rfl (by repeat constructor) ?_) <;> conv => whnf) | (refine atApp ?_; refine Nx.appendS 5 1 (sz := 1) (by_ := 8) rfl rfl rfl Try.underlying35 rfl rfl rfl rfl hL (inC_one _) (by unfold maxLen; omega) (by omega) fun B bc => ?_; rw [Nat.zero_add]) | refine Nx.late ?_)
  refine Nx.share 5 (rdS B ahead.length 1 (ahead.flatMap inC)) rfl own_share ?_
  refine Nx.bind (l := 12) (fun b12 => ?_) rfl
  repeat' (first | ((first | refine BrM.t rfl ?_ | refine BrM.f rfl ?_ | refine BrM.dec (fun _ => ?_) (fun _ => ?_) | refine BrM.mk (fun _ => ?_) (fun _ => ?_) | refine Ar.i64 (by omega) (by omega) ?_ | refine gO rfl ?_ | refine gP rfl (by repeat constructor) ?_) <;> conv => whnf) | (refine dN 2 [0] [0,4,8,12,17,22,26,31,32,36,43] rfl (by kernel_rfl) rfl (by kernel_rfl) rfl (by repeat constructor) rfl ?_) | (refine atHoLoad ?_; first | refine hL1 rfl rfl rfl rfl (SeesAt.sub (by assumption) _ rfl) (by repeat constructor) rfl ?_ | refine hL1 rfl rfl rfl rfl (by assumption) (by repeat constructor) rfl ?_ | refine hLm rfl rfl rfl rfl (by assumption) (by repeat constructor) rfl rfl ?_) | (refine atAftK ?_; refine Nx.keepN [0] rfl (by repeat constructor) (by repeat constructor) rfl ?_) | refine Nx.late ?_)
  refine Nx.turn [0] [20, 21, 22, 23, 24, 25, 26, 27] M.parts rfl sat_unstar ?_
  refine Nx.appendT 23 (sz := 5) (by_ := 56) (news := RRdH.enc ⟨⟨who, ring, start, pool, ahead⟩, B, bc⟩) rfl rfl rfl rfl rfl Try.underlying31 rfl rfl rfl rfl rfl (by decide) (by unfold maxLen; omega) (by omega) fun A' c'' => ?_
  repeat' (first | ((first | refine BrM.t rfl ?_ | refine BrM.f rfl ?_ | refine BrM.dec (fun _ => ?_) (fun _ => ?_) | refine BrM.mk (fun _ => ?_) (fun _ => ?_) | refine Ar.i64 (by omega) (by omega) ?_ | refine gO rfl ?_ | refine gP rfl (by repeat constructor) ?_) <;> conv => whnf) | (fail) | refine Nx.late ?_)
  refine Nx.storeW 20 (blk M.b (.cells (M.cells.set 2 (.slice A' (M.readers.length + 1) c'')).toArray 34 (0, 0))) rfl rfl rfl rfl rfl rfl rfl rfl rfl (blk_set (by show 2 < 5; decide)) ?_
  obtain ⟨M', hM'⟩ : ∃ M' : RefH, M' = { M with readers := M.readers ++ [⟨⟨who, ring, start, pool, ahead⟩, B, bc⟩], rA := A', rc := c'' } := ⟨_, rfl⟩
  refine Nx.turn [20, 21, 22, 23, 24, 25, 26, 27, 5] [0] [M'.sp] rfl (fun r h hs => ?_) ?_
  · have := regroup [_, _, _, _, _, _] [_] (P := rdS B ahead.length 1 (ahead.flatMap inC)) (P' := RRdH.sp ⟨⟨who, ring, start, pool, ahead⟩, B, bc⟩) (fun _ _ h => h) hs
    subst hM'
    refine sat_restar ?_
    simp only [RefH.cells, List.set_cons_zero, List.set_cons_succ] at this
    simp only [RefH.parts, RefH.cells, List.map_append, List.map_cons, List.map_nil, List.flatMap_append, List.flatMap_cons, List.flatMap_nil, List.length_append, List.length_singleton, List.append_nil]
    exact this
  have em : M'.b = M.b := by rw [hM']
  have ep : M'.p = { M.p with readers := M.p.readers ++ [⟨who, ring, start, pool, ahead⟩] } := by rw [hM']; simp [RefH.p]
  have el : M'.pools = M.pools := by rw [hM']
  repeat' (first | ((first | refine BrM.t rfl ?_ | refine BrM.f rfl ?_ | refine BrM.dec (fun _ => ?_) (fun _ => ?_) | refine BrM.mk (fun _ => ?_) (fun _ => ?_) | refine Ar.i64 (by omega) (by omega) ?_ | refine gO rfl ?_ | refine gP rfl (by repeat constructor) ?_) <;> conv => whnf) | (refine atEnd ?_; refine Nx.done [0] rfl rfl rfl ?_; (exact ⟨M', em, ep, el, rfl⟩)) | refine Nx.late ?_)
theorem rAddReader_ok (M : RefH) (hm : MdV M.p) (who ring start : Int) (ahead : List Int) (aA : Option Addr) (ac : Nat) (ha : ahead.length ≤ 1000) :
    FnOk Try.prog 28 [ptr M.b, .int .i64 who, .int .i64 ring, .int .i64 start, .slice aA ahead.length ac] [M.sp, rdS aA ahead.length 1 (ahead.flatMap inC)] (TkQ M.b (M.p.addReader who ring start ahead)) := by
  obtain ⟨hl8, hl5, hl2⟩ := hm.lens
  have hf := rFresh_ok M hm 1 ring (by omega) (by omega)
  have hof := rOf_ok M hm who
  have hat := rAt_ok M hm who ring
  have hbe := rBehind_ok M hm ring ahead aA ac ha
  have hadd := rAdd_ok M (by omega) who ring start (-1) ahead aA ac ha
  unfold MdR.addReader
  by_cases h1 : M.p.fresh 1 ring ≠ 0
  · rw [if_pos h1]
    generalize M.p.fresh 1 ring = fr at hf h1 ⊢
    refine FnOk.start Try.func28 rfl rfl rfl rfl fun F os tape output => ?_
    refine go 200 ?_
    conv => whnf
    repeat' (first | ((first | refine BrM.yes (by omega) ?_ | refine BrM.t rfl ?_ | refine BrM.f rfl ?_ | refine BrM.dec (fun _ => ?_) (fun _ => ?_) | refine BrM.mk (fun _ => ?_) (fun _ => ?_) | refine Ar.i64 (by omega) (by omega) ?_ | refine gO rfl ?_ | refine gP rfl (by repeat constructor) ?_) <;> conv => whnf) | (refine atCall 50 ?_; refine cE [0] [0] rfl rfl rfl rfl rfl (hf) rfl ?_) | (refine atRet ?_; refine Nx.ret [0] Try.func28 rfl rfl ?_; (exact TkQ.same)) | refine Nx.late ?_)
  rw [if_neg h1]
  have h1' : M.p.fresh 1 ring = 0 := by omega
  rw [h1'] at hf
  cases h2 : M.p.of who with
  | some k =>
    rw [h2, ixS] at hof
    rw [if_pos (by simp)]
    refine FnOk.start Try.func28 rfl rfl rfl rfl fun F os tape output => ?_
    refine go 200 ?_
    conv => whnf
    repeat' (first | ((first | refine BrM.yes (by omega) ?_ | refine BrM.not (by omega) ?_ | refine BrM.t rfl ?_ | refine BrM.f rfl ?_ | refine BrM.dec (fun _ => ?_) (fun _ => ?_) | refine BrM.mk (fun _ => ?_) (fun _ => ?_) | refine Ar.i64 (by omega) (by omega) ?_ | refine gO rfl ?_ | refine gP rfl (by repeat constructor) ?_) <;> conv => whnf) | (refine atCall 50 ?_; refine cE [0] [0] rfl rfl rfl rfl rfl (hf) rfl ?_) | (refine atCall 51 ?_; refine cE [0] [0] rfl rfl rfl rfl rfl (hof) rfl ?_) | (refine atRet ?_; refine Nx.ret [0] Try.func28 rfl rfl ?_; (exact TkQ.same)) | refine Nx.late ?_)
  | none =>
  rw [h2, ixN] at hof
  cases h3 : M.p.at who ring with
  | some k =>
    rw [h3, ixS] at hat
    rw [if_pos (by simp)]
    refine FnOk.start Try.func28 rfl rfl rfl rfl fun F os tape output => ?_
    refine go 200 ?_
    conv => whnf
    repeat' (first | ((first | refine BrM.yes (by omega) ?_ | refine BrM.not (by omega) ?_ | refine BrM.t rfl ?_ | refine BrM.f rfl ?_ | refine BrM.dec (fun _ => ?_) (fun _ => ?_) | refine BrM.mk (fun _ => ?_) (fun _ => ?_) | refine Ar.i64 (by omega) (by omega) ?_ | refine gO rfl ?_ | refine gP rfl (by repeat constructor) ?_) <;> conv => whnf) | (refine atCall 50 ?_; refine cE [0] [0] rfl rfl rfl rfl rfl (hf) rfl ?_) | (refine atCall 51 ?_; refine cE [0] [0] rfl rfl rfl rfl rfl (hof) rfl ?_) | (refine atCall 52 ?_; refine cE [0] [0] rfl rfl rfl rfl rfl (hat) rfl ?_) | (refine atRet ?_; refine Nx.ret [0] Try.func28 rfl rfl ?_; (exact TkQ.same)) | refine Nx.late ?_)
  | none =>
  rw [h3, ixN] at hat
  rw [if_neg (by simp)]
  by_cases h4 : start < 0 ∨ 4611686018427387904 < start
  · rw [if_pos h4]
    refine FnOk.start Try.func28 rfl rfl rfl rfl fun F os tape output => ?_
    refine go 200 ?_
    conv => whnf
    repeat' (first | ((first | refine BrM.yes (by omega) ?_ | refine BrM.not (by omega) ?_ | refine BrM.t rfl ?_ | refine BrM.f rfl ?_ | refine BrM.dec (fun _ => ?_) (fun _ => ?_) | refine BrM.mk (fun _ => ?_) (fun _ => ?_) | refine Ar.i64 (by omega) (by omega) ?_ | refine gO rfl ?_ | refine gP rfl (by repeat constructor) ?_) <;> conv => whnf) | (refine atCall 50 ?_; refine cE [0] [0] rfl rfl rfl rfl rfl (hf) rfl ?_) | (refine atCall 51 ?_; refine cE [0] [0] rfl rfl rfl rfl rfl (hof) rfl ?_) | (refine atCall 52 ?_; refine cE [0] [0] rfl rfl rfl rfl rfl (hat) rfl ?_) | (refine atRet ?_; refine Nx.ret [0] Try.func28 rfl rfl ?_; (exact TkQ.same)) | refine Nx.late ?_)
  rw [if_neg h4]
  by_cases h5 : M.p.behind ring ahead ≠ 0
  · rw [if_pos h5]
    generalize M.p.behind ring ahead = be at hbe h5 ⊢
    refine FnOk.start Try.func28 rfl rfl rfl rfl fun F os tape output => ?_
    refine go 200 ?_
    conv => whnf
    repeat' (first | ((first | refine BrM.yes (by omega) ?_ | refine BrM.not (by omega) ?_ | refine BrM.t rfl ?_ | refine BrM.f rfl ?_ | refine BrM.dec (fun _ => ?_) (fun _ => ?_) | refine BrM.mk (fun _ => ?_) (fun _ => ?_) | refine Ar.i64 (by omega) (by omega) ?_ | refine gO rfl ?_ | refine gP rfl (by repeat constructor) ?_) <;> conv => whnf) | (refine atCall 50 ?_; refine cE [0] [0] rfl rfl rfl rfl rfl (hf) rfl ?_) | (refine atCall 51 ?_; refine cE [0] [0] rfl rfl rfl rfl rfl (hof) rfl ?_) | (refine atCall 52 ?_; refine cE [0] [0] rfl rfl rfl rfl rfl (hat) rfl ?_) | (refine atCall 53 ?_; refine cE [0,1] [0] rfl rfl rfl rfl rfl (hbe) rfl ?_) | (refine atRet ?_; refine Nx.ret [0] Try.func28 rfl rfl ?_; (exact TkQ.same)) | refine Nx.late ?_)
  rw [if_neg h5]
  have h5' : M.p.behind ring ahead = 0 := by omega
  rw [h5'] at hbe
  refine FnOk.start Try.func28 rfl rfl rfl rfl fun F os tape output => ?_
  refine Nx.also 1 7 (rdS aA ahead.length 1 (ahead.flatMap inC)) rfl (fun _ _ h => h) ?_
  refine go 200 ?_
  conv => whnf
  repeat' (first | ((first | refine BrM.yes (by omega) ?_ | refine BrM.not (by omega) ?_ | refine BrM.t rfl ?_ | refine BrM.f rfl ?_ | refine BrM.dec (fun _ => ?_) (fun _ => ?_) | refine BrM.mk (fun _ => ?_) (fun _ => ?_) | refine Ar.i64 (by omega) (by omega) ?_ | refine gO rfl ?_ | refine gP rfl (by repeat constructor) ?_) <;> conv => whnf) | (refine atCall 50 ?_; refine cE [0] [0] rfl rfl rfl rfl rfl (hf) rfl ?_) | (refine atCall 51 ?_; refine cE [0] [0] rfl rfl rfl rfl rfl (hof) rfl ?_) | (refine atCall 52 ?_; refine cE [0] [0] rfl rfl rfl rfl rfl (hat) rfl ?_) | (refine atCall 53 ?_; refine cE [0,1] [0] rfl rfl rfl rfl rfl (hbe) rfl ?_) | (refine (atCall 54) ?_; refine Nx.call [0,7] [0] rfl rfl rfl rfl rfl (hadd) rfl fun v Q hQ => ?_; obtain ⟨M',em,ep,_,rfl⟩ := hQ) | (refine atRet ?_; refine Nx.ret [0] Try.func28 rfl rfl ?_; (exact ⟨M', em, ep, rfl, rfl⟩)) | refine Nx.late ?_)
theorem rSend_ok (M : RefH) (hm : MdV M.p) (who : Int) (l : List Ev) (lA : Option Addr) (lc : Nat) (hl : l.length ≤ 1000) :
    FnOk Try.prog 30 [ptr M.b, .int .i64 who, .slice lA l.length lc] [M.sp, rdS lA l.length 2 (l.flatMap evC)] (TkQ M.b (M.p.send who l)) := by
  obtain ⟨hl8, hl5, hl2⟩ := hm.lens
  have hof := rOf_ok M hm who
  unfold MdR.send
  cases h2 : M.p.of who with
  | none =>
    rw [h2, ixN] at hof
    dsimp only
    refine FnOk.start Try.func30 rfl rfl rfl rfl fun F os tape output => ?_
    refine go 200 ?_
    conv => whnf
    repeat' (first | ((first | refine BrM.yes (by omega) ?_ | refine BrM.not (by omega) ?_ | refine BrM.t rfl ?_ | refine BrM.f rfl ?_ | refine BrM.dec (fun _ => ?_) (fun _ => ?_) | refine BrM.mk (fun _ => ?_) (fun _ => ?_) | refine Ar.i64 (by omega) (by omega) ?_ | refine gO rfl ?_ | refine gP rfl (by repeat constructor) ?_) <;> conv => whnf) | (refine atCall 51 ?_; refine cE [0] [0] rfl rfl rfl rfl rfl (hof) rfl ?_) | (refine atRet ?_; refine Nx.ret [0] Try.func30 rfl rfl ?_; (exact TkQ.same)) | refine Nx.late ?_)
  | some k =>
  have hk : k < M.writers.length := by
    have := (findI_is h2).1
    rw [M.lw] at this
    exact this
  rw [h2, ixS] at hof
  dsimp only
  by_cases h3 : l.length = 0 ∨ 64 < l.length
  · rw [if_pos h3]
    refine FnOk.start Try.func30 rfl rfl rfl rfl fun F os tape output => ?_
    refine go 200 ?_
    conv => whnf
    repeat' (first | ((first | refine BrM.yes (by omega) ?_ | refine BrM.not (by omega) ?_ | refine BrM.t rfl ?_ | refine BrM.f rfl ?_ | refine BrM.dec (fun _ => ?_) (fun _ => ?_) | refine BrM.mk (fun _ => ?_) (fun _ => ?_) | refine Ar.i64 (by omega) (by omega) ?_ | refine gO rfl ?_ | refine gP rfl (by repeat constructor) ?_) <;> conv => whnf) | (refine atCall 51 ?_; refine cE [0] [0] rfl rfl rfl rfl rfl (hof) rfl ?_) | (refine atRet ?_; refine Nx.ret [0] Try.func30 rfl rfl ?_; (exact TkQ.same)) | refine Nx.late ?_)
  rw [if_neg h3]
  obtain ⟨x, hx⟩ : ∃ x, x = M.writers[k] := ⟨_, rfl⟩
  have hxk : M.writers[k]? = some x := by rw [hx]; exact List.getElem?_eq_getElem hk
  have hxm : x ∈ M.writers := List.mem_of_getElem? hxk
  have hc : x.calls.length ≤ 200 := by
    have := (hm.calls x.m (List.mem_map_of_mem hxm)).1
    simpa [RWrH.m] using this
  have hL : Sees (rdS lA l.length 2 (l.flatMap evC)) lA l.length 2 (l.flatMap evC) := rdS_sees _ _ _ _
  have hbk : SeesAt (blk M.b (.cells M.cells.toArray 34 (0, 0))) M.b 0 M.cells := blk_at _ _ _
  have b1 := hbk.sub 1 rfl
  have hWT : Sees (ownT 115 M.wA M.writers.length M.wc 3 (M.writers.flatMap RWrH.enc)) M.wA M.writers.length 3 (M.writers.flatMap RWrH.enc) := ownT_sees _ _ _ _ _ _
  refine FnOk.start Try.func30 rfl rfl rfl rfl fun F os tape output => ?_
  refine Nx.give 5 (ownS 39 none 0 0 2 []) (own_nil _ _ _ _) ?_
  refine go 200 ?_
  conv => whnf
  repeat' (first | ((first | refine BrM.not (by omega) ?_ | refine BrM.t rfl ?_ | refine BrM.f rfl ?_ | refine BrM.dec (fun _ => ?_) (fun _ => ?_) | refine BrM.mk (fun _ => ?_) (fun _ => ?_) | refine Ar.i64 (by omega) (by omega) ?_ | refine gO rfl ?_ | refine gP rfl (by repeat constructor) ?_) <;> conv => whnf) | (refine atCall 51 ?_; refine cE [0] [0] rfl rfl rfl rfl rfl (hof) rfl ?_) | (refine atApp ?_; refine Nx.appendS 5 1 (sz := 2) (by_ := 16) rfl rfl rfl Try.underlying36 rfl rfl rfl rfl hL (evC_one _) (by unfold maxLen; omega) (by omega) fun B bc => ?_; rw [Nat.zero_add]) | refine Nx.late ?_)
  refine Nx.fact (p := l.length ≤ bc) 5 rfl (fun _ _ h => (ownS_fit h).1) fun hfit => ?_
  refine Nx.share 5 (rdS B l.length 2 (l.flatMap evC)) rfl own_share ?_
  refine Nx.turn [0] [20, 21, 22, 23, 24, 25, 26, 27] M.parts rfl sat_unstar ?_
  refine Nx.turn [25] [30, 31] [x.sp, star ((M.writers.map RWrH.sp).eraseIdx k)] rfl (fun r h hs => star_out (by rw [List.getElem?_map, hxk]; rfl) (sat_unstar _ _ hs)) ?_
  refine Nx.turn [30] [32, 33] [ownT 36 x.cA x.calls.length x.cc 1 (x.calls.flatMap CallH.enc), star (x.calls.map CallH.sq)] rfl sat_unstar ?_
  repeat' (first | ((first | refine BrM.t rfl ?_ | refine BrM.f rfl ?_ | refine BrM.dec (fun _ => ?_) (fun _ => ?_) | refine BrM.mk (fun _ => ?_) (fun _ => ?_) | refine Ar.i64 (by omega) (by omega) ?_ | refine gO rfl ?_ | refine gP rfl (by repeat constructor) ?_) <;> conv => whnf) | (refine dN 8 [20,22] [0,4,8,13,16,20,24,28,33,36,40,44,49,52,58,62,64,68,75] rfl (by kernel_rfl) rfl (by kernel_rfl) rfl (by repeat constructor) rfl ?_) | (refine atHoIdx ?_; refine Nx.hoIdx 22 (j := k) rfl rfl rfl Try.underlying30 rfl rfl rfl RWrH.enc_len hWT rfl (by omega) (by omega) fun b p hqq => ?_; rw [← hx] at hqq) | (refine atHoLoad ?_; first | refine hL1 rfl rfl rfl rfl (SeesAt.sub (by assumption) _ rfl) (by repeat constructor) rfl ?_ | refine hL1 rfl rfl rfl rfl (by assumption) (by repeat constructor) rfl ?_ | refine hLm rfl rfl rfl rfl (by assumption) (by repeat constructor) rfl rfl ?_) | (refine atAftK ?_; refine Nx.keepN [20,22] rfl (by repeat constructor) (by repeat constructor) rfl ?_) | refine Nx.late ?_)
  refine Nx.appendT 32 (sz := 1) (by_ := 24) (news := [.slice B l.length bc]) rfl rfl rfl rfl rfl Try.underlying102 rfl rfl rfl rfl rfl (by decide) (by unfold maxLen; omega) (by omega) fun A' c'' => ?_
  repeat' (first | ((first | refine BrM.t rfl ?_ | refine BrM.f rfl ?_ | refine BrM.dec (fun _ => ?_) (fun _ => ?_) | refine BrM.mk (fun _ => ?_) (fun _ => ?_) | refine Ar.i64 (by omega) (by omega) ?_ | refine gO rfl ?_ | refine gP rfl (by repeat constructor) ?_) <;> conv => whnf) | (refine atAftK ?_; refine Nx.keepN [20,22] rfl (by repeat constructor) (by repeat constructor) rfl ?_) | (refine atHoIdx ?_; refine Nx.hoIdxT 22 (j := k) rfl rfl rfl Try.underlying30 rfl rfl rfl rfl (by omega) fun b p hbp => ?_) | refine Nx.late ?_)
  obtain ⟨y, hy⟩ : ∃ y : RWrH, y = { x with calls := x.calls ++ [⟨l, B, bc⟩], cA := A', cc := c'' } := ⟨_, rfl⟩
  have hye : y.enc = x.enc.set 2 (.slice A' (x.calls.length + 1) c'') := by rw [hy]; simp [RWrH.enc]
  refine Nx.storeW 22 (ownT 115 M.wA M.writers.length M.wc 3 ((M.writers.flatMap RWrH.enc).set (k * 3 + 2) (.slice A' (x.calls.length + 1) c''))) rfl rfl rfl rfl rfl rfl rfl rfl rfl (by rw [hbp, addN_eq]; have h := ownT_set (e := 115) (b := b) (off := p) (n := M.writers.length) (c := M.wc) (sz := 3) (cells := M.writers.flatMap RWrH.enc) (j := k * 3 + 2) (y := .slice A' (x.calls.length + 1) c'') (by omega); rw [← Nat.add_assoc] at h; exact h) ?_
  obtain ⟨M', hM'⟩ : ∃ M' : RefH, M' = { M with writers := M.writers.set k y } := ⟨_, rfl⟩
  refine Nx.turn [32, 33, 5] [30] [y.sp] rfl (fun r h hs => ?_) ?_
  · have := regroup [_] [] (P := rdS B l.length 2 (l.flatMap evC)) (P' := CallH.sq ⟨l, B, bc⟩) (fun _ _ h => ⟨h, hfit⟩) hs
    subst hy
    refine sat_restar ?_
    simp only [List.map_append, List.map_cons, List.map_nil, List.flatMap_append, List.flatMap_cons, List.flatMap_nil, List.length_append, List.length_singleton, List.append_nil]
    exact this
  refine Nx.turn [30, 31] [25] [star ((M.writers.map RWrH.sp).set k y.sp)] rfl (fun r h hs => sat_restar (star_in (by rw [List.length_map]; exact hk) hs)) ?_
  refine Nx.turn [20, 21, 22, 23, 24, 25, 26, 27] [0] [M'.sp] rfl (fun r h hs => ?_) ?_
  · subst hM'
    refine sat_restar ?_
    have e1 := flat_setAt RWrH.enc_len hxk (j := 2) (by decide) hye
    simp only [RefH.parts, RefH.cells, List.length_set, List.map_set, e1]
    exact hs
  have em : M'.b = M.b := by rw [hM']
  have ep : M'.p = { M.p with writers := M.p.writers.modify k fun w => { w with calls := w.calls ++ [l] } } := by
    have := map_set_modify (f := RWrH.m) (u := fun w => { w with calls := w.calls ++ [l] }) hxk (y := y) (by rw [hy]; simp [RWrH.m])
    rw [hM']
    simp only [RefH.p, this]
  repeat' (first | ((first | refine BrM.t rfl ?_ | refine BrM.f rfl ?_ | refine BrM.dec (fun _ => ?_) (fun _ => ?_) | refine BrM.mk (fun _ => ?_) (fun _ => ?_) | refine Ar.i64 (by omega) (by omega) ?_ | refine gO rfl ?_ | refine gP rfl (by repeat constructor) ?_) <;> conv => whnf) | (refine atRet ?_; refine Nx.ret [0] Try.func30 rfl rfl ?_; (exact ⟨M', em, ep, rfl, rfl⟩)) | refine Nx.late ?_)
theorem rLength_ok (M : RefH) (hm : MdV M.p) (ring : Int) {N : Nat} (hN : eventF M.p.facts ring N = none) (hN2 : N ≤ 4611686018427387904) : FnOk Try.prog 32 [ptr M.b, .int .i64 ring] [M.sp] (fun v Q => ∃ n : Nat, v = .int .i64 n ∧ ((∀ j : Nat, j < n → (eventF M.p.facts ring j).isSome = true) ∧ eventF M.p.facts ring n = none) ∧ Q = [M.sp]) := by
  refine FnOk.start Try.func32 rfl rfl rfl rfl fun F os tape output => ?_
  refine go 200 ?_
  conv => whnf
  repeat' (first | ((first | refine BrM.t rfl ?_ | refine BrM.f rfl ?_ | refine BrM.dec (fun _ => ?_) (fun _ => ?_) | refine BrM.mk (fun _ => ?_) (fun _ => ?_) | refine Ar.i64 (by omega) (by omega) ?_ | refine gO rfl ?_ | refine gP rfl (by repeat constructor) ?_) <;> conv => whnf) | (fail) | refine Nx.late ?_)
  refine Nx.loop (X := Nat) (fun j => j ≤ N ∧ ∀ q : Nat, q < j → (eventF M.p.facts ring q).isSome = true) (fun j => N - j)
    (fun j => [(0, .c (.v (ptr M.b))), (1, iv ring), (5, iv j)]) (fun _ => []) [] (fun _ => [(0, M.sp)]) 0 ⟨Nat.zero_le _, fun i hi => by omega⟩ ?_ ?_ ?_ ?_ ?_
  all_goals repeat (first | exact .nil _ | refine .cons rfl ?_ | refine .cons rfl rfl ?_ | refine .cons rfl rfl rfl ?_ | refine .cons' rfl (fun _ => rfl) ?_)
  intro j ⟨hj, hyes⟩ ih
  have hE := rEvent_ok M hm ring j
  cases hev : eventF M.p.facts ring j with
  | none =>
    rw [hev] at hE
    repeat' (first | ((first | refine BrM.t rfl ?_ | refine BrM.f rfl ?_ | refine BrM.dec (fun _ => ?_) (fun _ => ?_) | refine BrM.mk (fun _ => ?_) (fun _ => ?_) | refine Ar.i64 (by omega) (by omega) ?_ | refine gO rfl ?_ | refine gP rfl (by repeat constructor) ?_) <;> conv => whnf) | (refine atCall 13 ?_; refine cE [0] [0] rfl rfl rfl rfl rfl (hE) rfl ?_) | (refine atRet ?_; refine Nx.ret [0] Try.func32 rfl rfl ?_; (exact ⟨j, rfl, ⟨hyes, hev⟩, rfl⟩)) | refine Nx.late ?_)
  | some e =>
    rw [hev] at hE
    have hjN : j < N := by
      rcases Nat.lt_or_eq_of_le hj with h | h
      · exact h
      · rw [h] at hev; rw [hev] at hN; cases hN
    repeat' (first | ((first | refine BrM.t rfl ?_ | refine BrM.f rfl ?_ | refine BrM.dec (fun _ => ?_) (fun _ => ?_) | refine BrM.mk (fun _ => ?_) (fun _ => ?_) | refine Ar.i64 (by omega) (by omega) ?_ | refine gO rfl ?_ | refine gP rfl (by repeat constructor) ?_) <;> conv => whnf) | (refine atCall 13 ?_; refine cE [0] [0] rfl rfl rfl rfl rfl (hE) rfl ?_) | refine Nx.late ?_)
    refine (ih (j + 1) ⟨by omega, fun q hq => ?_⟩ (by omega)).weak ?_ ?_ ?_ ?_
    · by_cases e : q = j
      · subst e; rw [hev]; rfl
      · exact hyes q (by omega)
    · exact .cons rfl rfl (.cons rfl rfl (.cons rfl (by simp) (.nil _)))
    all_goals repeat (first | exact .nil _ | refine .cons rfl ?_ | refine .cons rfl rfl ?_ | refine .cons rfl rfl rfl ?_ | refine .cons' rfl (fun _ => rfl) ?_)
end Go.Proofs.Ytngfadijcpnblaa

/- The reference: AddPool. -/
namespace Go.Proofs.Ytngfadijcpnblaa
open Go.RowKit
set_option maxRecDepth 20000
set_option maxHeartbeats 4000000
attribute [local irreducible] Nx Ar BrM headC OneC HoC AftC planHead endF
theorem rAddPool_ok (M : RefH) (hm : MdV M.p) (ring start : Int) (who ahead : List Int) (wA : Option Addr) (wc : Nat) (aA : Option Addr) (ac : Nat) (hw : who.length ≤ 1000) (ha : ahead.length ≤ 1000) :
    FnOk Try.prog 29 [ptr M.b, .int .i64 ring, .int .i64 start, .slice wA who.length wc, .slice aA ahead.length ac] [M.sp, rdS wA who.length 1 (who.flatMap inC), rdS aA ahead.length 1 (ahead.flatMap inC)] (TkQ M.b (M.p.addPool ring start who ahead)) := by
  obtain ⟨hl8, hl5, hl2⟩ := hm.lens
  have hLw : Sees (rdS wA who.length 1 (who.flatMap inC)) wA who.length 1 (who.flatMap inC) := rdS_sees _ _ _ _
  have hbe := rBehind_ok M hm ring ahead aA ac ha
  obtain ⟨nn, hnn⟩ : ∃ nn : Int, nn = min (who.length : Int) 16 := ⟨_, rfl⟩
  have hf := rFresh_ok M hm nn ring (by omega) (by omega)
  unfold MdR.addPool
  rw [← hnn]
  by_cases h1 : M.p.fresh nn ring ≠ 0
  · rw [if_pos h1]
    generalize M.p.fresh nn ring = fr at hf h1 ⊢
    by_cases hl : 16 < who.length
    · have e : nn = 16 := by omega
      rw [e] at hf
      refine FnOk.start Try.func29 rfl rfl rfl rfl fun F os tape output => ?_
      refine go 200 ?_
      conv => whnf
      repeat' (first | ((first | refine BrM.yes (by omega) ?_ | refine BrM.not (by omega) ?_ | refine BrM.t rfl ?_ | refine BrM.f rfl ?_ | refine BrM.dec (fun _ => ?_) (fun _ => ?_) | refine BrM.mk (fun _ => ?_) (fun _ => ?_) | refine Ar.i64 (by omega) (by omega) ?_ | refine gO rfl ?_ | refine gP rfl (by repeat constructor) ?_) <;> conv => whnf) | (refine atCall 50 ?_; refine cE [0] [0] rfl rfl rfl rfl rfl (hf) rfl ?_) | (refine atRet ?_; refine Nx.ret [0] Try.func29 rfl rfl ?_; (exact TkQ.same)) | refine Nx.late ?_)
    · have e : nn = who.length := by omega
      rw [e] at hf
      refine FnOk.start Try.func29 rfl rfl rfl rfl fun F os tape output => ?_
      refine go 200 ?_
      conv => whnf
      repeat' (first | ((first | refine BrM.yes (by omega) ?_ | refine BrM.not (by omega) ?_ | refine BrM.t rfl ?_ | refine BrM.f rfl ?_ | refine BrM.dec (fun _ => ?_) (fun _ => ?_) | refine BrM.mk (fun _ => ?_) (fun _ => ?_) | refine Ar.i64 (by omega) (by omega) ?_ | refine gO rfl ?_ | refine gP rfl (by repeat constructor) ?_) <;> conv => whnf) | (refine atCall 50 ?_; refine cE [0] [0] rfl rfl rfl rfl rfl (hf) rfl ?_) | (refine atRet ?_; refine Nx.ret [0] Try.func29 rfl rfl ?_; (exact TkQ.same)) | refine Nx.late ?_)
  rw [if_neg h1]
  have h1' : M.p.fresh nn ring = 0 := by omega
  rw [h1'] at hf
  by_cases h2 : who.length = 0 ∨ 16 < who.length
  · rw [if_pos h2]
    by_cases hl : 16 < who.length
    · have e : nn = 16 := by omega
      rw [e] at hf
      refine FnOk.start Try.func29 rfl rfl rfl rfl fun F os tape output => ?_
      refine go 200 ?_
      conv => whnf
      repeat' (first | ((first | refine BrM.yes (by omega) ?_ | refine BrM.not (by omega) ?_ | refine BrM.t rfl ?_ | refine BrM.f rfl ?_ | refine BrM.dec (fun _ => ?_) (fun _ => ?_) | refine BrM.mk (fun _ => ?_) (fun _ => ?_) | refine Ar.i64 (by omega) (by omega) ?_ | refine gO rfl ?_ | refine gP rfl (by repeat constructor) ?_) <;> conv => whnf) | (refine atCall 50 ?_; refine cE [0] [0] rfl rfl rfl rfl rfl (hf) rfl ?_) | (refine atRet ?_; refine Nx.ret [0] Try.func29 rfl rfl ?_; (exact TkQ.same)) | refine Nx.late ?_)
    · have e : nn = who.length := by omega
      rw [e] at hf
      refine FnOk.start Try.func29 rfl rfl rfl rfl fun F os tape output => ?_
      refine go 200 ?_
      conv => whnf
      repeat' (first | ((first | refine BrM.yes (by omega) ?_ | refine BrM.not (by omega) ?_ | refine BrM.t rfl ?_ | refine BrM.f rfl ?_ | refine BrM.dec (fun _ => ?_) (fun _ => ?_) | refine BrM.mk (fun _ => ?_) (fun _ => ?_) | refine Ar.i64 (by omega) (by omega) ?_ | refine gO rfl ?_ | refine gP rfl (by repeat constructor) ?_) <;> conv => whnf) | (refine atCall 50 ?_; refine cE [0] [0] rfl rfl rfl rfl rfl (hf) rfl ?_) | (refine atRet ?_; refine Nx.ret [0] Try.func29 rfl rfl ?_; (exact TkQ.same)) | refine Nx.late ?_)
  rw [if_neg h2]
  have e : nn = who.length := by omega
  rw [e] at hf
  by_cases h4 : start < 0 ∨ 4611686018427387904 < start
  · rw [if_pos h4]
    refine FnOk.start Try.func29 rfl rfl rfl rfl fun F os tape output => ?_
    refine go 200 ?_
    conv => whnf
    repeat' (first | ((first | refine BrM.yes (by omega) ?_ | refine BrM.not (by omega) ?_ | refine BrM.t rfl ?_ | refine BrM.f rfl ?_ | refine BrM.dec (fun _ => ?_) (fun _ => ?_) | refine BrM.mk (fun _ => ?_) (fun _ => ?_) | refine Ar.i64 (by omega) (by omega) ?_ | refine gO rfl ?_ | refine gP rfl (by repeat constructor) ?_) <;> conv => whnf) | (refine atCall 50 ?_; refine cE [0] [0] rfl rfl rfl rfl rfl (hf) rfl ?_) | (refine atRet ?_; refine Nx.ret [0] Try.func29 rfl rfl ?_; (exact TkQ.same)) | refine Nx.late ?_)
  rw [if_neg h4]
  refine FnOk.start Try.func29 rfl rfl rfl rfl fun F os tape output => ?_
  refine go 200 ?_
  conv => whnf
  repeat' (first | ((first | refine BrM.not (by omega) ?_ | refine BrM.t rfl ?_ | refine BrM.f rfl ?_ | refine BrM.dec (fun _ => ?_) (fun _ => ?_) | refine BrM.mk (fun _ => ?_) (fun _ => ?_) | refine Ar.i64 (by omega) (by omega) ?_ | refine gO rfl ?_ | refine gP rfl (by repeat constructor) ?_) <;> conv => whnf) | (refine atCall 50 ?_; refine cE [0] [0] rfl rfl rfl rfl rfl (hf) rfl ?_) | refine Nx.late ?_)
  refine Nx.loop (X := Nat) (fun j => j ≤ who.length ∧ ∀ q, (hq : q < j) → (hl : q < who.length) → M.p.of who[q] = none ∧ M.p.at who[q] ring = none ∧ ∀ i, (hi : i < q) → who[i] ≠ who[q]) (fun j => who.length - j)
    (fun j => [(0, .c (.v (ptr M.b))), (1, iv ring), (2, iv start), (3, sl wA who.length wc), (4, sl aA ahead.length ac), (13, iv j)]) (fun _ => []) [] (fun _ => [(0, M.sp), (1, rdS wA who.length 1 (who.flatMap inC)), (2, rdS aA ahead.length 1 (ahead.flatMap inC))]) 0 ⟨Nat.zero_le _, fun q hq hl => by omega⟩ ?_ ?_ ?_ ?_ ?_
  all_goals repeat (first | exact .nil _ | refine .cons rfl ?_ | refine .cons rfl rfl ?_ | refine .cons rfl rfl rfl ?_ | refine .cons' rfl (fun _ => rfl) ?_)
  intro j ⟨hj, hyes⟩ ih
  by_cases hlt : j < who.length
  · have hof := rOf_ok M hm who[j]
    have hat := rAt_ok M hm who[j] ring
    cases h5 : M.p.of who[j] with
    | some k =>
      rw [h5, ixS] at hof
      rw [rtwice_true hlt (.inl (by rw [h5]; rfl)), if_pos rfl]
      repeat' (first | ((first | refine BrM.yes (by omega) ?_ | refine BrM.t rfl ?_ | refine BrM.f rfl ?_ | refine BrM.dec (fun _ => ?_) (fun _ => ?_) | refine BrM.mk (fun _ => ?_) (fun _ => ?_) | refine Ar.i64 (by omega) (by omega) ?_ | refine gO rfl ?_ | refine gP rfl (by repeat constructor) ?_) <;> conv => whnf) | (refine atIdx ?_; refine Nx.idx 1 (j := j) rfl rfl rfl Try.underlying35 rfl rfl rfl inC_len hLw rfl (by omega) (by omega) fun _ _ _ => ?_) | (refine atLoad ?_; first | (refine Nx.load1 1 rfl rfl rfl rfl (SeesAt.sub (by assumption) _ rfl) rfl ?_) | (refine Nx.load1 1 rfl rfl rfl rfl (by assumption) rfl ?_) | (refine Nx.load 1 rfl rfl rfl rfl (by assumption) rfl rfl ?_)) | (refine atCall 51 ?_; refine cE [0] [0] rfl rfl rfl rfl rfl (hof) rfl ?_) | (refine atRet ?_; refine Nx.ret [0] Try.func29 rfl rfl ?_; (exact TkQ.same)) | refine Nx.late ?_)
    | none =>
    rw [h5, ixN] at hof
    cases h6 : M.p.at who[j] ring with
    | some k =>
      rw [h6, ixS] at hat
      rw [rtwice_true hlt (.inr (.inl (by rw [h6]; rfl))), if_pos rfl]
      repeat' (first | ((first | refine BrM.yes (by omega) ?_ | refine BrM.not (by omega) ?_ | refine BrM.t rfl ?_ | refine BrM.f rfl ?_ | refine BrM.dec (fun _ => ?_) (fun _ => ?_) | refine BrM.mk (fun _ => ?_) (fun _ => ?_) | refine Ar.i64 (by omega) (by omega) ?_ | refine gO rfl ?_ | refine gP rfl (by repeat constructor) ?_) <;> conv => whnf) | (refine atIdx ?_; refine Nx.idx 1 (j := j) rfl rfl rfl Try.underlying35 rfl rfl rfl inC_len hLw rfl (by omega) (by omega) fun _ _ _ => ?_) | (refine atLoad ?_; first | (refine Nx.load1 1 rfl rfl rfl rfl (SeesAt.sub (by assumption) _ rfl) rfl ?_) | (refine Nx.load1 1 rfl rfl rfl rfl (by assumption) rfl ?_) | (refine Nx.load 1 rfl rfl rfl rfl (by assumption) rfl rfl ?_)) | (refine atCall 51 ?_; refine cE [0] [0] rfl rfl rfl rfl rfl (hof) rfl ?_) | (refine atCall 52 ?_; refine cE [0] [0] rfl rfl rfl rfl rfl (hat) rfl ?_) | (refine atRet ?_; refine Nx.ret [0] Try.func29 rfl rfl ?_; (exact TkQ.same)) | refine Nx.late ?_)
    | none =>
    rw [h6, ixN] at hat
    repeat' (first | ((first | refine BrM.yes (by omega) ?_ | refine BrM.not (by omega) ?_ | refine BrM.t rfl ?_ | refine BrM.f rfl ?_ | refine BrM.dec (fun _ => ?_) (fun _ => ?_) | refine BrM.mk (fun _ => ?_) (fun _ => ?_) | refine Ar.i64 (by omega) (by omega) ?_ | refine gO rfl ?_ | refine gP rfl (by repeat constructor) ?_) <;> conv => whnf) | (refine atIdx ?_; refine Nx.idx 1 (j := j) rfl rfl rfl Try.underlying35 rfl rfl rfl inC_len hLw rfl (by omega) (by omega) fun _ _ _ => ?_) | (refine atLoad ?_; first | (refine Nx.load1 1 rfl rfl rfl rfl (SeesAt.sub (by assumption) _ rfl) rfl ?_) | (refine Nx.load1 1 rfl rfl rfl rfl (by assumption) rfl ?_) | (refine Nx.load 1 rfl rfl rfl rfl (by assumption) rfl rfl ?_)) | (refine atCall 51 ?_; refine cE [0] [0] rfl rfl rfl rfl rfl (hof) rfl ?_) | (refine atCall 52 ?_; refine cE [0] [0] rfl rfl rfl rfl rfl (hat) rfl ?_) | refine Nx.late ?_)
    refine Nx.loop (X := Nat) (fun i => i ≤ j ∧ ∀ q, (hq : q < i) → (hl : q < who.length) → who[q] ≠ who[j]) (fun i => j - i)
      (fun i => [(0, .c (.v (ptr M.b))), (1, iv ring), (2, iv start), (3, sl wA who.length wc), (4, sl aA ahead.length ac), (13, iv j), (14, iv i)]) (fun _ => []) [] (fun _ => [(0, M.sp), (1, rdS wA who.length 1 (who.flatMap inC)), (2, rdS aA ahead.length 1 (ahead.flatMap inC))]) 0 ⟨Nat.zero_le _, fun q hq hl => by omega⟩ ?_ ?_ ?_ ?_ ?_
    all_goals repeat (first | exact .nil _ | refine .cons rfl ?_ | refine .cons rfl rfl ?_ | refine .cons rfl rfl rfl ?_ | refine .cons' rfl (fun _ => rfl) ?_)
    intro i ⟨hi, hno⟩ ih2
    by_cases hlt2 : i < j
    · have hil : i < who.length := by omega
      by_cases h8 : who[i] = who[j]
      · rw [rtwice_true hlt (.inr (.inr (.inr ⟨i, hlt2, h8⟩))), if_pos rfl]
        repeat' (first | ((first | refine BrM.yes (by omega) ?_ | refine BrM.t rfl ?_ | refine BrM.f rfl ?_ | refine BrM.dec (fun _ => ?_) (fun _ => ?_) | refine BrM.mk (fun _ => ?_) (fun _ => ?_) | refine Ar.i64 (by omega) (by omega) ?_ | refine gO rfl ?_ | refine gP rfl (by repeat constructor) ?_) <;> conv => whnf) | (refine dN 19 [1] [0,4,8,13,16,20,24,29,32] rfl (by kernel_rfl) rfl (by kernel_rfl) rfl (by repeat constructor) rfl ?_) | (refine atHoIdx ?_; refine Nx.hoIdx 1 (j := j) rfl rfl rfl Try.underlying35 rfl rfl rfl inC_len hLw rfl (by omega) (by omega) fun _ _ _ => ?_) | (refine atHoIdx ?_; refine Nx.hoIdx 1 (j := i) rfl rfl rfl Try.underlying35 rfl rfl rfl inC_len hLw rfl (by omega) (by omega) fun _ _ _ => ?_) | (refine atHoLoad ?_; first | refine hL1 rfl rfl rfl rfl (SeesAt.sub (by assumption) _ rfl) (by repeat constructor) rfl ?_ | refine hL1 rfl rfl rfl rfl (by assumption) (by repeat constructor) rfl ?_ | refine hLm rfl rfl rfl rfl (by assumption) (by repeat constructor) rfl rfl ?_) | (refine atRet ?_; refine Nx.ret [0] Try.func29 rfl rfl ?_; (exact TkQ.same)) | refine Nx.late ?_)
      · repeat' (first | ((first | refine BrM.yes (by omega) ?_ | refine BrM.not (by omega) ?_ | refine BrM.t rfl ?_ | refine BrM.f rfl ?_ | refine BrM.dec (fun _ => ?_) (fun _ => ?_) | refine BrM.mk (fun _ => ?_) (fun _ => ?_) | refine Ar.i64 (by omega) (by omega) ?_ | refine gO rfl ?_ | refine gP rfl (by repeat constructor) ?_) <;> conv => whnf) | (refine dN 19 [1] [0,4,8,13,16,20,24,29,32] rfl (by kernel_rfl) rfl (by kernel_rfl) rfl (by repeat constructor) rfl ?_) | (refine atHoIdx ?_; refine Nx.hoIdx 1 (j := j) rfl rfl rfl Try.underlying35 rfl rfl rfl inC_len hLw rfl (by omega) (by omega) fun _ _ _ => ?_) | (refine atHoIdx ?_; refine Nx.hoIdx 1 (j := i) rfl rfl rfl Try.underlying35 rfl rfl rfl inC_len hLw rfl (by omega) (by omega) fun _ _ _ => ?_) | (refine atHoLoad ?_; first | refine hL1 rfl rfl rfl rfl (SeesAt.sub (by assumption) _ rfl) (by repeat constructor) rfl ?_ | refine hL1 rfl rfl rfl rfl (by assumption) (by repeat constructor) rfl ?_ | refine hLm rfl rfl rfl rfl (by assumption) (by repeat constructor) rfl rfl ?_) | refine Nx.late ?_)
        refine (ih2 (i + 1) ⟨by omega, fun q hq hl => ?_⟩ (by omega)).weak ?_ ?_ ?_ ?_
        · by_cases e : q = i
          · subst e; exact h8
          · exact hno q (by omega) hl
        all_goals repeat (first | exact .nil _ | refine .cons rfl ?_ | refine .cons rfl rfl ?_ | refine .cons rfl rfl rfl ?_ | refine .cons' rfl (fun _ => rfl) ?_)
    · repeat' (first | ((first | refine BrM.not (by omega) ?_ | refine BrM.t rfl ?_ | refine BrM.f rfl ?_ | refine BrM.dec (fun _ => ?_) (fun _ => ?_) | refine BrM.mk (fun _ => ?_) (fun _ => ?_) | refine Ar.i64 (by omega) (by omega) ?_ | refine gO rfl ?_ | refine gP rfl (by repeat constructor) ?_) <;> conv => whnf) | refine Nx.late ?_)
      refine (ih (j + 1) ⟨by omega, fun q hq hl' => ?_⟩ (by omega)).weak ?_ ?_ ?_ ?_
      · by_cases e : q = j
        · subst e
          exact ⟨h5, h6, fun i hi e => hno i (by omega) (by omega) e⟩
        · exact hyes q (by omega) hl'
      all_goals repeat (first | exact .nil _ | refine .cons rfl ?_ | refine .cons rfl rfl ?_ | refine .cons rfl rfl rfl ?_ | refine .cons' rfl (fun _ => rfl) ?_)
  rw [rtwice_false (fun q hq => ⟨(hyes q (by omega) hq).1, (hyes q (by omega) hq).2.1, by simp, (hyes q (by omega) hq).2.2⟩), if_neg (by decide)]
  refine Nx.also 2 7 (rdS aA ahead.length 1 (ahead.flatMap inC)) rfl (fun _ _ h => h) ?_
  by_cases h5 : M.p.behind ring ahead ≠ 0
  · rw [if_pos h5]
    generalize M.p.behind ring ahead = be at hbe h5 ⊢
    repeat' (first | ((first | refine BrM.yes (by omega) ?_ | refine BrM.not (by omega) ?_ | refine BrM.t rfl ?_ | refine BrM.f rfl ?_ | refine BrM.dec (fun _ => ?_) (fun _ => ?_) | refine BrM.mk (fun _ => ?_) (fun _ => ?_) | refine Ar.i64 (by omega) (by omega) ?_ | refine gO rfl ?_ | refine gP rfl (by repeat constructor) ?_) <;> conv => whnf) | (refine atCall 53 ?_; refine cE [0,2] [0] rfl rfl rfl rfl rfl (hbe) rfl ?_) | (refine atRet ?_; refine Nx.ret [0] Try.func29 rfl rfl ?_; (exact TkQ.same)) | refine Nx.late ?_)
  rw [if_neg h5]
  have h5' : M.p.behind ring ahead = 0 := by omega
  rw [h5'] at hbe
  repeat' (first | ((first | refine BrM.not (by omega) ?_ | refine BrM.t rfl ?_ | refine BrM.f rfl ?_ | refine BrM.dec (fun _ => ?_) (fun _ => ?_) | refine BrM.mk (fun _ => ?_) (fun _ => ?_) | refine Ar.i64 (by omega) (by omega) ?_ | refine gO rfl ?_ | refine gP rfl (by repeat constructor) ?_) <;> conv => whnf) | (refine atCall 53 ?_; refine cE [0,2] [0] rfl rfl rfl rfl rfl (hbe) rfl ?_) | refine Nx.late ?_)
  refine Nx.loop (X := RpX) (fun x => x.j ≤ who.length ∧ x.M.b = M.b ∧ x.M.pools = M.pools ∧ x.M.p = { M.p with readers := M.p.readers ++ (who.take x.j).map fun a => (⟨a, ring, start, M.p.pools, ahead⟩ : RdM) }) (fun x => who.length - x.j)
    (fun x => [(0, .c (.v (ptr M.b))), (1, iv ring), (2, iv start), (3, sl wA who.length wc), (4, sl aA ahead.length ac), (16, iv x.j)]) (fun _ => []) [] (fun x => [(0, x.M.sp), (1, rdS wA who.length 1 (who.flatMap inC)), (7, rdS aA ahead.length 1 (ahead.flatMap inC))]) ⟨M, 0⟩ ⟨Nat.zero_le _, rfl, rfl, by simp⟩ ?_ ?_ ?_ ?_ ?_
  all_goals repeat (first | exact .nil _ | refine .cons rfl ?_ | refine .cons rfl rfl ?_ | refine .cons rfl rfl rfl ?_ | refine .cons' rfl (fun _ => rfl) ?_)
  clear ih hyes hj hlt j
  intro ⟨X, j⟩ ⟨hj, hb, hpo, hp⟩ ih
  dsimp only at hj hb hpo hp ih ⊢
  have xlr : X.readers.length = M.readers.length + min j who.length := by
    have := congrArg (fun p => p.readers.length) hp
    simpa [RefH.p] using this
  have hX : SeesAt X.sp M.b 0 X.cells := hb ▸ X.seeB
  have x3 : SeesAt X.sp M.b (addN 0 3) [.int .i64 M.pools] := by rw [← hpo]; exact hX.sub 3 rfl
  clear hX
  by_cases hlt : j < who.length
  · have hadd := rAdd_ok X (by omega) who[j] ring start M.pools ahead aA ac ha
    rw [hb] at hadd
    refine Nx.also 7 9 (rdS aA ahead.length 1 (ahead.flatMap inC)) rfl (fun _ _ h => h) ?_
    repeat' (first | ((first | refine BrM.yes (by omega) ?_ | refine BrM.t rfl ?_ | refine BrM.f rfl ?_ | refine BrM.dec (fun _ => ?_) (fun _ => ?_) | refine BrM.mk (fun _ => ?_) (fun _ => ?_) | refine Ar.i64 (by omega) (by omega) ?_ | refine gO rfl ?_ | refine gP rfl (by repeat constructor) ?_) <;> conv => whnf) | (refine dN 27 [0,1] [0,4,8,12,17,20,24,28,32,36,41,44,51] rfl (by kernel_rfl) rfl (by kernel_rfl) rfl (by repeat constructor) rfl ?_) | (refine atHoIdx ?_; refine Nx.hoIdx 1 (j := j) rfl rfl rfl Try.underlying35 rfl rfl rfl inC_len hLw rfl (by omega) (by omega) fun _ _ _ => ?_) | (refine atHoLoad ?_; first | refine hL1 rfl rfl rfl rfl (SeesAt.sub (by assumption) _ rfl) (by repeat constructor) rfl ?_ | refine hL1 rfl rfl rfl rfl (by assumption) (by repeat constructor) rfl ?_ | refine hLm rfl rfl rfl rfl (by assumption) (by repeat constructor) rfl rfl ?_) | (refine (atCall 54) ?_; refine Nx.call [0,9] [0] rfl rfl rfl rfl rfl (hadd) rfl fun v Q hQ => ?_; obtain ⟨M2,em2,ep2,el2,rfl⟩ := hQ) | refine Nx.late ?_)
    refine (ih ⟨M2, j + 1⟩ ⟨by dsimp only; omega, em2, el2.trans hpo, ?_⟩ (by dsimp only; omega)).weak ?_ ?_ ?_ ?_
    · rw [ep2, hp]
      have e1 : M.pools = M.p.pools := rfl
      rw [e1, List.take_add_one, List.getElem?_eq_getElem hlt]
      simp only [List.map_append, List.map_cons, List.map_nil, Option.toList_some, List.append_assoc]
    all_goals repeat (first | exact .nil _ | refine .cons rfl ?_ | refine .cons rfl rfl ?_ | refine .cons rfl rfl rfl ?_ | refine .cons' rfl (fun _ => rfl) ?_)
  · have e : who.take j = who := List.take_of_length_le (by omega)
    rw [e] at hp
    have hpb := hm.p0
    replace hpb : 0 ≤ M.pools ∧ M.pools ≤ 200 := hpb
    have hset := RefH.set3 X (M.pools + 1)
    obtain ⟨Y, hY⟩ : ∃ Y : RefH, Y = { X with pools := M.pools + 1 } := ⟨_, rfl⟩
    rw [← hY, hb] at hset
    have eb : Y.b = M.b := by rw [hY]; exact hb
    have ep : Y.p = { M.p with pools := M.p.pools + 1, readers := M.p.readers ++ who.map fun a => (⟨a, ring, start, M.p.pools, ahead⟩ : RdM) } := by
      have e1 : Y.p = { X.p with pools := M.pools + 1 } := by rw [hY]; rfl
      rw [e1, hp]; rfl
    repeat' (first | ((first | refine BrM.not (by omega) ?_ | refine BrM.t rfl ?_ | refine BrM.f rfl ?_ | refine BrM.dec (fun _ => ?_) (fun _ => ?_) | refine BrM.mk (fun _ => ?_) (fun _ => ?_) | refine Ar.i64 (by omega) (by omega) ?_ | refine gO rfl ?_ | refine gP rfl (by repeat constructor) ?_) <;> conv => whnf) | (refine atLoad ?_; refine Nx.load1 0 rfl rfl rfl rfl (x3) rfl ?_) | (refine atStore ?_; refine Nx.storeW 0 Y.sp rfl rfl rfl rfl rfl rfl rfl rfl rfl hset ?_) | (refine atRet ?_; refine Nx.ret [0] Try.func29 rfl rfl ?_; (exact ⟨Y, eb, ep, rfl, rfl⟩)) | refine Nx.late ?_)
end Go.Proofs.Ytngfadijcpnblaa

/- The evaluator is sound. -/
namespace Go.Proofs.Ytngfadijcpnblaa
open Go.RowKit

theorem calls_of_ret {P : Program} {f : Nat} {fn : Func} {c : Code} {args : Array Value} {R : Value → List SP → Prop} {F : List SP} {w : World} (hf : P.funcs[f]? = some fn) (hb : fn.body = some c)
    (h : Ret ⟨P, f, fn, fn.ntmps, R, F, w.os, w.tape, w.output⟩ [.code c] { tmps := args ++ Array.replicate (fn.ntmps - args.size) undef, defers := [] } w) :
    Calls P f args w fun e w' => ∃ v Q, e = .returned v ∧ R v Q ∧ w'.os = w.os ∧ w'.tape = w.tape ∧ w'.output = w.output ∧ SatW (Q ++ F) w' := by
  intro cs
  obtain ⟨e, w', fr, ⟨v, Q, h1, h2, h3, h4, h5, h6⟩, hc, hfn, hl⟩ := h cs
  have henter : Frame.enter P f args .normal = (base ⟨P, f, fn, fn.ntmps, R, F, w.os, w.tape, w.output⟩).at { tmps := args ++ Array.replicate (fn.ntmps - args.size) undef, defers := [] } [.code c] := by
    simp [Frame.enter, Frame.at, hf, hb, base]
  rw [henter]
  exact ⟨e, w', fr, ⟨v, Q, h1, h2, h3, h4, h5, h6⟩, hc, hfn, hl⟩
theorem look_argG (β : Nat → Nat) : ∀ (vs : List SV) (k s : Nat) (x : SV), look (argG k vs) s = some x → k ≤ s ∧ (vs.map (SV.den β))[s - k]? = some (x.den β)
  | [], k, s, x, h => by cases h
  | v :: r, k, s, x, h => by
    simp only [argG, look_cons] at h
    by_cases e : k = s
    · subst e
      simp at h
      subst h
      simp
    · rw [if_neg e] at h
      obtain ⟨h1, h2⟩ := look_argG β r (k + 1) s x h
      refine ⟨by omega, ?_⟩
      rw [show s - k = (s - (k + 1)) + 1 from by omega]
      exact h2

/-- What was there as a region began. -/
def heldS (β0 : Nat → Nat) (m0 : Mem) (g0 : GMem) (F : List SP) : World → Prop := fun w => SatW (memSP β0 m0 ++ (gmSP β0 g0 ++ F)) w
def Shape (s : GS) (m0 : Mem) (g0 : GMem) (n0 : Nat) : Prop := (∃ n1, s.mem = n1 ++ m0 ∧ ∀ e ∈ n1, n0 ≤ e.1) ∧ (∃ n2, s.gm = n2 ++ g0 ∧ ∀ e ∈ n2, n0 ≤ e.1)
theorem Shape.held {g : Cx} {β β0 : Nat → Nat} {s : GS} {L : Res} {a : Act} {w : World} {m0 : Mem} {g0 : GMem} {n0 : Nat} (h : Shape s m0 g0 n0) (hr : RelG g β s L a w) (hag : agree n0 β0 β) (hm : ltM n0 m0) (hg : ltG n0 g0) : heldS β0 m0 g0 (L.map (·.2) ++ g.F) w := by
  obtain ⟨⟨n1, h1, _⟩, n2, h2, _⟩ := h
  have hs := hr.sat'
  rw [h1, h2] at hs
  unfold heldS
  rw [← memSP_agree hag hm, ← gmSP_agree hag hg]
  have e1 : memSP β (n1 ++ m0) = memSP β n1 ++ memSP β m0 := by simp [memSP]
  have e2 : gmSP β (n2 ++ g0) = gmSP β n2 ++ gmSP β g0 := by simp [gmSP]
  rw [e1, e2, List.append_assoc] at hs
  have h3 := hs.app_right.swapHead
  rw [List.append_assoc] at h3
  exact h3.app_right.swapHead
theorem heldIn_held {g : Cx} {β β0 : Nat → Nat} {s : GS} {L : Res} {a : Act} {w : World} {m0 : Mem} {g0 : GMem} {n0 : Nat} (h : heldIn m0 g0 s = true) (hr : RelG g β s L a w) (hag : agree n0 β0 β) (hm : ltM n0 m0) (hg : ltG n0 g0) : heldS β0 m0 g0 (L.map (·.2) ++ g.F) w := by
  simp only [heldIn, Bool.and_eq_true] at h
  unfold heldS
  rw [← memSP_agree hag hm, ← gmSP_agree hag hg]
  have h1 := sameM_ok (fun l => l) β (Y := gmSP β s.gm) h.1 hr.sat'
  have h2 : SatW (memSP β m0 ++ (gmSP β g0 ++ (L.map (·.2) ++ g.F))) w := sameG_ok (fun l => l) β (Y := memSP β m0) h.2 h1
  exact h2
theorem Keeps.shape {s s' : GS} {m0 : Mem} {g0 : GMem} {n0 : Nat} (h : Keeps n0 s s') (hs : Shape s m0 g0 n0) (hm : ltM n0 m0) (hg : ltG n0 g0) : Shape s' m0 g0 n0 :=
  h m0 g0 hs.1 hs.2 (fun e he => (hm e he).1) (fun e he => by have := (hg e he).1; omega)

section
variable {P : Program} {f : Nat} {fn : Func} {R : Value → List SP → Prop} {F : List SP} {os : Os} {tape : Nat → Question → Nat} {output : Array (Nat × ByteArray)} {β : Nat → Nat} {s : GS} {L : Res} {a : Act} {w : World}

theorem at_world (hr : RelG ⟨P, f, fn, fn.ntmps, R, F, os, tape, output⟩ β s L a w) (m0 : Mem) (g0 : GMem) (X : List SP) (w' : World) (h : SatW (memSP β m0 ++ (gmSP β g0 ++ X)) w') :
    RelG ⟨P, f, fn, fn.ntmps, R, X, w'.os, w'.tape, w'.output⟩ β { s with mem := m0, gm := g0 } [] a w' :=
  RelG.mk' hr.defers hr.size hr.env rfl rfl rfl (by simpa using h)

theorem lookR_sound {gl : Gl} {pre : List SP} (hgl : Glob gl pre F) {all : Array Oper} {Q : Exit → Act → World → Prop} {m0 : Mem} {g0 : GMem} {hold : Bool} {n0 : Nat} {β0 : Nat → Nat} {rest : PT} (hr : RelG ⟨P, f, fn, fn.ntmps, R, F, os, tape, output⟩ β s L a w)
    (hag : agree n0 β0 β) (hm : ltM n0 m0) (hg : ltG n0 g0) (hh : hold = true → heldS β0 m0 g0 (L.map (·.2) ++ F) w) {pi : Bool} {env' : Env} {i : Nat} : ∀ {rd : List Nat}, lookR gl P fn.ntmps all s.env m0 g0 hold rd = some (pi, env', i) →
    (∀ a', RelG ⟨P, f, fn, fn.ntmps, R, F, os, tape, output⟩ β { s with env := env' } L a' w → planRunT P all Q (heldS β0 m0 g0 (L.map (·.2) ++ F)) rest false a' w) →
    planRunT P all Q (heldS β0 m0 g0 (L.map (·.2) ++ F)) (mkP pi i rest) false a w
  | [], h, _ => by cases h
  | j :: rd, h, hk => by
    simp only [lookR] at h
    split at h <;> try (cases h; done)
    rename_i o ho
    have ho' : all[j]? = some o := by rw [getL_eq, Array.getElem?_toList] at ho; exact ho
    split at h <;> try (cases h; done)
    rename_i hd
    split at h <;> try (cases h; done)
    · rename_i hgd
      split at h <;> cases h
      rename_i hp
      exact ⟨o, undef, ho', .inr ⟨guardG_no hr hgd, rfl⟩, hk _ (RelG.putE (x := .c (.v undef)) hr hd hp)⟩
    · rename_i hgd
      have hw := guardG_yes hr hgd
      split at h
      · rename_i x hx
        split at h <;> cases h
        rename_i hp
        refine ⟨o, x.den β, ho', .inl ⟨hw, fun w' _ => ?_⟩, hk _ (hr.putE hd hp)⟩
        have h0 := at_world hr [] [] [] w' (SatW.nil w')
        exact outV_ok (pureX_ok h0 o) hx
      · split at h
        · exact lookR_sound hgl hr hag hm hg hh h hk
        · split at h
          · rename_i x hx
            split at h <;> cases h
            rename_i hp
            refine ⟨o, x.den β, ho', .inl ⟨hw, fun w' hw' => ?_⟩, hh rfl, hk _ (hr.putE hd hp)⟩
            have h0 := at_world hr m0 g0 (L.map (·.2) ++ F) w' (by
              rw [memSP_agree hag hm, gmSP_agree hag hg]
              exact hw')
            exact outV_ok (pureX_ok h0 o) hx
          · split at h
            · rename_i v hv
              split at h <;> cases h
              rename_i hp
              refine ⟨o, (ofV v).den β, ho', .inl ⟨hw, fun w' hw' => ?_⟩, hh rfl, hk _ (hr.putE hd hp)⟩
              rw [ofV_den]
              refine globX_ok hr (hgl (memSP β0 m0 ++ (gmSP β0 g0 ++ L.map (·.2))) w' ?_).1 hv
              simpa [heldS] using hw'
            · exact lookR_sound hgl hr hag hm hg hh h hk

theorem callF_run (hng : ∀ (f : Nat) (fn : Func), P.funcs[f]? = some fn → (fn.name == "runtime.NumGoroutine") = false) {f' : Nat} {fn' : Func} {c : Code} (hf : P.funcs[f']? = some fn') (hb : fn'.body = some c) (ars : Array Value) (w : World) : (callFunc f' ars).run P w = .ok (.enter f' ars) w := by
  have hname : ¬ fn'.name = "runtime.NumGoroutine" := by simpa using hng _ _ hf
  simp [callFunc, hf, hname, hb]

/-- Behind a call: the caller's state. -/
theorem back (hr : RelG ⟨P, f, fn, fn.ntmps, R, F, os, tape, output⟩ β s L a w) (hb : Bd s) {β' : Nat → Nat} (hag : agree s.nl β β') {t : GS} {w' : World} (h1 : w'.os = w.os) (h2 : w'.tape = w.tape) (h3 : w'.output = w.output)
    (hs : SatW ((memSP β' t.mem ++ (gmSP β' t.gm ++ [])) ++ (L.map (·.2) ++ F)) w') : RelG ⟨P, f, fn, fn.ntmps, R, F, os, tape, output⟩ β' ⟨s.env, t.mem, t.gm, t.nl, t.low⟩ L a w' := by
  have h0 := hr.agree hb hag
  refine RelG.mk' h0.defers h0.size h0.env (h1.trans h0.os) (h2.trans h0.tape) (h3.trans h0.output) ?_
  rw [List.append_nil, List.append_assoc] at hs
  exact hs
end

theorem slOf_ok {P : Program} {f : Nat} {fn : Func} {R : Value → List SP → Prop} {F : List SP} {os : Os} {tape : Nat → Question → Nat} {output : Array (Nat × ByteArray)} {β : Nat → Nat} {s : GS} {L : Res} {a : Act} {w : World}
    (hr : RelG ⟨P, f, fn, fn.ntmps, R, F, os, tape, output⟩ β s L a w) {v : SV} {l o : Nat} {ys : List Ce} (h : slOf s v = some (l, o, ys)) :
    ∃ c, v.den β = .slice (some ⟨β l, o, none⟩) ys.length c ∧ ys.length ≤ c ∧ β l < w.heap.size ∧ ∀ j y, ys[j]? = some y → w.cell? ⟨β l, o + j, none⟩ = some (y.den β) := by
  unfold slOf at h
  split at h <;> try (cases h; done)
  · rename_i l' o' n c
    split at h <;> try (cases h; done)
    rename_i hle
    split at h <;> try (cases h; done)
    rename_i t cs hl
    split at h <;> cases h
    obtain ⟨c1, c2⟩ := cutL_spec _ _ _ _ (by assumption)
    have hb := Rel.block hr hl
    refine ⟨c, by rw [c1]; rfl, by rw [c1]; simpa using hle, (Array.getElem?_eq_some_iff.1 hb).1, fun j y hy => ?_⟩
    have hj : j < n := by have := (List.getElem?_eq_some_iff.1 hy).1; omega
    rw [Rel.cell hr hl, c2 j hj, hy]; rfl
  · rename_i l' o' n e
    split at h <;> try (cases h; done)
    rename_i et nt sz cs hl
    split at h <;> try (cases h; done)
    rename_i hle
    split at h <;> cases h
    obtain ⟨c1, c2⟩ := cutL_spec _ _ _ _ (by assumption)
    obtain ⟨cur, hg⟩ := hr.gr hl
    have hle' : n + e ≤ nt := by simpa using hle
    have hcap := hg.cap
    refine ⟨β (l + 1) - e, by rw [c1]; rfl, by rw [c1]; omega, (Array.getElem?_eq_some_iff.1 hg.blk).1, fun j y hy => ?_⟩
    have hj : j < n := by have := (List.getElem?_eq_some_iff.1 hy).1; omega
    exact hg.cell ((c2 j hj).trans hy)
theorem strCe_ok : ∀ {ys : List Ce} {xs : List ByteArray}, strCe ys = some xs → ys = xs.map fun b => .v (.string b)
  | [], xs, h => by simp only [strCe, Option.some.injEq] at h; subst h; rfl
  | y :: r, xs, h => by
    unfold strCe at h
    split at h <;> try (cases h; done)
    · rename_i e; cases e
    · rename_i b r' e
      cases e
      split at h <;> cases h
      rename_i l hl
      rw [strCe_ok hl]; rfl
/-- What strings.Join does. -/
def JnOk (P : Program) (jn : Nat) : Prop :=
  Nat.ble jn 999999 = true → (∀ (ars : Array Value) (w : World), (callFunc jn ars).run P w = .ok (.enter jn ars) w) ∧
  ∀ (bk o c : Nat) (xs : List ByteArray) (sep : ByteArray) (w : World), (∀ (j : Nat) x, xs[j]? = some x → w.cell? ⟨bk, o + j, none⟩ = some (.string x)) → bk < w.heap.size → xs.length ≤ 140737488355328 → xs.length ≤ c → (Lib.join (xs.map (·.data.toList)) sep.data.toList).length ≤ 140737488355328 →
    Calls P jn #[.slice (some ⟨bk, o, none⟩) xs.length c, .string sep] w fun e w' => e = .returned (.string ⟨(Lib.join (xs.map (·.data.toList)) sep.data.toList).toArray⟩) ∧ Below w.heap.size w w'
theorem joinX_ok {P : Program} {f : Nat} {fn : Func} {R : Value → List SP → Prop} {F : List SP} {os : Os} {tape : Nat → Question → Nat} {output : Array (Nat × ByteArray)} {β : Nat → Nat} {s : GS} {L : Res} {a : Act} {w : World}
    (hr : RelG ⟨P, f, fn, fn.ntmps, R, F, os, tape, output⟩ β s L a w) {jn f' : Nat} {vs : List SV} {b : ByteArray} (hj : JnOk P jn) (h : joinX jn s f' vs = some b) :
    (∀ (ars : Array Value) (w : World), (callFunc f' ars).run P w = .ok (.enter f' ars) w) ∧ Calls P f' (vs.map (SV.den β)).toArray w fun e w' => e = .returned (.string b) ∧ Below w.heap.size w w' := by
  unfold joinX at h
  split at h <;> try (cases h; done)
  rename_i hf
  obtain rfl : f' = jn := Nat.eq_of_beq_eq_true hf
  split at h <;> try (cases h; done)
  rename_i hjn
  replace hj := hj hjn
  refine ⟨hj.1, ?_⟩
  split at h <;> try (cases h; done)
  rename_i v sep
  split at h <;> try (cases h; done)
  rename_i l o ys hs
  split at h <;> try (cases h; done)
  rename_i xs hx
  split at h <;> try (cases h; done)
  rename_i h1
  split at h <;> try (cases h; done)
  rename_i h2
  cases h
  obtain ⟨c, e1, e2, e3, e4⟩ := slOf_ok hr hs
  have e5 := strCe_ok hx
  have e6 : ys.length = xs.length := by rw [e5, List.length_map]
  have := hj.2 (β l) o c xs sep w (fun j x hxj => by
    have := e4 j (.v (.string x)) (by rw [e5, List.getElem?_map, hxj]; rfl)
    exact this) e3 (by simpa using h1) (by omega) (by simpa using h2)
  have e7 : ([v, SV.c (.v (.string sep))].map (SV.den β)).toArray = #[.slice (some ⟨β l, o, none⟩) xs.length c, .string sep] := by
    simp only [List.map_cons, List.map_nil, e1, e6]
    rfl
  rw [e7]
  exact this

def GxOk (gl : Gl) (pre : List SP) (P : Program) (fn : Func) (s : GS) (c : GC) (r : GR) : Prop :=
  ∀ (f : Nat) (R : Value → List SP → Prop) (F : List SP) (os : Os) (tape : Nat → Question → Nat) (output : Array (Nat × ByteArray)) (β : Nat → Nat) (L : Res) (a : Act) (w : World), P.funcs[f]? = some fn → Glob gl pre F →
    RelG ⟨P, f, fn, fn.ntmps, R, F, os, tape, output⟩ β s L a w → Bd s →
    match c with
    | .run k => (∀ β', agree s.nl β β' → R (r.v.den β') (memSP β' r.s.mem ++ (gmSP β' r.s.gm ++ L.map (·.2)))) → Ret ⟨P, f, fn, fn.ntmps, R, F, os, tape, output⟩ k a w
    | .ops all rest k => (∀ β', agree s.nl β β' → R (r.v.den β') (memSP β' r.s.mem ++ (gmSP β' r.s.gm ++ L.map (·.2)))) → OpsC ⟨P, f, fn, fn.ntmps, R, F, os, tape, output⟩ all rest k a w
    | .dr all _ m0 g0 n0 hold => ∀ (β0 : Nat → Nat) (Q : Exit → Act → World → Prop), agree n0 β0 β → n0 ≤ s.nl → ltM n0 m0 → ltG n0 g0 → (hold = true → heldIn m0 g0 s = true) →
        (∀ β' a' w', agree s.nl β β' → RelG ⟨P, f, fn, fn.ntmps, R, F, os, tape, output⟩ β' r.s L a' w' → Q .normal a' w') → planRunT P all Q (heldS β0 m0 g0 (L.map (·.2) ++ F)) r.plan false a w
    | .al _ all _ m0 g0 n0 hold => ∀ (β0 : Nat → Nat) (Q : Exit → Act → World → Prop), agree n0 β0 β → n0 ≤ s.nl → ltM n0 m0 → ltG n0 g0 → (hold = true → heldIn m0 g0 s = true) →
        (∀ β' a' w', agree s.nl β β' → RelG ⟨P, f, fn, fn.ntmps, R, F, os, tape, output⟩ β' r.s L a' w' → Q .normal a' w') → ∀ b, planRunT P all Q (heldS β0 m0 g0 (L.map (·.2) ++ F)) r.plan b a w
    | .ef all i => ∃ o, all[i]? = some o ∧ Region.wanted o (yielded all a.tmps) = true ∧ ∀ (N : Act → World → Prop) (Q : Exit → Act → World → Prop),
        (∀ β' a' w', agree s.nl β β' → RelG ⟨P, f, fn, fn.ntmps, R, F, os, tape, output⟩ β' r.s L a' w' → N a' w') → o.wp P a w N Q

theorem ret_done {P : Program} {f : Nat} {fn : Func} {R : Value → List SP → Prop} {F : List SP} {os : Os} {tape : Nat → Question → Nat} {output : Array (Nat × ByteArray)} {β : Nat → Nat} {s : GS} {L : Res} {a : Act} {w : World} {k : List Item} {vs : List SV} {v : SV}
    (hf : P.funcs[f]? = some fn) (hr : RelG ⟨P, f, fn, fn.ntmps, R, F, os, tape, output⟩ β s L a w) (hk : ∀ cs, step P (lone ((base ⟨P, f, fn, fn.ntmps, R, F, os, tape, output⟩).at a k) cs w) = .next (lone { (base ⟨P, f, fn, fn.ntmps, R, F, os, tape, output⟩).at a k with mode := .returning } cs w))
    (hv : retG P s.env s.mem fn.results.toList = some vs) (ho : oneG vs = some v) (hR : R (v.den β) (memSP β s.mem ++ (gmSP β s.gm ++ L.map (·.2)))) : Ret ⟨P, f, fn, fn.ntmps, R, F, os, tape, output⟩ k a w :=
  Ret.leave (fr := default) hf hr.defers hk (retG_ok hr hv ho) ⟨_, _, rfl, hR, hr.os, hr.tape, hr.output, (by
    have := hr.sat'
    rw [List.append_assoc, List.append_assoc]
    exact this)⟩ rfl

set_option maxHeartbeats 8000000 in
theorem gx_sound {P : Program} {kn : Kn} (hex : ExOk P kn.ex kn.pre) (hjn : JnOk P kn.jn) (hng : ∀ (f : Nat) (fn : Func), P.funcs[f]? = some fn → (fn.name == "runtime.NumGoroutine") = false) (hmix : P.follows .mixedOrders = true) :
    ∀ (m : Nat) (fn : Func) (s : GS) (c : GC) (r : GR), gx P kn m fn s c = some r → GxOk kn.gl kn.pre P fn s c r
  | 0, _, _, _, _, h => by cases h
  | m + 1, fn, s, .run k, r, h => by
    have ih := gx_sound (P := P) (kn := kn) hex hjn hng hmix m
    have ig := gx_grow (P := P) (kn := kn) hex m
    intro f R F os tape output β L a w hf hgl hr hb hR
    simp only [gx] at h
    split at h <;> try (cases h; done)
    · exact Ret.one (fun cs => step_skip) (ih _ _ _ _ h f R F os tape output β L a w hf hgl hr hb hR)
    · exact Ret.one (fun cs => step_label) (ih _ _ _ _ h f R F os tape output β L a w hf hgl hr hb hR)
    · exact Ret.one (fun cs => step_inBlock) (ih _ _ _ _ h f R F os tape output β L a w hf hgl hr hb hR)
    · exact Ret.one (fun cs => step_lone_go (by simp [stepG, stepG.exec, Frame.at])) (ih _ _ _ _ h f R F os tape output β L a w hf hgl hr hb hR)
    · exact Ret.one (fun cs => step_seq) (ih _ _ _ _ h f R F os tape output β L a w hf hgl hr hb hR)
    · exact Ret.one (fun cs => step_block) (ih _ _ _ _ h f R F os tape output β L a w hf hgl hr hb hR)
    · exact Ret.one (fun cs => step_lone_go (by simp [stepG, stepG.exec, Frame.at])) (ih _ _ _ _ h f R F os tape output β L a w hf hgl hr hb hR)
    · exact Ret.one (fun cs => step_loop) (ih _ _ _ _ h f R F os tape output β L a w hf hgl hr hb hR)
    · exact Ret.one (fun cs => step_inLoop) (ih _ _ _ _ h f R F os tape output β L a w hf hgl hr hb hR)
    · split at h <;> try (cases h; done)
      rename_i k' hk
      exact Ret.one (fun cs => step_exit hk) (ih _ _ _ _ h f R F os tape output β L a w hf hgl hr hb hR)
    · split at h <;> try (cases h; done)
      · rename_i hc
        exact Ret.one (fun cs => step_cond (t := true) (nrm_evn hr hc)) (ih _ _ _ _ h f R F os tape output β L a w hf hgl hr hb hR)
      · rename_i hc
        exact Ret.one (fun cs => step_cond (t := false) (nrm_evn hr hc)) (ih _ _ _ _ h f R F os tape output β L a w hf hgl hr hb hR)
    · exact Ret.region (ih _ _ _ _ h f R F os tape output β L a w hf hgl hr hb hR)
    · rename_i ri ops k
      split at h <;> try (cases h; done)
      rename_i q hq
      split at h <;> try (cases h; done)
      rename_i hok
      split at h <;> try (cases h; done)
      rename_i hsel
      have hg := ig _ _ _ _ hq hb (heldOf_lt hb.mem hb.gm)
      have hr' : RelG ⟨P, f, fn, fn.ntmps, R, F, os, tape, output⟩ β s L a { w with drawn := w.drawn + 1 } := Rel.world hr rfl rfl rfl rfl
      refine Ret.code (wp_region_any hmix (wpX_any _ _ _ _ (S := heldS β (heldOf P ops s).1 (heldOf P ops s).2 (L.map (·.2) ++ F)) (late := isLateT q.plan) ?_))
      refine (plan_soundT hsel (fun c a w h => h) q.plan).1 _ _ a _ hok ?_
      refine ih _ _ _ _ hq f R F os tape output β L a _ hf hgl hr' hb β (Qn ⟨P, f, fn, fn.ntmps, R, F, os, tape, output⟩ k) (agree.refl _ _) (Nat.le_refl _) (heldOf_lt hb.mem hb.gm).1 (heldOf_lt hb.mem hb.gm).2 (fun h => h) ?_
      intro β' a' w' hag hr2
      exact ih _ _ _ _ h f R F os tape output β' L a' w' hf hgl hr2 (hg.grow.bd hb) (fun β'' h2 => hR β'' (hag.trans h2 hg.grow.nl))
    · split at h <;> try (cases h; done)
      rename_i vs hv
      split at h <;> cases h
      rename_i v ho
      exact ret_done hf hr (fun cs => step_ret) hv ho (hR β (agree.refl _ _))
    · split at h <;> try (cases h; done)
      rename_i vs hv
      split at h <;> cases h
      rename_i v ho
      exact ret_done hf hr (fun cs => step_end) hv ho (hR β (agree.refl _ _))
  | m + 1, fn, s, .ops all [] k, r, h => by
    have ih := gx_sound (P := P) (kn := kn) hex hjn hng hmix m
    intro f R F os tape output β L a w hf hgl hr hb hR
    simp only [gx] at h
    exact ih _ _ _ _ h f R F os tape output β L a w hf hgl hr hb hR
  | m + 1, fn, s, .ops all (o :: rest) k, r, h => by
    have ih := gx_sound (P := P) (kn := kn) hex hjn hng hmix m
    have ig := gx_grow (P := P) (kn := kn) hex m
    intro f R F os tape output β L a w hf hgl hr hb hR
    simp only [gx] at h
    split at h <;> try (cases h; done)
    · rename_i hg
      split at h <;> try (cases h; done)
      rename_i hd
      split at h <;> try (cases h; done)
      rename_i env hp
      have h1 : Grow s { s with env := env } := Grow.env (x := .c (.v undef)) (fun _ => trivial) hp
      exact OpsC.skipped (guardG_no hr hg) (ih _ _ _ _ h f R F os tape output β L _ w hf hgl (RelG.putE (x := .c (.v undef)) hr hd hp) (h1.bd hb) hR)
    · rename_i hg
      have hw := guardG_yes hr hg
      refine OpsC.wanted hw ?_
      split at h
      · rename_i x hx
        split at h <;> try (cases h; done)
        rename_i hd
        split at h <;> try (cases h; done)
        rename_i env hp
        have h1 : Grow s { s with env := env } := Grow.env (fun b => outV_lt (pureX_lt b.env b.mem b.gm o.op) hx) hp
        exact wp_value (outV_ok (pureX_ok hr o) hx) (ih _ _ _ _ h f R F os tape output β L _ w hf hgl (hr.putE hd hp) (h1.bd hb) hR)
      · split at h
        · rename_i v hv
          split at h <;> try (cases h; done)
          rename_i hd
          split at h <;> try (cases h; done)
          rename_i env hp
          have h1 : Grow s { s with env := env } := Grow.env (fun _ => ofV_lt _ v) hp
          have hgw : GlobW kn.gl w := (hgl (memSP β s.mem ++ (gmSP β s.gm ++ L.map (·.2))) w (by
            have := hr.sat'
            rw [List.append_assoc, List.append_assoc]
            exact this)).1
          refine wp_value (v := (ofV v).den β) ?_ (ih _ _ _ _ h f R F os tape output β L _ w hf hgl (hr.putE hd hp) (h1.bd hb) hR)
          rw [ofV_den]
          exact globX_ok hr hgw hv
        split at h
        · rename_i s' hs
          have h1 := effX_grow hs
          obtain ⟨β', a', w', hag, hr2, hwp⟩ := effX_step (g := ⟨P, f, fn, fn.ntmps, R, F, os, tape, output⟩) hr hb hs
          exact hwp _ _ (ih _ _ _ _ h f R F os tape output β' L a' w' hf hgl hr2 (h1.bd hb) (fun β'' h2 => hR β'' (hag.trans h2 h1.nl)))
        · split at h <;> try (cases h; done)
          rename_i f' vs hc
          split at h <;> try (cases h; done)
          rename_i hd
          have hrun0 := calleeG_ok hr hc
          split at h
          · rename_i x hx
            split at h <;> try (cases h; done)
            rename_i env hp
            have h1 : Grow s { s with env := env } := Grow.env (fun _ => (hex _ _ _ hx).1 _) hp
            rcases (hex _ _ _ hx).2 β with hv | hv
            · exact wp_value (hrun0.trans (hv w)) (ih _ _ _ _ h f R F os tape output β L _ w hf hgl (hr.putE hd hp) (h1.bd hb) hR)
            · show o.wp P a w _ _
              unfold Oper.wp
              rw [hrun0]
              show o.upon P a _ _ ((callFunc f' (vs.map (SV.den β)).toArray).run P w)
              rw [hv.1]
              have hpre : SatW (kn.pre ++ (memSP β s.mem ++ (gmSP β s.gm ++ (L.map (·.2) ++ F)))) w := by
                have h0 := (hgl (memSP β s.mem ++ (gmSP β s.gm ++ L.map (·.2))) w (by
                  have := hr.sat'
                  rw [List.append_assoc, List.append_assoc]
                  exact this)).2
                rw [List.append_assoc, List.append_assoc] at h0
                exact h0
              refine (hv.2 (memSP β s.mem ++ (gmSP β s.gm ++ (L.map (·.2) ++ F))) w hpre).mono ?_
              rintro e w' ⟨v, Q, rfl, rfl, e1, e2, e3, e4⟩
              have hr2 : RelG ⟨P, f, fn, fn.ntmps, R, F, os, tape, output⟩ β s L a w' := RelG.mk' hr.defers hr.size hr.env (e1.trans hr.os) (e2.trans hr.tape) (e3.trans hr.output) e4.app_right
              exact ih _ _ _ _ h f R F os tape output β L _ w' hf hgl (hr2.putE hd hp) (h1.bd hb) hR
          · split at h
            · rename_i b hjx
              split at h <;> try (cases h; done)
              rename_i env hp
              have h1 : Grow s { s with env := env } := Grow.env (x := .c (.v (.string _))) (fun _ => trivial) hp
              obtain ⟨hen, hcl⟩ := joinX_ok hr hjn hjx
              show o.wp P a w _ _
              unfold Oper.wp
              rw [hrun0]
              show o.upon P a _ _ ((callFunc f' (vs.map (SV.den β)).toArray).run P w)
              rw [hen]
              refine hcl.mono ?_
              rintro e w' ⟨rfl, hbw⟩
              have hle : PH.le (Ytngfadijcpnblaa.hw w) (Ytngfadijcpnblaa.hw w') := fun n o hn => by
                have hl : n < w.heap.size := (Array.getElem?_eq_some_iff.1 hn).1
                show w'.heap[n]? = some o
                rw [hbw.block n hl]; exact hn
              have hr2 : RelG ⟨P, f, fn, fn.ntmps, R, F, os, tape, output⟩ β s L a w' := RelG.mk' hr.defers hr.size hr.env (hbw.os.trans hr.os) (hbw.tape.trans hr.tape) (hbw.output.trans hr.output) (hr.sat'.more hle)
              exact ih _ _ _ _ h f R F os tape output β L _ w' hf hgl (RelG.putE (x := .c (.v (.string b))) hr2 hd hp) (h1.bd hb) hR
            split at h <;> try (cases h; done)
            rename_i fn' hf'
            split at h <;> try (cases h; done)
            rename_i c hbd
            split at h <;> try (cases h; done)
            rename_i hle
            split at h <;> try (cases h; done)
            rename_i q hq
            split at h <;> try (cases h; done)
            rename_i env hp
            have hl : ltE s.nl (argG 0 vs) := argG_lt vs 0 (calleeG_lt hb.env hc)
            have h1 := ig _ _ _ _ hq ⟨hl, hb.mem, hb.gm⟩ trivial
            have h2 : Grow s ⟨env, q.s.mem, q.s.gm, q.s.nl, minN s.low q.s.low⟩ := Grow.call (s := s) h1.grow (fun _ => hl) (fun b b' => (b.env.mono h1.grow.nl).putO (h1.v ⟨hl, b.mem, b.gm⟩) hp)
            have hle' : vs.length ≤ fn'.ntmps := by simpa using hle
            have hrel : RelG ⟨P, f', fn', fn'.ntmps, fun v Q => ∃ β', agree s.nl β β' ∧ v = q.v.den β' ∧ Q = memSP β' q.s.mem ++ (gmSP β' q.s.gm ++ []), L.map (·.2) ++ F, w.os, w.tape, w.output⟩ β ⟨argG 0 vs, s.mem, s.gm, s.nl, s.nl⟩ [] { tmps := (vs.map (SV.den β)).toArray ++ Array.replicate (fn'.ntmps - (vs.map (SV.den β)).toArray.size) undef, defers := [] } w := by
              refine RelG.mk' rfl (by simp; omega) ?_ rfl rfl rfl (by simpa using hr.sat')
              intro t x hx
              obtain ⟨_, h2⟩ := look_argG β vs 0 t x hx
              rw [Nat.sub_zero] at h2
              have hlt : t < (vs.map (SV.den β)).length := (List.getElem?_eq_some_iff.1 h2).1
              rw [Array.getElem?_append_left (by simpa using hlt)]
              simpa using h2
            have hcalls := calls_of_ret hf' hbd (ih _ _ _ _ hq f' _ _ _ _ _ β [] _ w hf' (Glob.app hgl) hrel ⟨hl, hb.mem, hb.gm⟩ (fun β' h3 => ⟨β', h3, rfl, rfl⟩))
            show o.wp P a w _ _
            unfold Oper.wp
            rw [hrun0]
            show o.upon P a _ _ ((callFunc f' (vs.map (SV.den β)).toArray).run P w)
            rw [callF_run hng hf' hbd]
            refine hcalls.mono ?_
            rintro e w' ⟨v, Q, rfl, ⟨β', hag, rfl, rfl⟩, e1, e2, e3, e4⟩
            have hr2 := (back hr hb hag (t := q.s) e1 e2 e3 e4).putE hd hp
            exact ih _ _ _ _ h f R F os tape output β' L _ w' hf hgl hr2 (h2.bd hb) (fun β'' h3 => hR β'' (hag.trans h3 h2.nl))
  | m + 1, fn, s, .dr all listed m0 g0 n0 hold, r, h => by
    have ih := gx_sound (P := P) (kn := kn) hex hjn hng hmix m
    have ig := gx_grow (P := P) (kn := kn) hex m
    intro f R F os tape output β L a w hf hgl hr hb β0 Q hag0 hn0 hm0 hg0 hsh hQ
    have hd1 : ltM s.nl m0 := hm0.mono hn0
    have hd2 : ltG s.nl g0 := hg0.mono hn0
    simp only [gx] at h
    split at h
    · cases h
      exact hQ β a w (agree.refl _ _) hr
    · split at h
      · rename_i pi env i hl
        split at h <;> cases h
        rename_i q hq
        have h1 := lookR_grow (fun _ => hd1) (fun _ => hd2) hl
        refine lookR_sound hgl hr hag0 hm0 hg0 (fun hh => heldIn_held (hsh hh) hr hag0 hm0 hg0) hl ?_
        intro a' hr2
        exact ih _ _ _ _ hq f R F os tape output β L a' w hf hgl hr2 (h1.bd hb) β0 Q hag0 hn0 hm0 hg0 hsh (fun β' a'' w' h2 h3 => hQ β' a'' w' h2 h3)
      · exact ih _ _ _ _ h f R F os tape output β L a w hf hgl hr hb β0 Q hag0 hn0 hm0 hg0 hsh hQ false
  | m + 1, fn, s, .al cands all listed m0 g0 n0 hold, r, h => by
    have ih := gx_sound (P := P) (kn := kn) hex hjn hng hmix m
    have ig := gx_grow (P := P) (kn := kn) hex m
    intro f R F os tape output β L a w hf hgl hr hb β0 Q hag0 hn0 hm0 hg0 hsh hQ
    have hd1 : ltM s.nl m0 := hm0.mono hn0
    have hd2 : ltG s.nl g0 := hg0.mono hn0
    simp only [gx] at h
    split at h <;> try (cases h; done)
    rename_i i cs
    split at h <;> try (cases h; done)
    rename_i e he
    split at h <;> try (cases h; done)
    rename_i q hq
    have hb0 : Bd { s with low := s.nl } := ⟨hb.env, hb.mem, hb.gm⟩
    have h0 := (ig _ _ _ _ he hb0 trivial).grow
    have h1 : Grow s { e.s with low := minN s.low e.s.low } := Grow.lowered h0
    have step : ∀ (hQ' : ∀ β' a' w', agree s.nl β β' → RelG ⟨P, f, fn, fn.ntmps, R, F, os, tape, output⟩ β' q.s L a' w' → Q .normal a' w'),
        ∃ o, all[i]? = some o ∧ Region.wanted o (yielded all a.tmps) = true ∧ o.wp P a w (fun a' w' => ((keepIn hold m0 g0 e.s) = true → heldS β0 m0 g0 (L.map (·.2) ++ F) w → heldS β0 m0 g0 (L.map (·.2) ++ F) w') ∧ planRunT P all Q (heldS β0 m0 g0 (L.map (·.2) ++ F)) q.plan false a' w') Q := by
      intro hQ'
      obtain ⟨o, ho, hw, hwp⟩ := ih _ _ _ _ he f R F os tape output β L a w hf hgl (hr : RelG _ β { s with low := s.nl } L a w) hb0
      refine ⟨o, ho, hw, hwp _ _ ?_⟩
      intro β' a' w' hag hr2
      have hag' : agree n0 β0 β' := hag0.trans hag hn0
      have hsh' : (keepIn hold m0 g0 e.s) = true → heldIn m0 g0 { e.s with low := minN s.low e.s.low } = true := by
        intro hk
        unfold keepIn at hk
        split at hk
        · exact hk
        · cases hk
      have hr3 : RelG ⟨P, f, fn, fn.ntmps, R, F, os, tape, output⟩ β' { e.s with low := minN s.low e.s.low } L a' w' := hr2
      refine ⟨fun hk _ => heldIn_held (hsh' hk) hr3 hag' hm0 hg0, ?_⟩
      exact ih _ _ _ _ hq f R F os tape output β' L a' w' hf hgl hr3 (h1.bd hb) β0 Q hag' (Nat.le_trans hn0 h1.nl) hm0 hg0 hsh' (fun β'' a'' w'' h2 h3 => hQ' β'' a'' w'' (agree.trans hag h2 h1.nl) h3)
    split at h
    · cases h
      intro b
      exact ⟨step hQ, trivial⟩
    · split at h <;> try (cases h; done)
      rename_i q2 hq2
      split at h <;> cases h
      rename_i hs
      intro b
      refine ⟨step hQ, ?_⟩
      refine ih _ _ _ _ hq2 f R F os tape output β L a w hf hgl hr hb β0 Q hag0 hn0 hm0 hg0 hsh ?_ true
      intro β' a' w' hag hr2
      obtain ⟨h3, h4⟩ := sameS_ok hs hr2
      exact hQ _ a' w' (hag.trans h4 (Nat.le_refl _)) h3
  | m + 1, fn, s, .ef all i, r, h => by
    have ih := gx_sound (P := P) (kn := kn) hex hjn hng hmix m
    have ig := gx_grow (P := P) (kn := kn) hex m
    intro f R F os tape output β L a w hf hgl hr hb
    simp only [gx] at h
    split at h <;> try (cases h; done)
    rename_i o ho
    have ho' : all[i]? = some o := by rw [getL_eq, Array.getElem?_toList] at ho; exact ho
    split at h <;> try (cases h; done)
    rename_i hgd
    have hw := guardG_yes hr hgd
    split at h
    · rename_i s' hs
      cases h
      obtain ⟨β', a', w', hag, hr2, hwp⟩ := effX_step (g := ⟨P, f, fn, fn.ntmps, R, F, os, tape, output⟩) hr hb hs
      exact ⟨o, ho', hw, fun N Q hN => hwp _ _ (hN β' a' w' hag hr2)⟩
    · split at h <;> try (cases h; done)
      rename_i f' vs hc
      split at h <;> try (cases h; done)
      rename_i hd
      split at h <;> try (cases h; done)
      rename_i fn' hf'
      have hrun0 := calleeG_ok hr hc
      split at h <;> try (cases h; done)
      rename_i c hbd
      split at h <;> try (cases h; done)
      rename_i hle
      split at h <;> try (cases h; done)
      rename_i q hq
      split at h <;> cases h
      rename_i env hp
      have hl : ltE s.nl (argG 0 vs) := argG_lt vs 0 (calleeG_lt hb.env hc)
      have hle' : vs.length ≤ fn'.ntmps := by simpa using hle
      have hrel : RelG ⟨P, f', fn', fn'.ntmps, fun v Q => ∃ β', agree s.nl β β' ∧ v = q.v.den β' ∧ Q = memSP β' q.s.mem ++ (gmSP β' q.s.gm ++ []), L.map (·.2) ++ F, w.os, w.tape, w.output⟩ β ⟨argG 0 vs, s.mem, s.gm, s.nl, s.nl⟩ [] { tmps := (vs.map (SV.den β)).toArray ++ Array.replicate (fn'.ntmps - (vs.map (SV.den β)).toArray.size) undef, defers := [] } w := by
        refine RelG.mk' rfl (by simp; omega) ?_ rfl rfl rfl (by simpa using hr.sat')
        intro t x hx
        obtain ⟨_, h2⟩ := look_argG β vs 0 t x hx
        rw [Nat.sub_zero] at h2
        have hlt : t < (vs.map (SV.den β)).length := (List.getElem?_eq_some_iff.1 h2).1
        rw [Array.getElem?_append_left (by simpa using hlt)]
        simpa using h2
      have hcalls := calls_of_ret hf' hbd (ih _ _ _ _ hq f' _ _ _ _ _ β [] _ w hf' (Glob.app hgl) hrel ⟨hl, hb.mem, hb.gm⟩ (fun β' h3 => ⟨β', h3, rfl, rfl⟩))
      refine ⟨o, ho', hw, fun N Q hN => ?_⟩
      show o.wp P a w _ _
      unfold Oper.wp
      rw [hrun0]
      show o.upon P a _ _ ((callFunc f' (vs.map (SV.den β)).toArray).run P w)
      rw [callF_run hng hf' hbd]
      refine hcalls.mono ?_
      rintro e w' ⟨v, Q', rfl, ⟨β', hag, rfl, rfl⟩, e1, e2, e3, e4⟩
      exact hN β' _ w' hag ((back hr hb hag (t := q.s) e1 e2 e3 e4).putE hd hp)
end Go.Proofs.Ytngfadijcpnblaa

/- The evaluator's word on a whole call. -/
namespace Go.Proofs.Ytngfadijcpnblaa
open Go.RowKit

/-- What is true. -/
def isTrueSV : SV → Bool
  | .c (.v (.bool b)) => b
  | .kb b => b
  | _ => false
theorem isTrueSV_den {x : SV} (h : isTrueSV x = true) (β : Nat → Nat) : x.den β = .bool true := by
  unfold isTrueSV at h
  split at h
  · subst h; rfl
  · subst h; rfl
  · cases h
def gxFn (P : Program) (kn : Kn) (m : Nat) (f : Nat) (vs : List SV) : Option GR :=
  match P.funcs[f]? with
  | some fn => match fn.body with
    | some c => match Nat.ble vs.length fn.ntmps with
      | true => gx P kn m fn ⟨argG 0 vs, [], [], 0, 0⟩ (.run [.code c])
      | false => none
    | none => none
  | none => none
def gxTrue (P : Program) (kn : Kn) (m : Nat) (f : Nat) (vs : List SV) : Bool :=
  match gxFn P kn m f vs with
  | some r => isTrueSV r.v
  | none => false
/-- No function that the machine runs by itself. -/
def noNg (P : Program) : Bool := P.funcs.toList.all fun fn => !(fn.name == "runtime.NumGoroutine")
theorem noNg_ok {P : Program} (h : noNg P = true) (f : Nat) (fn : Func) (hf : P.funcs[f]? = some fn) : (fn.name == "runtime.NumGoroutine") = false := by
  have := List.all_eq_true.1 h fn (by
    have := List.mem_of_getElem? (l := P.funcs.toList) (i := f) (a := fn) (by simpa using hf)
    exact this)
  simpa using this

/-- What holds as the call begins has the variables in it, and what stays. -/
def GlobP (gl : Gl) (pre : List SP) (Pre : List SP) : Prop := ∀ F, Glob gl pre (Pre ++ F)
theorem GlobP.nil (Pre : List SP) : GlobP [] [] Pre := fun F => Glob.nil _
/-- A memory that stays, with the variables in it. -/
theorem GlobP.ro {gl : Gl} {m : PH} (h : ∀ e ∈ gl, blkAt m e.1 e.2) : GlobP gl [roAll m] [roAll m] := by
  intro F X w hs
  have h1 : SatW (roAll m :: (X ++ F)) w := hs.perm List.perm_middle
  refine ⟨fun e he => (h e he).mono h1.stays, ?_⟩
  have h2 := h1.dup (pers_roAll m)
  exact h2.perm (List.Perm.cons _ List.perm_middle.symm)
theorem gxFn_ok {P : Program} {kn : Kn} (hex : ExOk P kn.ex kn.pre) (hjn : JnOk P kn.jn) (hng : noNg P = true) (hmix : P.follows .mixedOrders = true) {m f : Nat} {vs : List SV} {r : GR} (h : gxFn P kn m f vs = some r) (hl : ∀ v ∈ vs, v.lt 0) (Pre : List SP) (hgl : GlobP kn.gl kn.pre Pre) :
    FnOk P f (vs.map (SV.den fun _ => 0)) Pre fun v Q => ∃ β, v = r.v.den β ∧ Q = memSP β r.s.mem ++ (gmSP β r.s.gm ++ Pre) := by
  unfold gxFn at h
  split at h <;> try (cases h; done)
  rename_i fn hf
  split at h <;> try (cases h; done)
  rename_i c hb
  split at h <;> try (cases h; done)
  rename_i hle
  have hle' : vs.length ≤ fn.ntmps := by simpa using hle
  refine ⟨callF_run (noNg_ok hng) hf hb, fun F w hs => ?_⟩
  have hb0 : Bd ⟨argG 0 vs, [], [], 0, 0⟩ := ⟨argG_lt vs 0 hl, (fun _ h => (by cases h)), (fun _ h => (by cases h))⟩
  have hrel : RelG ⟨P, f, fn, fn.ntmps, fun v Q => ∃ β, v = r.v.den β ∧ Q = memSP β r.s.mem ++ (gmSP β r.s.gm ++ []), Pre ++ F, w.os, w.tape, w.output⟩ (fun _ => 0) ⟨argG 0 vs, [], [], 0, 0⟩ [] { tmps := (vs.map (SV.den fun _ => 0)).toArray ++ Array.replicate (fn.ntmps - (vs.map (SV.den fun _ => 0)).toArray.size) undef, defers := [] } w := by
    refine RelG.mk' rfl (by simp; omega) ?_ rfl rfl rfl ?_
    · intro t x hx
      obtain ⟨_, h2⟩ := look_argG (fun _ => 0) vs 0 t x hx
      rw [Nat.sub_zero] at h2
      have hlt : t < (vs.map (SV.den fun _ => 0)).length := (List.getElem?_eq_some_iff.1 h2).1
      rw [Array.getElem?_append_left (by simpa using hlt)]
      simpa using h2
    · simpa [memSP, gmSP] using hs
  refine (calls_of_ret hf hb (gx_sound hex hjn (noNg_ok hng) hmix m fn _ _ _ h f _ _ _ _ _ _ _ _ _ hf (hgl F) hrel hb0 fun β' _ => ⟨β', rfl, rfl⟩)).mono ?_
  rintro e w' ⟨v, Q, rfl, ⟨β, rfl, rfl⟩, e1, e2, e3, e4⟩
  refine ⟨_, _, rfl, ⟨β, rfl, rfl⟩, e1, e2, e3, ?_⟩
  rw [List.append_nil] at e4
  simpa using e4

theorem gxTrue_ok {P : Program} {kn : Kn} (hex : ExOk P kn.ex kn.pre) (hjn : JnOk P kn.jn) (hng : noNg P = true) (hmix : P.follows .mixedOrders = true) {m f : Nat} {vs : List SV} (h : gxTrue P kn m f vs = true) (hl : ∀ v ∈ vs, v.lt 0) (Pre : List SP) (hgl : GlobP kn.gl kn.pre Pre) :
    FnOk P f (vs.map (SV.den fun _ => 0)) Pre fun v _ => v = .bool true := by
  unfold gxTrue at h
  split at h
  · rename_i r hr
    exact (gxFn_ok hex hjn hng hmix hr hl Pre hgl).mono fun v Q ⟨β, h1, _⟩ => h1.trans (isTrueSV_den h β)
  · cases h
end Go.Proofs.Ytngfadijcpnblaa

/- What body-less functions give; the awake of norialaw23, by the evaluator. -/
namespace Go.Proofs.Ytngfadijcpnblaa
open Go.RowKit
set_option maxRecDepth 100000
noncomputable def cmpE : Array Value → Sem Value := Extern.ReflectliteType.method fun t => do Extern.Rtype.noPackHeld "Comparable" t; pure (.bool (← typeInfo t).comparable)
def exE : Nat → List SV → Option SV
  | 58, [.c (.v (.iface 40 _))] => some (.c (.v (.iface 134 (.agg #[.pointer (some ⟨0, 40, none⟩)]))))
  | 91, [.agg [.v (.pointer (some ⟨0, 40, none⟩))]] => some (.c (.v (.bool true)))
  | _, _ => none
theorem ext58 : ∃ fn, Try.prog.funcs[58]? = some fn ∧ (fn.name == "runtime.NumGoroutine") = false ∧ fn.body.isNone = true ∧ Extern.findNext fn = none ∧ Extern.find fn = some Extern.ReflectliteType.typeOf :=
  ⟨_, Try.func58, by kernel_rfl, by kernel_rfl, by kernel_rfl, by kernel_rfl⟩
theorem ext91 : ∃ fn, Try.prog.funcs[91]? = some fn ∧ (fn.name == "runtime.NumGoroutine") = false ∧ fn.body.isNone = true ∧ Extern.findNext fn = none ∧ Extern.find fn = some cmpE :=
  ⟨_, Try.func91, by kernel_rfl, by kernel_rfl, by kernel_rfl, by kernel_rfl⟩
theorem typeOf40 (v : Value) (w : World) : (Extern.ReflectliteType.typeOf #[.iface 40 v]).run Try.prog w = .ok (.iface 134 (.agg #[.pointer (some ⟨0, 40, none⟩)])) w := by kernel_rfl
theorem comparable40 (w : World) : (cmpE #[.agg #[.pointer (some ⟨0, 40, none⟩)]]).run Try.prog w = .ok (.bool true) w := by kernel_rfl
theorem exE_ok {Pre : List SP} : ExOk Try.prog exE Pre := by
  intro f vs x h
  unfold exE at h
  split at h <;> cases h
  · refine ⟨fun _ => trivial, fun β => .inl fun w => ?_⟩
    obtain ⟨fn, h1, h2, h3, h4, h5⟩ := ext58
    rw [run_callFunc_extern h1 h2 h3 h4 h5]
    have := typeOf40
    simp only [List.map_cons, List.map_nil, SV.den, Ce.den]
    rw [this]
    rfl
  · refine ⟨fun _ => trivial, fun β => .inl fun w => ?_⟩
    obtain ⟨fn, h1, h2, h3, h4, h5⟩ := ext91
    rw [run_callFunc_extern h1 h2 h3 h4 h5]
    have := comparable40
    simp only [List.map_cons, List.map_nil, SV.den, Ce.den]
    rw [this]
    rfl
theorem mix0 : Try.prog.follows .mixedOrders = true := by kernel_rfl
theorem noNg0 : noNg Try.prog = true := by kernel_rfl
abbrev knE : Kn := ⟨exE, [], [], 1000000⟩
theorem jn0 (P : Program) : JnOk P 1000000 := fun h => by cases h
theorem awake_gx : gxTrue Try.prog knE 1000000 8 [] = true := by kernel_rfl
theorem awake_ok : FnOk Try.prog 8 [] [] fun v _ => v = .bool true := gxTrue_ok (kn := knE) exE_ok (jn0 _) noNg0 mix0 awake_gx (by simp) [] (GlobP.nil [])
end Go.Proofs.Ytngfadijcpnblaa

/- Is an error a number? errors.Is at faults. -/
namespace Go.Proofs.Ytngfadijcpnblaa
open Go.RowKit Go.Lib
attribute [local irreducible] Nx Ar BrM headC OneC HoC AftC planHead endF
set_option maxRecDepth 20000
set_option maxHeartbeats 1000000

theorem run58 (v : Value) (w : World) : (callFunc 58 #[.iface 40 v]).run Try.prog w = .ok (.value (.iface 134 (.agg #[.pointer (some ⟨0, 40, none⟩)]))) w := by
  obtain ⟨fn, h1, h2, h3, h4, h5⟩ := ext58
  rw [run_callFunc_extern h1 h2 h3 h4 h5, typeOf40]; rfl
theorem run91 (w : World) : (callFunc 91 #[.agg #[.pointer (some ⟨0, 40, none⟩)]]).run Try.prog w = .ok (.value (.bool true)) w := by
  obtain ⟨fn, h1, h2, h3, h4, h5⟩ := ext91
  rw [run_callFunc_extern h1 h2 h3 h4 h5, comparable40]; rfl
theorem Unwrap_ok (b : Nat) (q : List UInt8 × Int) (c : Int) : FnOk Try.prog 87 [.pointer (some ⟨b, 0, none⟩)] [errB b q c] (fun v Q => v = .iface 40 (.int .i64 c) ∧ Q = [errB b q c]) := by
  have hb : SeesAt (errB b q c) b 0 [str q.1, .int .i64 q.2, .iface 40 (.int .i64 c)] := blk_at _ _ _
  refine FnOk.start Try.func87 rfl rfl rfl rfl fun F os tape output => ?_
  refine go 200 ?_
  conv => whnf
  repeat' (first | ((first | refine BrM.t rfl ?_ | refine BrM.f rfl ?_ | refine BrM.dec (fun _ => ?_) (fun _ => ?_) | refine BrM.mk (fun _ => ?_) (fun _ => ?_) | refine Ar.i64 (by omega) (by omega) ?_ | refine gO rfl ?_ | refine gP rfl (by repeat constructor) ?_) <;> conv => whnf) | (refine atLoad ?_; refine Nx.load1 0 rfl rfl rfl rfl ((hb.sub 2 rfl)) rfl ?_) | (refine atRet ?_; refine Nx.ret [0] Try.func87 rfl rfl ?_; (exact ⟨rfl, rfl⟩)) | refine Nx.late ?_)
abbrev noT : SV := .tps [(false, [.v .nilIface]), (false, [.v (.bool false)])]
abbrev yesT (b : Nat) : SV := .tps [(false, [.v (.iface 130 (.pointer (some ⟨b, 0, none⟩)))]), (false, [.v (.bool true)])]
theorem is_ok (b : Nat) (q : List UInt8 × Int) (c n : Int) : FnOk Try.prog 59 [.iface 130 (.pointer (some ⟨b, 0, none⟩)), .iface 40 (.int .i64 n), .bool true] [errB b q c] (fun v Q => v = .bool (decide (c = n)) ∧ Q = [errB b q c]) := by
  refine FnOk.start Try.func59 rfl rfl rfl rfl fun F os tape output => ?_
  refine go 200 ?_
  conv => whnf
  refine Nx.unroll ?_
  repeat' (first | ((first | refine BrM.t rfl ?_ | refine BrM.f rfl ?_ | refine BrM.dec (fun _ => ?_) (fun _ => ?_) | refine BrM.mk (fun _ => ?_) (fun _ => ?_) | refine Ar.i64 (by omega) (by omega) ?_ | refine gO rfl ?_ | refine gP rfl (by repeat constructor) ?_) <;> conv => whnf) | (refine atTA (t := 136) ?_; refine Nx.px (x := noT) rfl (by kernel_rfl) ?_) | (refine atTA (t := 139) ?_; refine Nx.px (x := yesT b) rfl (by kernel_rfl) ?_) | (refine atExt ?_; refine Nx.px rfl rfl ?_) | (refine atBin ?_; refine Nx.px rfl rfl ?_) | ((with_reducible refine atInv ?_); refine Nx.inv [0] [0] (f := 87) (us := [.c (.v (.pointer (some ⟨b, 0, none⟩)))]) (by kernel_rfl) (fun _ => rfl) rfl (Unwrap_ok b q c) rfl fun v Q hQ => ?_; obtain ⟨rfl, rfl⟩ := hQ) | refine Nx.late ?_)
  refine Nx.again ?_
  repeat' (first | ((first | refine BrM.t rfl ?_ | refine BrM.f rfl ?_ | refine BrM.dec (fun _ => ?_) (fun _ => ?_) | refine BrM.mk (fun _ => ?_) (fun _ => ?_) | refine Ar.i64 (by omega) (by omega) ?_ | refine gO rfl ?_ | refine gP rfl (by repeat constructor) ?_) <;> conv => whnf) | (refine atTA ?_; refine Nx.px (x := noT) rfl (by kernel_rfl) ?_) | (refine atExt ?_; refine Nx.px rfl rfl ?_) | (refine atBin ?_; refine Nx.px rfl rfl ?_) | (refine atRet ?_; refine Nx.ret [0] Try.func59 rfl rfl ?_; (first | exact ⟨by rw [decide_eq_true (by assumption)]; rfl, rfl⟩ | exact ⟨by rw [decide_eq_false (by assumption)]; rfl, rfl⟩)) | refine Nx.late ?_)
theorem errorsIs_ok (b : Nat) (q : List UInt8 × Int) (c n : Int) : FnOk Try.prog 38 [.iface 130 (.pointer (some ⟨b, 0, none⟩)), .iface 40 (.int .i64 n)] [errB b q c] (fun v Q => v = .bool (decide (c = n)) ∧ Q = [errB b q c]) := by
  refine FnOk.start Try.func38 rfl rfl rfl rfl fun F os tape output => ?_
  refine go 200 ?_
  conv => whnf
  repeat' (first | ((first | refine BrM.t rfl ?_ | refine BrM.f rfl ?_ | refine BrM.dec (fun _ => ?_) (fun _ => ?_) | refine BrM.mk (fun _ => ?_) (fun _ => ?_) | refine Ar.i64 (by omega) (by omega) ?_ | refine gO rfl ?_ | refine gP rfl (by repeat constructor) ?_) <;> conv => whnf) | (refine atCall 59 ?_; refine cE [0] [0] rfl rfl rfl rfl rfl ((is_ok b q c n)) rfl ?_) | (refine atCall 58 ?_; refine Nx.ext (f := 58) (us := [.c (.v (.iface 40 (.int .i64 n)))]) (by kernel_rfl) rfl (fun _ w => run58 _ w) ?_) | ((with_reducible refine atInv ?_); refine Nx.ext (f := 91) (us := [.agg [.v (.pointer (some ⟨0, 40, none⟩))]]) (by kernel_rfl) rfl (fun _ w => run91 w) ?_) | (refine atExt ?_; refine Nx.px rfl rfl ?_) | (refine atBin ?_; refine Nx.px rfl rfl ?_) | (refine atRet ?_; refine Nx.ret [0] Try.func38 rfl rfl ?_; (exact ⟨rfl, rfl⟩)) | refine Nx.late ?_)
theorem Is_err (b : Nat) (q : List UInt8 × Int) (c n : Int) (hc : c ≠ 0) : FnOk Try.prog 20 [.iface 130 (.pointer (some ⟨b, 0, none⟩)), .int .i64 n] [errB b q c] (fun v Q => v = .bool (decide (c = n)) ∧ Q = [errB b q c]) := by
  refine FnOk.start Try.func20 rfl rfl rfl rfl fun F os tape output => ?_
  refine go 200 ?_
  conv => whnf
  repeat' (first | ((first | refine BrM.t rfl ?_ | refine BrM.f rfl ?_ | refine BrM.dec (fun _ => ?_) (fun _ => ?_) | refine BrM.mk (fun _ => ?_) (fun _ => ?_) | refine Ar.i64 (by omega) (by omega) ?_ | refine gO rfl ?_ | refine gP rfl (by repeat constructor) ?_) <;> conv => whnf) | (refine atCall 38 ?_; refine cE [0] [0] rfl rfl rfl rfl rfl ((errorsIs_ok b q c n)) rfl ?_) | (refine atRet ?_; refine Nx.ret [0] Try.func20 rfl rfl ?_; (first | exact ⟨rfl, rfl⟩ | exact ⟨by rw [decide_eq_false (by omega)]; rfl, rfl⟩)) | refine Nx.late ?_)
theorem Is_nil (n : Int) : FnOk Try.prog 20 [.nilIface, .int .i64 n] [] (fun v Q => v = .bool (decide (0 = n)) ∧ Q = []) := by
  refine FnOk.start Try.func20 rfl rfl rfl rfl fun F os tape output => ?_
  refine go 200 ?_
  conv => whnf
  repeat' (first | ((first | refine BrM.t rfl ?_ | refine BrM.f rfl ?_ | refine BrM.dec (fun _ => ?_) (fun _ => ?_) | refine BrM.mk (fun _ => ?_) (fun _ => ?_) | refine Ar.i64 (by omega) (by omega) ?_ | refine gO rfl ?_ | refine gP rfl (by repeat constructor) ?_) <;> conv => whnf) | (refine atRet ?_; refine Nx.ret [] Try.func20 rfl rfl ?_; (first | exact ⟨by rw [decide_eq_true (by omega)]; rfl, rfl⟩ | exact ⟨by rw [decide_eq_false (by omega)]; rfl, rfl⟩)) | refine Nx.late ?_)
end Go.Proofs.Ytngfadijcpnblaa

/- ModelRefuses, walked. -/
namespace Go.Proofs.Ytngfadijcpnblaa
open Go.RowKit
set_option maxRecDepth 20000
set_option maxHeartbeats 8000000
theorem IsLen.one {P : MdP} {r : Int} {a b : Nat} (h1 : IsLen P r a) (h2 : IsLen P r b) : a = b := by
  rcases Nat.lt_trichotomy a b with h | h | h
  · have := h2.1 a h; rw [h1.2] at this; cases this
  · exact h
  · have := h1.1 b h; rw [h2.2] at this; cases this
theorem MdQ.z {b : Nat} {r : MdP × Int} {v : Value} {Q : List SP} (e : r.2 = 0) (h : MdQ b r v Q) : ∃ M' : MdH, M'.b = b ∧ M'.p = r.1 ∧ v = .nilIface ∧ Q = [M'.sp] := by
  obtain ⟨M', a, c, hq⟩ := h
  exact ⟨M', a, c, (hq.z e).1, (hq.z e).2⟩
theorem MdQ.nz {b : Nat} {r : MdP × Int} {v : Value} {Q : List SP} (e : r.2 ≠ 0) (h : MdQ b r v Q) : ∃ M' : MdH, ∃ b' q, M'.b = b ∧ M'.p = r.1 ∧ v = .iface 130 (.pointer (some ⟨b', 0, none⟩)) ∧ Q = [M'.sp, errB b' q r.2] := by
  obtain ⟨M', a, c, hq⟩ := h
  obtain ⟨b', q, e1, e2⟩ := hq.nz e
  exact ⟨M', b', q, a, c, e1, e2⟩
attribute [local irreducible] Nx Ar BrM headC OneC HoC AftC planHead endF
theorem small7_ok (m : PH) (l : List OpH) (A : Option Addr) (c : Nat) (hl : l.length ≤ 9223372036854775807) (hs : Rd m A l.length 16 (l.flatMap OpH.enc)) (hok : ∀ x ∈ l, OpOk m x) :
    FnOk Try.prog 7 [.slice A l.length c] [roAll m] (fun v Q => v = .bool (decide ((∀ x ∈ l, OpS x) ∧ l.length ≤ 120)) ∧ Q = [roAll m]) := by
  have hS := roAll_sees hs
  refine FnOk.start Try.func7 rfl rfl rfl rfl fun F os tape output => ?_
  refine go 200 ?_
  conv => whnf
  repeat' (first | ((first | refine BrM.t rfl ?_ | refine BrM.f rfl ?_ | refine BrM.dec (fun _ => ?_) (fun _ => ?_) | refine BrM.mk (fun _ => ?_) (fun _ => ?_) | refine Ar.i64 (by omega) (by omega) ?_ | refine gO rfl ?_ | refine gP rfl (by repeat constructor) ?_) <;> conv => whnf) | (fail) | refine Nx.late ?_)
  refine Nx.loop (X := Nat) (fun j => j ≤ l.length ∧ ∀ q, (hq : q < j) → (hl : q < l.length) → OpS l[q]) (fun j => l.length - j)
    (fun j => [(0, sl A l.length c), (5, sl A l.length c), (6, iv l.length), (7, iv j)]) (fun _ => []) [] (fun _ => [(0, roAll m)]) 0 ⟨Nat.zero_le _, fun i hi => by omega⟩ ?_ ?_ ?_ ?_ ?_
  all_goals repeat (first | exact .nil _ | refine .cons rfl ?_ | refine .cons rfl rfl ?_ | refine .cons rfl rfl rfl ?_ | refine .cons' rfl (fun _ => rfl) ?_)
  intro j ⟨hj, hyes⟩ ih
  by_cases hlt : j < l.length
  · obtain ⟨x, hx⟩ : ∃ x, x = l[j] := ⟨_, rfl⟩
    by_cases sm : OpS x
    · obtain ⟨s1, s2, s3⟩ := sm
      rw [hx] at s1 s2 s3
      repeat' (first | ((first | refine BrM.yes (by omega) ?_ | refine BrM.not (by omega) ?_ | refine BrM.t rfl ?_ | refine BrM.f rfl ?_ | refine BrM.dec (fun _ => ?_) (fun _ => ?_) | refine BrM.mk (fun _ => ?_) (fun _ => ?_) | refine Ar.i64 (by omega) (by omega) ?_ | refine gO rfl ?_ | refine gP rfl (by repeat constructor) ?_) <;> conv => whnf) | (refine atIdx ?_; refine Nx.idx 0 (j := j) rfl rfl rfl Try.underlying22 rfl rfl rfl OpH.enc_len hS rfl (by omega) (by omega) fun _ _ _ => ?_) | (refine atLoad ?_; first | (refine Nx.load1 0 rfl rfl rfl rfl (SeesAt.sub (by assumption) _ rfl) rfl ?_) | (refine Nx.load1 0 rfl rfl rfl rfl (by assumption) rfl ?_) | (refine Nx.load 0 rfl rfl rfl rfl (by assumption) rfl rfl ?_)) | refine Nx.late ?_)
      refine (ih (j + 1) ⟨by omega, fun q hq hl => ?_⟩ (by omega)).weak ?_ ?_ ?_ ?_
      · by_cases e : q = j
        · subst e; exact ⟨s1, s2, s3⟩
        · exact hyes q (by omega) hl
      all_goals repeat (first | exact .nil _ | refine .cons rfl ?_ | refine .cons rfl rfl ?_ | refine .cons rfl rfl rfl ?_ | refine .cons' rfl (fun _ => rfl) ?_)
    · have e : decide ((∀ x ∈ l, OpS x) ∧ l.length ≤ 120) = false := by
        rw [decide_eq_false_iff_not]
        exact fun h => sm (h.1 x (by rw [hx]; exact List.getElem_mem hlt))
      rw [e]
      have sm' : ¬((l[j]).o.all.length ≤ 30 ∧ (l[j]).o.ahead.length ≤ 30 ∧ (l[j]).o.l.length ≤ 70) := by rw [← hx]; exact sm
      repeat' (first | ((first | refine BrM.yes (by omega) ?_ | refine BrM.not (by omega) ?_ | refine BrM.t rfl ?_ | refine BrM.f rfl ?_ | refine BrM.dec (fun _ => ?_) (fun _ => ?_) | refine BrM.mk (fun _ => ?_) (fun _ => ?_) | refine Ar.i64 (by omega) (by omega) ?_ | refine gO rfl ?_ | refine gP rfl (by repeat constructor) ?_) <;> conv => whnf) | (refine atIdx ?_; refine Nx.idx 0 (j := j) rfl rfl rfl Try.underlying22 rfl rfl rfl OpH.enc_len hS rfl (by omega) (by omega) fun _ _ _ => ?_) | (refine atLoad ?_; first | (refine Nx.load1 0 rfl rfl rfl rfl (SeesAt.sub (by assumption) _ rfl) rfl ?_) | (refine Nx.load1 0 rfl rfl rfl rfl (by assumption) rfl ?_) | (refine Nx.load 0 rfl rfl rfl rfl (by assumption) rfl rfl ?_)) | (refine atRet ?_; refine Nx.ret [0] Try.func7 rfl rfl ?_; (exact ⟨rfl, rfl⟩)) | refine Nx.late ?_)
  · have e : decide ((∀ x ∈ l, OpS x) ∧ l.length ≤ 120) = decide (l.length ≤ 120) := by
      refine decide_eq_decide.2 ⟨fun h => h.2, fun h => ⟨fun x hx => ?_, h⟩⟩
      obtain ⟨q, hq, rfl⟩ := List.getElem_of_mem hx
      exact hyes q (by omega) hq
    rw [e]
    by_cases h120 : l.length ≤ 120
    · repeat' (first | ((first | refine BrM.not (by omega) ?_ | refine BrM.t rfl ?_ | refine BrM.f rfl ?_ | refine BrM.dec (fun _ => ?_) (fun _ => ?_) | refine BrM.mk (fun _ => ?_) (fun _ => ?_) | refine Ar.i64 (by omega) (by omega) ?_ | refine gO rfl ?_ | refine gP rfl (by repeat constructor) ?_) <;> conv => whnf) | (refine atRet ?_; refine Nx.ret [0] Try.func7 rfl rfl ?_; (exact ⟨by simp [oneV, h120]; omega, rfl⟩)) | refine Nx.late ?_)
    · repeat' (first | ((first | refine BrM.not (by omega) ?_ | refine BrM.t rfl ?_ | refine BrM.f rfl ?_ | refine BrM.dec (fun _ => ?_) (fun _ => ?_) | refine BrM.mk (fun _ => ?_) (fun _ => ?_) | refine Ar.i64 (by omega) (by omega) ?_ | refine gO rfl ?_ | refine gP rfl (by repeat constructor) ?_) <;> conv => whnf) | (refine atRet ?_; refine Nx.ret [0] Try.func7 rfl rfl ?_; (exact ⟨by simp [oneV, h120]; omega, rfl⟩)) | refine Nx.late ?_)
end Go.Proofs.Ytngfadijcpnblaa
