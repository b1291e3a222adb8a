/- The reference: shows, writes. -/
import Derived.Test.YtngfadijcpnblaaMd
set_option linter.unusedSimpArgs false
set_option linter.unusedVariables false
/- The program's model: shows. -/
namespace Go.Proofs.Ytngfadijcpnblaa
open Go.RowKit
set_option maxRecDepth 20000
set_option maxHeartbeats 4000000
theorem puts_snoc : ∀ (l : List Ev) (g : LogP) (i : Nat) (x : Ev), g.puts i (l ++ [x]) = (g.puts i l).put (i + l.length) x
  | [], g, i, x => rfl
  | a :: l, g, i, x => by
    show (g.put i a).puts (i + 1) (l ++ [x]) = _
    rw [puts_snoc l]
    show _ = ((g.put i a).puts (i + 1) l).put (i + (l.length + 1)) x
    rw [show i + 1 + l.length = i + (l.length + 1) by omega]
theorem anyPub_yes {g : LogP} : ∀ {n : Nat} {lo : Int} {q : Nat}, q < n → g.pub (lo + q) = true → anyPub g lo n = true
  | 0, _, _, h, _ => by omega
  | n + 1, lo, 0, _, h => by
    unfold anyPub
    rw [show lo + ((0 : Nat) : Int) = lo by omega] at h
    rw [h]; rfl
  | n + 1, lo, q + 1, hq, h => by
    unfold anyPub
    have := anyPub_yes (g := g) (n := n) (lo := lo + 1) (q := q) (by omega) (by rw [show lo + 1 + (q : Int) = lo + ((q + 1 : Nat) : Int) by omega]; exact h)
    rw [this]; simp
theorem anyPub_nil {g : LogP} : ∀ {n : Nat} {lo : Int}, (∀ q : Nat, q < n → g.pub (lo + q) = false) → anyPub g lo n = false
  | 0, _, _ => rfl
  | n + 1, lo, h => by
    unfold anyPub
    have h0 := h 0 (by omega)
    rw [show lo + ((0 : Nat) : Int) = lo by omega] at h0
    rw [h0, anyPub_nil (n := n) (lo := lo + 1) fun q hq => by rw [show lo + 1 + (q : Int) = lo + ((q + 1 : Nat) : Int) by omega]; exact h (q + 1) (by omega)]
    rfl
theorem CallH.enc_len (x : CallH) : x.enc.length = 1 := rfl
structure ShX where
  gX : LogH
  i : Nat
attribute [local irreducible] Nx Ar BrM headC OneC HoC AftC planHead endF
theorem shows_ok (M : MdH) (hm : MdW M.p) {k : Nat} {x : WrH} (hx : M.writers[k]? = some x) {q : Nat} (hq : x.ring = q) {g : LogH} (hg : M.logs[q]? = some g) {c : CallH} {r : List CallH} (hc : x.calls = c :: r) (n : Nt) :
    FnOk Try.prog 60 [ptr M.b, ptr x.b, n.v] [M.sp] (MdQ M.b (M.p.shows k x.p g.g c.l n)) := by
  have hxm := List.mem_of_getElem? hx
  have hxp := List.mem_map_of_mem (f := WrH.p) hxm
  have hgm := List.mem_of_getElem? hg
  have hgp := hm.gl g.g (List.mem_map_of_mem (f := LogH.g) hgm)
  have hw := hm.wb x.p hxp
  have hcm : c ∈ x.calls := by rw [hc]; exact List.mem_cons_self
  have hcl64 := hm.wcall x.p hxp c.l (List.mem_map_of_mem (f := CallH.l) hcm)
  have hsh := hm.wsh x.p hxp c.l (r.map CallH.l) (by show x.calls.map _ = _; rw [hc]; rfl)
  replace hw : -1 ≤ x.first ∧ x.first ≤ 4611686018427387904 ∧ x.shown ≤ 64 ∧ x.calls.length ≤ 200 := by simpa [WrH.p] using hw
  replace hsh : x.shown ≤ c.l.length := hsh
  have hL := M.seeL
  have hql : q < M.logs.length := (List.getElem?_eq_some_iff.1 hg).1
  have hgq : M.logs[q] = g := (List.getElem?_eq_some_iff.1 hg).2
  have hnl := hm.ln
  have m0 := M.seeM.sub 0 rfl
  have hwat := MdH.wat (M := M) hxm
  have x1 := hwat.sub 1 rfl
  have x2 := hwat.sub 2 rfl
  have x3 := hwat.sub 3 rfl
  have x4 := hwat.sub 4 rfl
  have hlat := MdH.lat (M := M) hgm
  have g1 := hlat.sub 1 rfl
  have g2 := hlat.sub 2 rfl
  rw [hq] at x1
  clear hwat hlat
  have hCalls : Sees M.sp x.cA x.calls.length 1 ((c :: r).flatMap CallH.enc) := by rw [← hc]; exact MdH.wca hxm
  have hcl : x.calls.length = (c :: r).length := by rw [hc]
  have hheld := Held_ok M hm q n.seq
  unfold MdP.shows
  unfold Nt.v
  refine FnOk.start Try.func60 rfl rfl rfl rfl fun F os tape output => ?_
  refine go 200 ?_
  conv => whnf
  refine Nx.bind (l := 5) (fun b5 => ?_) rfl
  refine Nx.joinR (E := [(0, .c (.v (ptr M.b))), (1, .c (.v (ptr x.b))), (5, .c (.loc 5 0)), (6, .c (.v .nilIface)), (7, .c (.v (ptr M.logs[q].b))), (8, sl c.A c.l.length c.c)]) (M := [(5, 42, [.v (.int .i64 n.who), .v (.int .i64 n.ring), .v (.int .i64 n.deed), .v (.int .i64 n.lo), .v (.int .i64 n.seq), .v (.int .i64 n.x.key), .v (.int .i64 n.x.val), .v (.int .i64 n.code)])]) (B := [(5, b5)]) (R := [(0, M.sp)]) (fun K => ?_) ?_
  · repeat' (first | (with_reducible refine Nx.weak K ?_ ?_ ?_ ?_) <;> (first | ((repeat (first | exact .nil _ | refine .cons rfl ?_ | refine .cons rfl rfl ?_ | refine .cons rfl rfl rfl ?_ | refine .cons' rfl (fun _ => rfl) ?_)); done) | omega | (dsimp only; omega) | (repeat (first | exact subE.nil _ | refine subE.cons rfl rfl ?_ | refine subE.cons' rfl (fun _ => rfl) ?_ | (refine subE.cons rfl ?_ ?_; · (simp; done))); done) | skip) | ((first | refine BrM.t rfl ?_ | refine BrM.f rfl ?_ | refine BrM.dec (fun _ => ?_) (fun _ => ?_) | refine BrM.mk (fun _ => ?_) (fun _ => ?_) | refine Ar.i64 (by omega) (by omega) ?_ | refine gR rfl ?_ | refine gP rfl (by repeat constructor) ?_) <;> conv => whnf) | (refine dN 1 [0] [0,4,8,13,16,20,24,29,32,37,40,44,48,53,56,61,64,68] rfl (by kernel_rfl) rfl (by kernel_rfl) rfl (by repeat constructor) rfl ?_) | (refine atHoIdx ?_; refine Nx.hoIdx 0 (j := q) rfl rfl rfl Try.underlying73 rfl rfl rfl LogH.pt_len hL rfl (by omega) (by omega) fun _ _ _ => ?_) | (refine atHoIdx ?_; refine Nx.hoIdx 0 (j := 0) rfl rfl rfl Try.underlying102 rfl rfl rfl CallH.enc_len hCalls hcl rfl (by simp) fun b p hq => ?_; have hq2 : SeesAt M.sp b p c.enc := hq) | (refine atHoLoad ?_; first | refine hL1 rfl rfl rfl rfl (SeesAt.sub (by assumption) _ rfl) (by repeat constructor) rfl ?_ | refine hL1 rfl rfl rfl rfl (by assumption) (by repeat constructor) rfl ?_ | refine hLm rfl rfl rfl rfl (by assumption) (by repeat constructor) rfl rfl ?_) | refine Nx.late ?_)
  rw [hgq]
  refine go 1 ?_
  conv => whnf
  refine Nx.joinR (E := [(0, .c (.v (ptr M.b))), (1, .c (.v (ptr x.b))), (5, .c (.loc 5 0)), (6, .c (.v .nilIface)), (7, .c (.v (ptr g.b))), (8, sl c.A c.l.length c.c), (9, iv (x.first + x.shown))]) (M := [(5, 42, [.v (.int .i64 n.who), .v (.int .i64 n.ring), .v (.int .i64 n.deed), .v (.int .i64 n.lo), .v (.int .i64 n.seq), .v (.int .i64 n.x.key), .v (.int .i64 n.x.val), .v (.int .i64 n.code)])]) (B := [(5, b5)]) (R := [(0, M.sp)]) (fun K => ?_) ?_
  · repeat' (first | (with_reducible refine Nx.weak K ?_ ?_ ?_ ?_) <;> (first | ((repeat (first | exact .nil _ | refine .cons rfl ?_ | refine .cons rfl rfl ?_ | refine .cons rfl rfl rfl ?_ | refine .cons' rfl (fun _ => rfl) ?_)); done) | omega | (dsimp only; omega) | (repeat (first | exact subE.nil _ | refine subE.cons rfl rfl ?_ | refine subE.cons' rfl (fun _ => rfl) ?_ | (refine subE.cons rfl ?_ ?_; · (simp; done))); done) | skip) | ((first | refine BrM.t rfl ?_ | refine BrM.f rfl ?_ | refine BrM.dec (fun _ => ?_) (fun _ => ?_) | refine BrM.mk (fun _ => ?_) (fun _ => ?_) | refine Ar.i64 (by omega) (by omega) ?_ | refine gR rfl ?_ | refine gP rfl (by repeat constructor) ?_) <;> conv => whnf) | (refine dN 2 [0] [0,4,8,13,16,20,24,29,32,36] rfl (by kernel_rfl) rfl (by kernel_rfl) rfl (by repeat constructor) rfl ?_) | (refine atHoLoad ?_; first | refine hL1 rfl rfl rfl rfl (SeesAt.sub (by assumption) _ rfl) (by repeat constructor) rfl ?_ | refine hL1 rfl rfl rfl rfl (by assumption) (by repeat constructor) rfl ?_ | refine hLm rfl rfl rfl rfl (by assumption) (by repeat constructor) rfl rfl ?_) | refine Nx.late ?_)
  refine go 1 ?_
  conv => whnf
  by_cases d1 : n.lo < 0 ∨ n.seq < n.lo ∨ 4611686018427387904 < n.seq
  · rw [if_pos d1]
    repeat' (first | ((first | refine BrM.yes (by omega) ?_ | refine BrM.not (by omega) ?_ | refine BrM.t rfl ?_ | refine BrM.f rfl ?_ | refine BrM.dec (fun _ => ?_) (fun _ => ?_) | refine BrM.mk (fun _ => ?_) (fun _ => ?_) | refine Ar.i64 (by omega) (by omega) ?_ | refine gO rfl ?_ | refine gP rfl (by repeat constructor) ?_) <;> conv => whnf) | (refine dN 5 [0] [0,4,8,13,16,20,24,29,32,36,40,44,48,53,56,61,64,68,72,76,80,84,89,92,96,100,104] rfl (by kernel_rfl) rfl (by kernel_rfl) rfl (by repeat constructor) rfl ?_) | (refine dN 9 [0] [0,4,8,13,16,20,24,29,32,36,40,45,48,52,56,60,64,69,72,76,80,85,88,92,96,100,104] rfl (by kernel_rfl) rfl (by kernel_rfl) rfl (by repeat constructor) rfl ?_) | (refine dN 11 [0] [0,4,8,12,17,20,25,30,32] rfl (by kernel_rfl) rfl (by kernel_rfl) rfl (by repeat constructor) rfl ?_) | (refine atHoLoad ?_; first | refine hL1 rfl rfl rfl rfl (SeesAt.sub (by assumption) _ rfl) (by repeat constructor) rfl ?_ | refine hL1 rfl rfl rfl rfl (by assumption) (by repeat constructor) rfl ?_ | refine hLm rfl rfl rfl rfl (by assumption) (by repeat constructor) rfl rfl ?_) | (refine atLoad ?_; refine Nx.load1 0 rfl rfl rfl rfl (g1) rfl ?_) | (refine (atCall 37) ?_; refine Nx.call [] [9] rfl rfl rfl rfl rfl ((wrong_ok _ _ 5)) rfl fun v Q hQ => ?_; obtain ⟨b,rfl,rfl⟩ := hQ) | (refine atRet ?_; refine Nx.ret [0,9] Try.func60 rfl rfl ?_; (exact MdQ.yes rfl (by decide))) | refine Nx.late ?_)
  rw [if_neg d1]
  replace hheld := hheld (by omega)
  have exs : x.p.shown = x.shown := rfl
  have exf : x.p.first = x.first := rfl
  have exr : x.p.ring = q := hq
  rw [exs, exf, exr]
  by_cases d2 : (0 < x.shown ∧ n.lo ≠ x.first + x.shown) ∨ (c.l.length : Int) - x.shown ≤ n.seq - n.lo
  · rw [if_pos d2]
    repeat' (first | ((first | refine BrM.yes (by omega) ?_ | refine BrM.not (by omega) ?_ | refine BrM.t rfl ?_ | refine BrM.f rfl ?_ | refine BrM.dec (fun _ => ?_) (fun _ => ?_) | refine BrM.mk (fun _ => ?_) (fun _ => ?_) | refine Ar.i64 (by omega) (by omega) ?_ | refine gO rfl ?_ | refine gP rfl (by repeat constructor) ?_) <;> conv => whnf) | (refine dN 5 [0] [0,4,8,13,16,20,24,29,32,36,40,44,48,53,56,61,64,68,72,76,80,84,89,92,96,100,104] rfl (by kernel_rfl) rfl (by kernel_rfl) rfl (by repeat constructor) rfl ?_) | (refine dN 9 [0] [0,4,8,13,16,20,24,29,32,36,40,45,48,52,56,60,64,69,72,76,80,85,88,92,96,100,104] rfl (by kernel_rfl) rfl (by kernel_rfl) rfl (by repeat constructor) rfl ?_) | (refine dN 11 [0] [0,4,8,12,17,20,25,30,32] rfl (by kernel_rfl) rfl (by kernel_rfl) rfl (by repeat constructor) rfl ?_) | (refine atHoLoad ?_; first | refine hL1 rfl rfl rfl rfl (SeesAt.sub (by assumption) _ rfl) (by repeat constructor) rfl ?_ | refine hL1 rfl rfl rfl rfl (by assumption) (by repeat constructor) rfl ?_ | refine hLm rfl rfl rfl rfl (by assumption) (by repeat constructor) rfl rfl ?_) | (refine atLoad ?_; refine Nx.load1 0 rfl rfl rfl rfl (g1) rfl ?_) | (refine (atCall 37) ?_; refine Nx.call [] [9] rfl rfl rfl rfl rfl ((wrong_ok _ _ 1)) rfl fun v Q hQ => ?_; obtain ⟨b,rfl,rfl⟩ := hQ) | (refine atRet ?_; refine Nx.ret [0,9] Try.func60 rfl rfl ?_; (exact MdQ.yes rfl (by decide))) | refine Nx.late ?_)
  rw [if_neg d2]
  by_cases d3 : (g.g.many = true ∧ n.seq ≠ n.lo) ∨ (g.g.many = false ∧ n.seq - n.lo ≠ (c.l.length : Int) - 1)
  · rw [if_pos d3]
    cases hmany : g.g.many with
    | true =>
      rw [hmany] at g1
      have d3' : n.seq ≠ n.lo := by rcases d3 with d | d; exact d.2; rw [hmany] at d; cases d.1
      repeat' (first | ((first | refine BrM.yes (by omega) ?_ | refine BrM.not (by omega) ?_ | refine BrM.t rfl ?_ | refine BrM.f rfl ?_ | refine BrM.dec (fun _ => ?_) (fun _ => ?_) | refine BrM.mk (fun _ => ?_) (fun _ => ?_) | refine Ar.i64 (by omega) (by omega) ?_ | refine gO rfl ?_ | refine gP rfl (by repeat constructor) ?_) <;> conv => whnf) | (refine dN 5 [0] [0,4,8,13,16,20,24,29,32,36,40,44,48,53,56,61,64,68,72,76,80,84,89,92,96,100,104] rfl (by kernel_rfl) rfl (by kernel_rfl) rfl (by repeat constructor) rfl ?_) | (refine dN 9 [0] [0,4,8,13,16,20,24,29,32,36,40,45,48,52,56,60,64,69,72,76,80,85,88,92,96,100,104] rfl (by kernel_rfl) rfl (by kernel_rfl) rfl (by repeat constructor) rfl ?_) | (refine dN 11 [0] [0,4,8,12,17,20,25,30,32] rfl (by kernel_rfl) rfl (by kernel_rfl) rfl (by repeat constructor) rfl ?_) | (refine atHoLoad ?_; first | refine hL1 rfl rfl rfl rfl (SeesAt.sub (by assumption) _ rfl) (by repeat constructor) rfl ?_ | refine hL1 rfl rfl rfl rfl (by assumption) (by repeat constructor) rfl ?_ | refine hLm rfl rfl rfl rfl (by assumption) (by repeat constructor) rfl rfl ?_) | (refine atLoad ?_; refine Nx.load1 0 rfl rfl rfl rfl (g1) rfl ?_) | (refine (atCall 37) ?_; refine Nx.call [] [9] rfl rfl rfl rfl rfl ((wrong_ok _ _ 1)) rfl fun v Q hQ => ?_; obtain ⟨b,rfl,rfl⟩ := hQ) | (refine atRet ?_; refine Nx.ret [0,9] Try.func60 rfl rfl ?_; (exact MdQ.yes rfl (by decide))) | refine Nx.late ?_)
    | false =>
      rw [hmany] at g1
      have d3' : n.seq - n.lo ≠ (c.l.length : Int) - 1 := by rcases d3 with d | d; rw [hmany] at d; cases d.1; exact d.2
      repeat' (first | ((first | refine BrM.yes (by omega) ?_ | refine BrM.not (by omega) ?_ | refine BrM.t rfl ?_ | refine BrM.f rfl ?_ | refine BrM.dec (fun _ => ?_) (fun _ => ?_) | refine BrM.mk (fun _ => ?_) (fun _ => ?_) | refine Ar.i64 (by omega) (by omega) ?_ | refine gO rfl ?_ | refine gP rfl (by repeat constructor) ?_) <;> conv => whnf) | (refine dN 5 [0] [0,4,8,13,16,20,24,29,32,36,40,44,48,53,56,61,64,68,72,76,80,84,89,92,96,100,104] rfl (by kernel_rfl) rfl (by kernel_rfl) rfl (by repeat constructor) rfl ?_) | (refine dN 9 [0] [0,4,8,13,16,20,24,29,32,36,40,45,48,52,56,60,64,69,72,76,80,85,88,92,96,100,104] rfl (by kernel_rfl) rfl (by kernel_rfl) rfl (by repeat constructor) rfl ?_) | (refine dN 11 [0] [0,4,8,12,17,20,25,30,32] rfl (by kernel_rfl) rfl (by kernel_rfl) rfl (by repeat constructor) rfl ?_) | (refine atHoLoad ?_; first | refine hL1 rfl rfl rfl rfl (SeesAt.sub (by assumption) _ rfl) (by repeat constructor) rfl ?_ | refine hL1 rfl rfl rfl rfl (by assumption) (by repeat constructor) rfl ?_ | refine hLm rfl rfl rfl rfl (by assumption) (by repeat constructor) rfl rfl ?_) | (refine atLoad ?_; refine Nx.load1 0 rfl rfl rfl rfl (g1) rfl ?_) | (refine (atCall 37) ?_; refine Nx.call [] [9] rfl rfl rfl rfl rfl ((wrong_ok _ _ 1)) rfl fun v Q hQ => ?_; obtain ⟨b,rfl,rfl⟩ := hQ) | (refine atRet ?_; refine Nx.ret [0,9] Try.func60 rfl rfl ?_; (exact MdQ.yes rfl (by decide))) | refine Nx.late ?_)
  rw [if_neg d3]
  have many3 : (g.g.many = true → n.seq = n.lo) ∧ (g.g.many = false → n.seq - n.lo = (c.l.length : Int) - 1) := by
    refine ⟨fun h => Decidable.byContradiction fun e => d3 (.inl ⟨h, e⟩), fun h => Decidable.byContradiction fun e => d3 (.inr ⟨h, e⟩)⟩
  by_cases d4 : (g.g.many = false ∧ n.lo ≠ g.g.l.length) ∨ (g.g.l.length : Int) + 8192 < n.lo
  · rw [if_pos d4]
    cases hmany : g.g.many with
    | true =>
      have d3' := many3.1 hmany
      rw [hmany] at g1
      have d4' : (g.g.l.length : Int) + 8192 < n.lo := by rcases d4 with d | d; rw [hmany] at d; cases d.1; exact d
      repeat' (first | ((first | refine BrM.yes (by omega) ?_ | refine BrM.not (by omega) ?_ | refine BrM.t rfl ?_ | refine BrM.f rfl ?_ | refine BrM.dec (fun _ => ?_) (fun _ => ?_) | refine BrM.mk (fun _ => ?_) (fun _ => ?_) | refine Ar.i64 (by omega) (by omega) ?_ | refine gO rfl ?_ | refine gP rfl (by repeat constructor) ?_) <;> conv => whnf) | (refine dN 5 [0] [0,4,8,13,16,20,24,29,32,36,40,44,48,53,56,61,64,68,72,76,80,84,89,92,96,100,104] rfl (by kernel_rfl) rfl (by kernel_rfl) rfl (by repeat constructor) rfl ?_) | (refine dN 9 [0] [0,4,8,13,16,20,24,29,32,36,40,45,48,52,56,60,64,69,72,76,80,85,88,92,96,100,104] rfl (by kernel_rfl) rfl (by kernel_rfl) rfl (by repeat constructor) rfl ?_) | (refine dN 11 [0] [0,4,8,12,17,20,25,30,32] rfl (by kernel_rfl) rfl (by kernel_rfl) rfl (by repeat constructor) rfl ?_) | (refine atHoLoad ?_; first | refine hL1 rfl rfl rfl rfl (SeesAt.sub (by assumption) _ rfl) (by repeat constructor) rfl ?_ | refine hL1 rfl rfl rfl rfl (by assumption) (by repeat constructor) rfl ?_ | refine hLm rfl rfl rfl rfl (by assumption) (by repeat constructor) rfl rfl ?_) | (refine atLoad ?_; refine Nx.load1 0 rfl rfl rfl rfl (g1) rfl ?_) | (refine (atCall 37) ?_; refine Nx.call [] [9] rfl rfl rfl rfl rfl ((wrong_ok _ _ 12)) rfl fun v Q hQ => ?_; obtain ⟨b,rfl,rfl⟩ := hQ) | (refine atRet ?_; refine Nx.ret [0,9] Try.func60 rfl rfl ?_; (exact MdQ.yes rfl (by decide))) | refine Nx.late ?_)
    | false =>
      have d3' := many3.2 hmany
      rw [hmany] at g1
      have d4' : n.lo ≠ g.g.l.length ∨ (g.g.l.length : Int) + 8192 < n.lo := by rcases d4 with d | d; exact .inl d.2; exact .inr d
      repeat' (first | ((first | refine BrM.yes (by omega) ?_ | refine BrM.not (by omega) ?_ | refine BrM.t rfl ?_ | refine BrM.f rfl ?_ | refine BrM.dec (fun _ => ?_) (fun _ => ?_) | refine BrM.mk (fun _ => ?_) (fun _ => ?_) | refine Ar.i64 (by omega) (by omega) ?_ | refine gO rfl ?_ | refine gP rfl (by repeat constructor) ?_) <;> conv => whnf) | (refine dN 5 [0] [0,4,8,13,16,20,24,29,32,36,40,44,48,53,56,61,64,68,72,76,80,84,89,92,96,100,104] rfl (by kernel_rfl) rfl (by kernel_rfl) rfl (by repeat constructor) rfl ?_) | (refine dN 9 [0] [0,4,8,13,16,20,24,29,32,36,40,45,48,52,56,60,64,69,72,76,80,85,88,92,96,100,104] rfl (by kernel_rfl) rfl (by kernel_rfl) rfl (by repeat constructor) rfl ?_) | (refine dN 11 [0] [0,4,8,12,17,20,25,30,32] rfl (by kernel_rfl) rfl (by kernel_rfl) rfl (by repeat constructor) rfl ?_) | (refine atHoLoad ?_; first | refine hL1 rfl rfl rfl rfl (SeesAt.sub (by assumption) _ rfl) (by repeat constructor) rfl ?_ | refine hL1 rfl rfl rfl rfl (by assumption) (by repeat constructor) rfl ?_ | refine hLm rfl rfl rfl rfl (by assumption) (by repeat constructor) rfl rfl ?_) | (refine atLoad ?_; refine Nx.load1 0 rfl rfl rfl rfl (g1) rfl ?_) | (refine (atCall 37) ?_; refine Nx.call [] [9] rfl rfl rfl rfl rfl ((wrong_ok _ _ 12)) rfl fun v Q hQ => ?_; obtain ⟨b,rfl,rfl⟩ := hQ) | (refine atRet ?_; refine Nx.ret [0,9] Try.func60 rfl rfl ?_; (exact MdQ.yes rfl (by decide))) | refine Nx.late ?_)
  rw [if_neg d4]
  have many4 : g.g.many = false → n.lo = g.g.l.length := fun h => Decidable.byContradiction fun e => d4 (.inl ⟨h, e⟩)
  have d4n : n.lo ≤ (g.g.l.length : Int) + 8192 := by
    by_cases e : (g.g.l.length : Int) + 8192 < n.lo
    · exact absurd (.inr e) d4
    · omega
  cases d5 : M.p.held q n.seq with
  | true =>
    rw [if_pos rfl]
    rw [d5] at hheld
    cases hmany : g.g.many with
    | true =>
      have d3' := many3.1 hmany
      rw [hmany] at g1
      repeat' (first | ((first | refine BrM.yes (by omega) ?_ | refine BrM.not (by omega) ?_ | refine BrM.t rfl ?_ | refine BrM.f rfl ?_ | refine BrM.dec (fun _ => ?_) (fun _ => ?_) | refine BrM.mk (fun _ => ?_) (fun _ => ?_) | refine Ar.i64 (by omega) (by omega) ?_ | refine gO rfl ?_ | refine gP rfl (by repeat constructor) ?_) <;> conv => whnf) | (refine dN 5 [0] [0,4,8,13,16,20,24,29,32,36,40,44,48,53,56,61,64,68,72,76,80,84,89,92,96,100,104] rfl (by kernel_rfl) rfl (by kernel_rfl) rfl (by repeat constructor) rfl ?_) | (refine dN 9 [0] [0,4,8,13,16,20,24,29,32,36,40,45,48,52,56,60,64,69,72,76,80,85,88,92,96,100,104] rfl (by kernel_rfl) rfl (by kernel_rfl) rfl (by repeat constructor) rfl ?_) | (refine dN 11 [0] [0,4,8,12,17,20,25,30,32] rfl (by kernel_rfl) rfl (by kernel_rfl) rfl (by repeat constructor) rfl ?_) | (refine atHoLoad ?_; first | refine hL1 rfl rfl rfl rfl (SeesAt.sub (by assumption) _ rfl) (by repeat constructor) rfl ?_ | refine hL1 rfl rfl rfl rfl (by assumption) (by repeat constructor) rfl ?_ | refine hLm rfl rfl rfl rfl (by assumption) (by repeat constructor) rfl rfl ?_) | (refine atLoad ?_; refine Nx.load1 0 rfl rfl rfl rfl (g1) rfl ?_) | (refine atCall 14 ?_; refine cE [0] [0] rfl rfl rfl rfl rfl (hheld) rfl ?_) | (refine atAftK ?_; refine Nx.keepN [0] rfl (by repeat constructor) (by repeat constructor) rfl ?_) | (refine (atCall 37) ?_; refine Nx.call [] [9] rfl rfl rfl rfl rfl ((wrong_ok _ _ 10)) rfl fun v Q hQ => ?_; obtain ⟨b,rfl,rfl⟩ := hQ) | (refine atRet ?_; refine Nx.ret [0,9] Try.func60 rfl rfl ?_; (exact MdQ.yes rfl (by decide))) | refine Nx.late ?_)
    | false =>
      have d3' := many3.2 hmany
      have d4' := many4 hmany
      rw [hmany] at g1
      repeat' (first | ((first | refine BrM.yes (by omega) ?_ | refine BrM.not (by omega) ?_ | refine BrM.t rfl ?_ | refine BrM.f rfl ?_ | refine BrM.dec (fun _ => ?_) (fun _ => ?_) | refine BrM.mk (fun _ => ?_) (fun _ => ?_) | refine Ar.i64 (by omega) (by omega) ?_ | refine gO rfl ?_ | refine gP rfl (by repeat constructor) ?_) <;> conv => whnf) | (refine dN 5 [0] [0,4,8,13,16,20,24,29,32,36,40,44,48,53,56,61,64,68,72,76,80,84,89,92,96,100,104] rfl (by kernel_rfl) rfl (by kernel_rfl) rfl (by repeat constructor) rfl ?_) | (refine dN 9 [0] [0,4,8,13,16,20,24,29,32,36,40,45,48,52,56,60,64,69,72,76,80,85,88,92,96,100,104] rfl (by kernel_rfl) rfl (by kernel_rfl) rfl (by repeat constructor) rfl ?_) | (refine dN 11 [0] [0,4,8,12,17,20,25,30,32] rfl (by kernel_rfl) rfl (by kernel_rfl) rfl (by repeat constructor) rfl ?_) | (refine atHoLoad ?_; first | refine hL1 rfl rfl rfl rfl (SeesAt.sub (by assumption) _ rfl) (by repeat constructor) rfl ?_ | refine hL1 rfl rfl rfl rfl (by assumption) (by repeat constructor) rfl ?_ | refine hLm rfl rfl rfl rfl (by assumption) (by repeat constructor) rfl rfl ?_) | (refine atLoad ?_; refine Nx.load1 0 rfl rfl rfl rfl (g1) rfl ?_) | (refine atCall 14 ?_; refine cE [0] [0] rfl rfl rfl rfl rfl (hheld) rfl ?_) | (refine atAftK ?_; refine Nx.keepN [0] rfl (by repeat constructor) (by repeat constructor) rfl ?_) | (refine (atCall 37) ?_; refine Nx.call [] [9] rfl rfl rfl rfl rfl ((wrong_ok _ _ 10)) rfl fun v Q hQ => ?_; obtain ⟨b,rfl,rfl⟩ := hQ) | (refine atRet ?_; refine Nx.ret [0,9] Try.func60 rfl rfl ?_; (exact MdQ.yes rfl (by decide))) | refine Nx.late ?_)
  | false =>
  rw [if_neg (by decide)]
  rw [d5] at hheld
  refine Nx.joinR (E := [(0, .c (.v (ptr M.b))), (1, .c (.v (ptr x.b))), (5, .c (.loc 5 0)), (6, .c (.v .nilIface)), (7, .c (.v (ptr g.b))), (8, sl c.A c.l.length c.c)]) (M := [(5, 42, [.v (.int .i64 n.who), .v (.int .i64 n.ring), .v (.int .i64 n.deed), .v (.int .i64 n.lo), .v (.int .i64 n.seq), .v (.int .i64 n.x.key), .v (.int .i64 n.x.val), .v (.int .i64 n.code)])]) (B := [(5, b5)]) (R := [(0, M.sp)]) (fun K => ?_) ?_
  · cases hmany : g.g.many with
    | true =>
      have d3' := many3.1 hmany
      rw [hmany] at g1
      repeat' (first | (with_reducible refine Nx.weak K ?_ ?_ ?_ ?_) <;> (first | ((repeat (first | exact .nil _ | refine .cons rfl ?_ | refine .cons rfl rfl ?_ | refine .cons rfl rfl rfl ?_ | refine .cons' rfl (fun _ => rfl) ?_)); done) | omega | (dsimp only; omega) | (repeat (first | exact subE.nil _ | refine subE.cons rfl rfl ?_ | refine subE.cons' rfl (fun _ => rfl) ?_ | (refine subE.cons rfl ?_ ?_; · (simp; done))); done) | skip) | ((first | refine BrM.yes (by omega) ?_ | refine BrM.not (by omega) ?_ | refine BrM.t rfl ?_ | refine BrM.f rfl ?_ | refine BrM.dec (fun _ => ?_) (fun _ => ?_) | refine BrM.mk (fun _ => ?_) (fun _ => ?_) | refine Ar.i64 (by omega) (by omega) ?_ | refine gR rfl ?_ | refine gP rfl (by repeat constructor) ?_) <;> conv => whnf) | (refine dN 5 [0] [0,4,8,13,16,20,24,29,32,36,40,44,48,53,56,61,64,68,72,76,80,84,89,92,96,100,104] rfl (by kernel_rfl) rfl (by kernel_rfl) rfl (by repeat constructor) rfl ?_) | (refine dN 9 [0] [0,4,8,13,16,20,24,29,32,36,40,45,48,52,56,60,64,69,72,76,80,85,88,92,96,100,104] rfl (by kernel_rfl) rfl (by kernel_rfl) rfl (by repeat constructor) rfl ?_) | (refine dN 11 [0] [0,4,8,12,17,20,25,30,32] rfl (by kernel_rfl) rfl (by kernel_rfl) rfl (by repeat constructor) rfl ?_) | (refine atHoLoad ?_; first | refine hL1 rfl rfl rfl rfl (SeesAt.sub (by assumption) _ rfl) (by repeat constructor) rfl ?_ | refine hL1 rfl rfl rfl rfl (by assumption) (by repeat constructor) rfl ?_ | refine hLm rfl rfl rfl rfl (by assumption) (by repeat constructor) rfl rfl ?_) | (refine atLoad ?_; refine Nx.load1 0 rfl rfl rfl rfl (g1) rfl ?_) | (refine atCall 14 ?_; refine cE [0] [0] rfl rfl rfl rfl rfl (hheld) rfl ?_) | (refine atAftK ?_; refine Nx.keepN [0] rfl (by repeat constructor) (by repeat constructor) rfl ?_) | refine Nx.late ?_)
    | false =>
      have d3' := many3.2 hmany
      have d4' := many4 hmany
      rw [hmany] at g1
      repeat' (first | (with_reducible refine Nx.weak K ?_ ?_ ?_ ?_) <;> (first | ((repeat (first | exact .nil _ | refine .cons rfl ?_ | refine .cons rfl rfl ?_ | refine .cons rfl rfl rfl ?_ | refine .cons' rfl (fun _ => rfl) ?_)); done) | omega | (dsimp only; omega) | (repeat (first | exact subE.nil _ | refine subE.cons rfl rfl ?_ | refine subE.cons' rfl (fun _ => rfl) ?_ | (refine subE.cons rfl ?_ ?_; · (simp; done))); done) | skip) | ((first | refine BrM.yes (by omega) ?_ | refine BrM.not (by omega) ?_ | refine BrM.t rfl ?_ | refine BrM.f rfl ?_ | refine BrM.dec (fun _ => ?_) (fun _ => ?_) | refine BrM.mk (fun _ => ?_) (fun _ => ?_) | refine Ar.i64 (by omega) (by omega) ?_ | refine gR rfl ?_ | refine gP rfl (by repeat constructor) ?_) <;> conv => whnf) | (refine dN 5 [0] [0,4,8,13,16,20,24,29,32,36,40,44,48,53,56,61,64,68,72,76,80,84,89,92,96,100,104] rfl (by kernel_rfl) rfl (by kernel_rfl) rfl (by repeat constructor) rfl ?_) | (refine dN 9 [0] [0,4,8,13,16,20,24,29,32,36,40,45,48,52,56,60,64,69,72,76,80,85,88,92,96,100,104] rfl (by kernel_rfl) rfl (by kernel_rfl) rfl (by repeat constructor) rfl ?_) | (refine dN 11 [0] [0,4,8,12,17,20,25,30,32] rfl (by kernel_rfl) rfl (by kernel_rfl) rfl (by repeat constructor) rfl ?_) | (refine atHoLoad ?_; first | refine hL1 rfl rfl rfl rfl (SeesAt.sub (by assumption) _ rfl) (by repeat constructor) rfl ?_ | refine hL1 rfl rfl rfl rfl (by assumption) (by repeat constructor) rfl ?_ | refine hLm rfl rfl rfl rfl (by assumption) (by repeat constructor) rfl rfl ?_) | (refine atLoad ?_; refine Nx.load1 0 rfl rfl rfl rfl (g1) rfl ?_) | (refine atCall 14 ?_; refine cE [0] [0] rfl rfl rfl rfl rfl (hheld) rfl ?_) | (refine atAftK ?_; refine Nx.keepN [0] rfl (by repeat constructor) (by repeat constructor) rfl ?_) | refine Nx.late ?_)
  refine go 1 ?_
  conv => whnf
  obtain ⟨cnt, hcnt⟩ : ∃ cnt : Nat, n.seq - n.lo + 1 = cnt := ⟨(n.seq - n.lo + 1).toNat, by omega⟩
  have ecnt : (n.seq - n.lo + 1).toNat = cnt := by omega
  obtain ⟨lo, hlo⟩ : ∃ lo : Nat, n.lo = lo := ⟨n.lo.toNat, by omega⟩
  have elo : n.lo.toNat = lo := by omega
  rw [ecnt, elo]
  have hcs : x.shown + cnt ≤ c.l.length := by
    by_cases e : (c.l.length : Int) - x.shown ≤ n.seq - n.lo
    · exact absurd (.inr e) d2
    · omega
  refine Nx.joinX (X := PLift (∀ p : Nat, p < cnt → g.g.pub (n.lo + p) = false)) (E := fun _ => [(0, .c (.v (ptr M.b))), (1, .c (.v (ptr x.b))), (5, .c (.loc 5 0)), (7, .c (.v (ptr g.b))), (8, sl c.A c.l.length c.c)]) (M := fun _ => [(5, 42, [.v (.int .i64 n.who), .v (.int .i64 n.ring), .v (.int .i64 n.deed), .v (.int .i64 n.lo), .v (.int .i64 n.seq), .v (.int .i64 n.x.key), .v (.int .i64 n.x.val), .v (.int .i64 n.code)])]) (B := [(5, b5)]) (R := fun _ => [(0, M.sp)]) (fun K => ?_) (fun hpub => ?_)
  · repeat' (first | (with_reducible refine Nx.weak K ?_ ?_ ?_ ?_) <;> (first | ((repeat (first | exact .nil _ | refine .cons rfl ?_ | refine .cons rfl rfl ?_ | refine .cons rfl rfl rfl ?_ | refine .cons' rfl (fun _ => rfl) ?_)); done) | omega | (dsimp only; omega) | (repeat (first | exact subE.nil _ | refine subE.cons rfl rfl ?_ | refine subE.cons' rfl (fun _ => rfl) ?_ | (refine subE.cons rfl ?_ ?_; · (simp; done))); done) | skip) | ((first | refine BrM.t rfl ?_ | refine BrM.f rfl ?_ | refine BrM.dec (fun _ => ?_) (fun _ => ?_) | refine BrM.mk (fun _ => ?_) (fun _ => ?_) | refine Ar.i64 (by omega) (by omega) ?_ | refine gR rfl ?_ | refine gP rfl (by repeat constructor) ?_) <;> conv => whnf) | (fail) | refine Nx.late ?_)
    refine Nx.loop (X := Nat) (fun i => i ≤ cnt ∧ ∀ p : Nat, p < i → g.g.pub (n.lo + p) = false) (fun i => cnt - i)
      (fun i => [(0, .c (.v (ptr M.b))), (1, .c (.v (ptr x.b))), (5, .c (.loc 5 0)), (7, .c (.v (ptr g.b))), (8, sl c.A c.l.length c.c), (10, iv (n.lo + i))]) (fun _ => [(5, 42, [.v (.int .i64 n.who), .v (.int .i64 n.ring), .v (.int .i64 n.deed), .v (.int .i64 n.lo), .v (.int .i64 n.seq), .v (.int .i64 n.x.key), .v (.int .i64 n.x.val), .v (.int .i64 n.code)])]) [(5, b5)] (fun _ => [(0, M.sp)]) 0 ⟨Nat.zero_le _, fun i hi => by omega⟩ ?_ ?_ ?_ ?_ ?_
    · exact .cons rfl rfl (.cons rfl rfl (.cons rfl rfl (.cons rfl rfl (.cons rfl rfl (.cons rfl (by simp) (.nil _))))))
    all_goals repeat (first | exact .nil _ | refine .cons rfl ?_ | refine .cons rfl rfl ?_ | refine .cons rfl rfl rfl ?_ | refine .cons' rfl (fun _ => rfl) ?_)
    intro i ⟨hi, hno⟩ ih
    by_cases hlt : i < cnt
    · have hp := published_ok M hgm ⟨hgp.1, hgp.2.1⟩ (n.lo + i)
      cases hpub : g.g.pub (n.lo + i) with
      | true =>
        rw [hpub] at hp
        rw [anyPub_yes hlt hpub, if_pos rfl]
        repeat' (first | ((first | refine BrM.yes (by omega) ?_ | refine BrM.t rfl ?_ | refine BrM.f rfl ?_ | refine BrM.dec (fun _ => ?_) (fun _ => ?_) | refine BrM.mk (fun _ => ?_) (fun _ => ?_) | refine Ar.i64 (by omega) (by omega) ?_ | refine gO rfl ?_ | refine gP rfl (by repeat constructor) ?_) <;> conv => whnf) | (refine atCall 34 ?_; refine cE [0] [0] rfl rfl rfl rfl rfl (hp) rfl ?_) | (refine (atCall 37) ?_; refine Nx.call [] [9] rfl rfl rfl rfl rfl ((wrong_ok _ _ 4)) rfl fun v Q hQ => ?_; obtain ⟨b,rfl,rfl⟩ := hQ) | (refine atRet ?_; refine Nx.ret [0,9] Try.func60 rfl rfl ?_; (exact MdQ.yes rfl (by decide))) | refine Nx.late ?_)
      | false =>
        rw [hpub] at hp
        repeat' (first | ((first | refine BrM.yes (by omega) ?_ | refine BrM.t rfl ?_ | refine BrM.f rfl ?_ | refine BrM.dec (fun _ => ?_) (fun _ => ?_) | refine BrM.mk (fun _ => ?_) (fun _ => ?_) | refine Ar.i64 (by omega) (by omega) ?_ | refine gO rfl ?_ | refine gP rfl (by repeat constructor) ?_) <;> conv => whnf) | (refine atCall 34 ?_; refine cE [0] [0] rfl rfl rfl rfl rfl (hp) rfl ?_) | refine Nx.late ?_)
        refine (ih (i + 1) ⟨by omega, fun p hp => ?_⟩ (by omega)).weak ?_ ?_ ?_ ?_
        · by_cases e : p = i
          · subst e; exact hpub
          · exact hno p (by omega)
        · exact .cons rfl rfl (.cons rfl rfl (.cons rfl rfl (.cons rfl rfl (.cons rfl rfl (.cons rfl (by simp; omega) (.nil _))))))
        all_goals repeat (first | exact .nil _ | refine .cons rfl ?_ | refine .cons rfl rfl ?_ | refine .cons rfl rfl rfl ?_ | refine .cons' rfl (fun _ => rfl) ?_)
    · repeat' (first | (with_reducible refine Nx.weak K ?_ ?_ ?_ ?_) <;> (first | ((repeat (first | exact .nil _ | refine .cons rfl ?_ | refine .cons rfl rfl ?_ | refine .cons rfl rfl rfl ?_ | refine .cons' rfl (fun _ => rfl) ?_)); done) | omega | (dsimp only; omega) | (repeat (first | exact subE.nil _ | refine subE.cons rfl rfl ?_ | refine subE.cons' rfl (fun _ => rfl) ?_ | (refine subE.cons rfl ?_ ?_; · (simp; done))); done) | skip) | ((with_reducible refine Nx.weak (K ?_) ?_ ?_ ?_ ?_) <;> (first | exact ⟨fun p hp => hno p (by omega)⟩ | (first | ((repeat (first | exact .nil _ | refine .cons rfl ?_ | refine .cons rfl rfl ?_ | refine .cons rfl rfl rfl ?_ | refine .cons' rfl (fun _ => rfl) ?_)); done) | omega | (dsimp only; omega) | (repeat (first | exact subE.nil _ | refine subE.cons rfl rfl ?_ | refine subE.cons' rfl (fun _ => rfl) ?_ | (refine subE.cons rfl ?_ ?_; · (simp; done))); done)) | skip)) | ((first | refine BrM.not (by omega) ?_ | refine BrM.t rfl ?_ | refine BrM.f rfl ?_ | refine BrM.dec (fun _ => ?_) (fun _ => ?_) | refine BrM.mk (fun _ => ?_) (fun _ => ?_) | refine Ar.i64 (by omega) (by omega) ?_ | refine gR rfl ?_ | refine gP rfl (by repeat constructor) ?_) <;> conv => whnf) | refine Nx.late ?_)
  obtain ⟨hpub⟩ := hpub
  rw [anyPub_nil hpub, if_neg (by decide)]
  refine go 1 ?_
  conv => whnf
  obtain ⟨f0, hf0⟩ : ∃ f : Int, f = if x.shown = 0 then n.lo else x.first := ⟨_, rfl⟩
  obtain ⟨yA, hyA⟩ : ∃ yA : Nat → WrH, ∀ i, yA i = { x with first := f0, shown := x.shown + i } := ⟨_, fun _ => rfl⟩
  refine Nx.joinR (E := [(0, .c (.v (ptr M.b))), (1, .c (.v (ptr x.b))), (5, .c (.loc 5 0)), (7, .c (.v (ptr g.b))), (8, sl c.A c.l.length c.c)]) (M := [(5, 42, [.v (.int .i64 n.who), .v (.int .i64 n.ring), .v (.int .i64 n.deed), .v (.int .i64 n.lo), .v (.int .i64 n.seq), .v (.int .i64 n.x.key), .v (.int .i64 n.x.val), .v (.int .i64 n.code)])]) (B := [(5, b5)]) (R := [(0, (M.setW k (yA 0)).sp)]) (fun K => ?_) ?_
  · by_cases s0 : x.shown = 0
    · rw [if_pos s0] at hf0
      repeat' (first | (with_reducible refine Nx.weak K ?_ ?_ ?_ ?_) <;> (first | ((repeat (first | exact .nil _ | refine .cons rfl ?_ | refine .cons rfl rfl ?_ | refine .cons rfl rfl rfl ?_ | refine .cons' rfl (fun _ => rfl) ?_)); done) | omega | (dsimp only; omega) | (repeat (first | exact subE.nil _ | refine subE.cons rfl rfl ?_ | refine subE.cons' rfl (fun _ => rfl) ?_ | (refine subE.cons rfl ?_ ?_; · (simp; done))); done) | skip) | ((first | refine BrM.yes (by omega) ?_ | refine BrM.t rfl ?_ | refine BrM.f rfl ?_ | refine BrM.dec (fun _ => ?_) (fun _ => ?_) | refine BrM.mk (fun _ => ?_) (fun _ => ?_) | refine Ar.i64 (by omega) (by omega) ?_ | refine gR rfl ?_ | refine gP rfl (by repeat constructor) ?_) <;> conv => whnf) | (refine atLoad ?_; refine Nx.load1 0 rfl rfl rfl rfl (x4) rfl ?_) | (refine atStore ?_; refine Nx.storeW 0 (M.setW k (yA 0)).sp rfl rfl rfl rfl rfl rfl rfl rfl rfl (MdH.setW_sp hx (by decide) (by rw [hyA]) (by rw [hyA, hf0]; rfl) (by rw [hyA]) (by rw [hyA]) (by rw [hyA])) ?_) | refine Nx.late ?_)
    · rw [if_neg s0] at hf0
      have e : M.setW k (yA 0) = M := by
        have e1 : yA 0 = x := by rw [hyA, hf0]; rfl
        unfold MdH.setW
        rw [e1]
        have e2 : M.writers.set k x = M.writers := by
          have := (List.getElem?_eq_some_iff.1 hx).2
          rw [← this]; exact List.set_getElem_self _
        rw [e2]
      rw [e] at K
      repeat' (first | (with_reducible refine Nx.weak K ?_ ?_ ?_ ?_) <;> (first | ((repeat (first | exact .nil _ | refine .cons rfl ?_ | refine .cons rfl rfl ?_ | refine .cons rfl rfl rfl ?_ | refine .cons' rfl (fun _ => rfl) ?_)); done) | omega | (dsimp only; omega) | (repeat (first | exact subE.nil _ | refine subE.cons rfl rfl ?_ | refine subE.cons' rfl (fun _ => rfl) ?_ | (refine subE.cons rfl ?_ ?_; · (simp; done))); done) | skip) | ((first | refine BrM.not (by omega) ?_ | refine BrM.t rfl ?_ | refine BrM.f rfl ?_ | refine BrM.dec (fun _ => ?_) (fun _ => ?_) | refine BrM.mk (fun _ => ?_) (fun _ => ?_) | refine Ar.i64 (by omega) (by omega) ?_ | refine gR rfl ?_ | refine gP rfl (by repeat constructor) ?_) <;> conv => whnf) | (refine atLoad ?_; refine Nx.load1 0 rfl rfl rfl rfl (x4) rfl ?_) | refine Nx.late ?_)
  obtain ⟨xs, hxs⟩ : ∃ xs, xs = (c.l.drop x.shown).take cnt := ⟨_, rfl⟩
  have hxl : xs.length = cnt := by rw [hxs, List.length_take, List.length_drop]; omega
  rw [← hxs]
  have e0 : (M.setL q g).setW k (yA 0) = M.setW k (yA 0) := by
    unfold MdH.setL MdH.setW
    have e2 : M.logs.set q g = M.logs := by rw [← hgq]; exact List.set_getElem_self _
    rw [e2]
  rw [← e0]
  repeat' (first | ((first | refine BrM.t rfl ?_ | refine BrM.f rfl ?_ | refine BrM.dec (fun _ => ?_) (fun _ => ?_) | refine BrM.mk (fun _ => ?_) (fun _ => ?_) | refine Ar.i64 (by omega) (by omega) ?_ | refine gO rfl ?_ | refine gP rfl (by repeat constructor) ?_) <;> conv => whnf) | (fail) | refine Nx.late ?_)
  refine Nx.loop (X := ShX) (fun s => s.i ≤ cnt ∧ s.gX.b = g.b ∧ s.gX.g = g.g.puts lo (xs.take s.i)) (fun s => cnt - s.i)
    (fun s => [(0, .c (.v (ptr M.b))), (1, .c (.v (ptr x.b))), (5, .c (.loc 5 0)), (7, .c (.v (ptr g.b))), (8, sl c.A c.l.length c.c), (11, iv (n.lo + s.i))]) (fun _ => [(5, 42, [.v (.int .i64 n.who), .v (.int .i64 n.ring), .v (.int .i64 n.deed), .v (.int .i64 n.lo), .v (.int .i64 n.seq), .v (.int .i64 n.x.key), .v (.int .i64 n.x.val), .v (.int .i64 n.code)])]) [(5, b5)] (fun s => [(0, ((M.setL q s.gX).setW k (yA s.i)).sp)]) ⟨g, 0⟩ ⟨Nat.zero_le _, rfl, rfl⟩ ?_ ?_ ?_ ?_ ?_
  · exact .cons rfl rfl (.cons rfl rfl (.cons rfl rfl (.cons rfl rfl (.cons rfl rfl (.cons rfl (by simp) (.nil _))))))
  all_goals repeat (first | exact .nil _ | refine .cons rfl ?_ | refine .cons rfl rfl ?_ | refine .cons rfl rfl rfl ?_ | refine .cons' rfl (fun _ => rfl) ?_)
  intro ⟨gX, i⟩ ⟨hi, hgb, hgg⟩ ih
  dsimp only at hi hgb hgg ih ⊢
  obtain ⟨pa1, _, _, pa4, _⟩ := puts_all (xs.take i) g.g lo hgp.1
  rw [← hgg] at pa1 pa4
  have hgl : gX.g.l.length ≤ 2100000 := by
    by_cases he : xs.take i = []
    · have : gX.g = g.g := by rw [hgg, he]; rfl
      rw [this]; omega
    · rw [pa4 he, List.length_take]; omega
  by_cases hlt : i < cnt
  · obtain ⟨X, hX⟩ : ∃ X : MdH, X = (M.setL q gX).setW k (yA i) := ⟨_, rfl⟩
    rw [← hX]
    have hkl : k < M.writers.length := (List.getElem?_eq_some_iff.1 hx).1
    have hXg : X.logs[q]? = some gX := by rw [hX]; simp [MdH.setL, MdH.setW, List.getElem?_set, hql]
    have hXk : X.writers[k]? = some (yA i) := by rw [hX]; simp [MdH.setL, MdH.setW, List.getElem?_set, hkl]
    have y4 : SeesAt X.sp x.b (addN 0 4) [.int .i64 ((x.shown + i : Nat) : Int)] := by
      have h := (MdH.wat (M := X) (List.mem_of_getElem? hXk)).sub 4 rfl
      rw [hyA] at h
      exact h
    have hEv := MdH.wev (M := X) (List.mem_of_getElem? hXk) (c := c) (by rw [hyA]; exact hcm)
    have hjl : x.shown + i < c.l.length := by omega
    have hput := put_ok gX pa1 hgl (lo + i) (by omega) c.l[x.shown + i]
    rw [show ((lo + i : Nat) : Int) = n.lo + i by omega, hgb] at hput
    repeat' (first | ((first | refine BrM.yes (by omega) ?_ | refine BrM.t rfl ?_ | refine BrM.f rfl ?_ | refine BrM.dec (fun _ => ?_) (fun _ => ?_) | refine BrM.mk (fun _ => ?_) (fun _ => ?_) | refine Ar.i64 (by omega) (by omega) ?_ | refine gO rfl ?_ | refine gP rfl (by repeat constructor) ?_) <;> conv => whnf) | (refine atLoad ?_; refine Nx.load1 0 rfl rfl rfl rfl (y4) rfl ?_) | (refine atIdx ?_; refine Nx.idx 0 (j := (x.shown + i)) rfl rfl rfl Try.underlying36 rfl rfl rfl evC_len hEv rfl (by omega) (by omega) fun _ _ _ => ?_) | (refine atLoad ?_; first | (refine Nx.load1 0 rfl rfl rfl rfl (SeesAt.sub (by assumption) _ rfl) rfl ?_) | (refine Nx.load1 0 rfl rfl rfl rfl (by assumption) rfl ?_) | (refine Nx.load 0 rfl rfl rfl rfl (by assumption) rfl rfl ?_)) | refine Nx.late ?_)
    refine Nx.turn [0] [20, 0] [gX.sp, X.holeL q] rfl (MdH.outL hXg) ?_
    refine Nx.call [20] [20] rfl rfl rfl rfl rfl hput rfl fun v Q hQ => ?_
    obtain ⟨g', egb, egg, rfl⟩ := hQ
    obtain ⟨X2, hX2⟩ : ∃ X2 : MdH, X2 = (M.setL q g').setW k (yA i) := ⟨_, rfl⟩
    have eX : X.setL q g' = X2 := by rw [hX, hX2]; simp [MdH.setL, MdH.setW]
    have hin := MdH.inL (M := X) hXg (y := g') (by rw [egb, hgb])
    rw [eX] at hin
    refine Nx.turn [20, 0] [0] [X2.sp] rfl hin ?_
    have hX2k : X2.writers[k]? = some (yA i) := by rw [hX2]; simp [MdH.setL, MdH.setW, List.getElem?_set, hkl]
    have z4 : SeesAt X2.sp x.b (addN 0 4) [.int .i64 ((x.shown + i : Nat) : Int)] := by
      have h := (MdH.wat (M := X2) (List.mem_of_getElem? hX2k)).sub 4 rfl
      rw [hyA] at h
      exact h
    have hset : SetAt X2.sp x.b 4 (.int .i64 (((x.shown + i : Nat) : Int) + 1)) ((M.setL q g').setW k (yA (i + 1))).sp := by
      have h := MdH.setW_sp (M := X2) hX2k (y := yA (i + 1)) (p := 4) (v := .int .i64 (((x.shown + i : Nat) : Int) + 1)) (by decide) (by rw [hyA, hyA]) (by
        rw [hyA, hyA]
        show [_, _, _, _, _, _] = [_, _, _, _, _, _]
        rfl) (by rw [hyA, hyA]) (by rw [hyA, hyA]) (by rw [hyA, hyA])
      have e1 : X2.setW k (yA (i + 1)) = (M.setL q g').setW k (yA (i + 1)) := by rw [hX2]; simp [MdH.setL, MdH.setW]
      have e2 : (yA i).b = x.b := by rw [hyA]
      rw [e1, e2] at h
      exact h
    repeat' (first | ((first | refine BrM.t rfl ?_ | refine BrM.f rfl ?_ | refine BrM.dec (fun _ => ?_) (fun _ => ?_) | refine BrM.mk (fun _ => ?_) (fun _ => ?_) | refine Ar.i64 (by omega) (by omega) ?_ | refine gO rfl ?_ | refine gP rfl (by repeat constructor) ?_) <;> conv => whnf) | (refine atLoad ?_; refine Nx.load1 0 rfl rfl rfl rfl (z4) rfl ?_) | (refine atStore ?_; refine Nx.storeW 0 ((M.setL q g').setW k (yA (i + 1))).sp rfl rfl rfl rfl rfl rfl rfl rfl rfl hset ?_) | refine Nx.late ?_)
    refine (ih ⟨g', i + 1⟩ ⟨by dsimp only; omega, egb, ?_⟩ (by dsimp only; omega)).weak ?_ ?_ ?_ ?_
    · dsimp only
      have hix : i < xs.length := by omega
      have e1 : xs.take (i + 1) = xs.take i ++ [c.l[x.shown + i]] := by
        rw [List.take_add_one, List.getElem?_eq_getElem hix]
        have : xs[i] = c.l[x.shown + i] := by
          subst hxs
          rw [List.getElem_take, List.getElem_drop]
        rw [this]; rfl
      rw [egg, hgg, e1, puts_snoc]
      have : (xs.take i).length = i := by rw [List.length_take]; omega
      rw [this]
    · exact .cons rfl rfl (.cons rfl rfl (.cons rfl rfl (.cons rfl rfl (.cons rfl rfl (.cons rfl (by simp; omega) (.nil _))))))
    all_goals repeat (first | exact .nil _ | refine .cons rfl ?_ | refine .cons rfl rfl ?_ | refine .cons rfl rfl rfl ?_ | refine .cons' rfl (fun _ => rfl) ?_)
  · have ei : i = cnt := by omega
    have e1 : xs.take i = xs := List.take_of_length_le (by omega)
    rw [e1] at hgg
    have ep : ((M.setL q gX).setW k (yA i)).p = { M.p with logs := M.p.logs.modify q fun g => g.puts lo xs, writers := M.p.writers.modify k fun w => { w with first := if w.shown = 0 then n.lo else w.first, shown := w.shown + cnt } } := by
      have a1 := map_set_modify (f := LogH.g) (u := fun g => g.puts lo xs) hg (y := gX) hgg
      have a2 := map_set_modify (f := WrH.p) (u := fun w => { w with first := if w.shown = 0 then n.lo else w.first, shown := w.shown + cnt }) hx (y := yA i) (by rw [hyA, hf0, ei]; rfl)
      simp only [MdH.setW, MdH.setL, MdH.p, a1, a2]
    repeat' (first | ((first | refine BrM.not (by omega) ?_ | refine BrM.t rfl ?_ | refine BrM.f rfl ?_ | refine BrM.dec (fun _ => ?_) (fun _ => ?_) | refine BrM.mk (fun _ => ?_) (fun _ => ?_) | refine Ar.i64 (by omega) (by omega) ?_ | refine gO rfl ?_ | refine gP rfl (by repeat constructor) ?_) <;> conv => whnf) | (refine atRet ?_; refine Nx.ret [0] Try.func60 rfl rfl ?_; (exact MdQ.no (M := (M.setL q gX).setW k (yA i)) rfl ep)) | refine Nx.late ?_)
end Go.Proofs.Ytngfadijcpnblaa

/- The program's model: writes. -/
namespace Go.Proofs.Ytngfadijcpnblaa
open Go.RowKit
set_option maxRecDepth 20000
set_option maxHeartbeats 4000000
theorem MdH.fitW {M : MdH} {x : WrH} (hx : x ∈ M.writers) : ∀ r h, M.sp r h → x.calls.length ≤ x.cc := by
  intro r h hs
  obtain ⟨r1, h1, _, _, e1⟩ := Sat.mem (P := star (M.writers.map WrH.sp)) (show Sat M.parts r h from hs) (by simp [MdH.parts])
  obtain ⟨r2, h2, _, _, e2⟩ := Sat.mem (P := x.sp) (show Sat (M.writers.map WrH.sp) r1 h1 from e1) (List.mem_map_of_mem hx)
  obtain ⟨r3, h3, _, _, e3⟩ := Sat.mem (P := ownT 36 x.cA x.calls.length x.cc 1 (x.calls.flatMap CallH.enc)) (L := [blk x.b (.cells x.cells.toArray 104 (0, 0)), ownT 36 x.cA x.calls.length x.cc 1 (x.calls.flatMap CallH.enc), star (x.calls.map CallH.sp)]) e2 (by simp)
  exact (ownT_fit e3).1
attribute [local irreducible] Nx Ar BrM headC OneC HoC AftC planHead endF
theorem writes_ok (M : MdH) (hm : MdW M.p) {k : Nat} {x : WrH} (hx : M.writers[k]? = some x) (n : Nt) :
    FnOk Try.prog 43 [ptr M.b, ptr x.b, n.v] [M.sp] (MdQ M.b (M.p.writes k x.p n)) := by
  have hxm := List.mem_of_getElem? hx
  have hxp := List.mem_map_of_mem (f := WrH.p) hxm
  have hw := hm.wb x.p hxp
  replace hw : -1 ≤ x.first ∧ x.first ≤ 4611686018427387904 ∧ x.shown ≤ 64 ∧ x.calls.length ≤ 200 := by simpa [WrH.p] using hw
  have hwat := MdH.wat (M := M) hxm
  have x0 := hwat.sub 0 rfl
  have x2 := hwat.sub 2 rfl
  have x3 := hwat.sub 3 rfl
  have x4 := hwat.sub 4 rfl
  have x5 := hwat.sub 5 rfl
  clear hwat
  unfold MdP.writes
  have exo : x.p.over = x.over := rfl
  have exs : x.p.shown = x.shown := rfl
  have exf : x.p.first = x.first := rfl
  have exc : x.p.calls = x.calls.map (·.l) := rfl
  rw [exo]
  cases hov : x.over with
  | true =>
    rw [if_pos rfl]
    rw [hov] at x5
    unfold Nt.v
    refine FnOk.start Try.func43 rfl rfl rfl rfl fun F os tape output => ?_
    refine go 200 ?_
    conv => whnf
    refine Nx.bind (l := 5) (fun b5 => ?_) rfl
    repeat' (first | ((first | refine BrM.t rfl ?_ | refine BrM.f rfl ?_ | refine BrM.dec (fun _ => ?_) (fun _ => ?_) | refine BrM.mk (fun _ => ?_) (fun _ => ?_) | refine Ar.i64 (by omega) (by omega) ?_ | refine gO rfl ?_ | refine gP rfl (by repeat constructor) ?_) <;> conv => whnf) | (refine atLoad ?_; refine Nx.load1 0 rfl rfl rfl rfl (x5) rfl ?_) | (refine atLoad ?_; refine Nx.load1 0 rfl rfl rfl rfl (x0) rfl ?_) | (refine (atCall 37) ?_; refine Nx.call [] [9] rfl rfl rfl rfl rfl ((wrong_ok _ _ 17)) rfl fun v Q hQ => ?_; obtain ⟨b,rfl,rfl⟩ := hQ) | (refine atRet ?_; refine Nx.ret [0,9] Try.func43 rfl rfl ?_; (exact MdQ.yes rfl (by decide))) | refine Nx.late ?_)
  | false =>
  rw [if_neg (by decide)]
  rw [hov] at x5
  by_cases h7 : n.deed = 7
  · rw [if_pos h7]
    cases hc : x.calls with
    | nil =>
      rw [exc, hc]
      rw [hc] at x2
      obtain ⟨y, hy⟩ : ∃ y : WrH, y = { x with over := true } := ⟨_, rfl⟩
      have ep : (M.setW k y).p = M.p.setW k fun w => { w with over := true } := MdH.setW_p hx (by rw [hy]; rfl)
      unfold Nt.v
      refine FnOk.start Try.func43 rfl rfl rfl rfl fun F os tape output => ?_
      refine go 200 ?_
      conv => whnf
      refine Nx.bind (l := 5) (fun b5 => ?_) rfl
      repeat' (first | ((first | refine BrM.yes (by omega) ?_ | refine BrM.not (by omega) ?_ | refine BrM.t rfl ?_ | refine BrM.f rfl ?_ | refine BrM.dec (fun _ => ?_) (fun _ => ?_) | refine BrM.mk (fun _ => ?_) (fun _ => ?_) | refine Ar.i64 (by omega) (by omega) ?_ | refine gO rfl ?_ | refine gP rfl (by repeat constructor) ?_) <;> conv => whnf) | (refine atLoad ?_; refine Nx.load1 0 rfl rfl rfl rfl (x5) rfl ?_) | (refine atLoad ?_; refine Nx.load1 0 rfl rfl rfl rfl (x2) rfl ?_) | (refine atStore ?_; refine Nx.storeW 0 (M.setW k y).sp rfl rfl rfl rfl rfl rfl rfl rfl rfl (MdH.setW_sp hx (by decide) (by rw [hy]) (by rw [hy]; rfl) (by rw [hy]) (by rw [hy]) (by rw [hy])) ?_) | (refine atRet ?_; refine Nx.ret [0] Try.func43 rfl rfl ?_; (exact MdQ.no (M := M.setW k y) rfl ep)) | refine Nx.late ?_)
    | cons c r =>
      rw [exc, hc]
      have hlen : 0 < x.calls.length := by rw [hc]; simp
      unfold Nt.v
      refine FnOk.start Try.func43 rfl rfl rfl rfl fun F os tape output => ?_
      refine go 200 ?_
      conv => whnf
      refine Nx.bind (l := 5) (fun b5 => ?_) rfl
      repeat' (first | ((first | refine BrM.yes (by omega) ?_ | refine BrM.not (by omega) ?_ | refine BrM.t rfl ?_ | refine BrM.f rfl ?_ | refine BrM.dec (fun _ => ?_) (fun _ => ?_) | refine BrM.mk (fun _ => ?_) (fun _ => ?_) | refine Ar.i64 (by omega) (by omega) ?_ | refine gO rfl ?_ | refine gP rfl (by repeat constructor) ?_) <;> conv => whnf) | (refine atLoad ?_; refine Nx.load1 0 rfl rfl rfl rfl (x5) rfl ?_) | (refine atLoad ?_; refine Nx.load1 0 rfl rfl rfl rfl (x2) rfl ?_) | (refine atLoad ?_; refine Nx.load1 0 rfl rfl rfl rfl (x0) rfl ?_) | (refine (atCall 37) ?_; refine Nx.call [] [9] rfl rfl rfl rfl rfl ((wrong_ok _ _ 18)) rfl fun v Q hQ => ?_; obtain ⟨b,rfl,rfl⟩ := hQ) | (refine atRet ?_; refine Nx.ret [0,9] Try.func43 rfl rfl ?_; (exact MdQ.yes rfl (by decide))) | refine Nx.late ?_)
  rw [if_neg h7]
  by_cases h14 : n.deed ≠ 1 ∧ n.deed ≠ 4
  · rw [if_pos h14]
    unfold Nt.v
    refine FnOk.start Try.func43 rfl rfl rfl rfl fun F os tape output => ?_
    refine go 200 ?_
    conv => whnf
    refine Nx.bind (l := 5) (fun b5 => ?_) rfl
    repeat' (first | ((first | refine BrM.yes (by omega) ?_ | refine BrM.not (by omega) ?_ | refine BrM.t rfl ?_ | refine BrM.f rfl ?_ | refine BrM.dec (fun _ => ?_) (fun _ => ?_) | refine BrM.mk (fun _ => ?_) (fun _ => ?_) | refine Ar.i64 (by omega) (by omega) ?_ | refine gO rfl ?_ | refine gP rfl (by repeat constructor) ?_) <;> conv => whnf) | (refine atLoad ?_; refine Nx.load1 0 rfl rfl rfl rfl (x5) rfl ?_) | (refine (atCall 37) ?_; refine Nx.call [] [9] rfl rfl rfl rfl rfl ((wrong_ok _ _ 1)) rfl fun v Q hQ => ?_; obtain ⟨b,rfl,rfl⟩ := hQ) | (refine atRet ?_; refine Nx.ret [0,9] Try.func43 rfl rfl ?_; (exact MdQ.yes rfl (by decide))) | refine Nx.late ?_)
  rw [if_neg h14]
  cases hc : x.calls with
  | nil =>
    rw [exc, hc]
    rw [hc] at x2
    unfold Nt.v
    refine FnOk.start Try.func43 rfl rfl rfl rfl fun F os tape output => ?_
    refine go 200 ?_
    conv => whnf
    refine Nx.bind (l := 5) (fun b5 => ?_) rfl
    repeat' (first | ((first | refine BrM.yes (by omega) ?_ | refine BrM.not (by omega) ?_ | refine BrM.t rfl ?_ | refine BrM.f rfl ?_ | refine BrM.dec (fun _ => ?_) (fun _ => ?_) | refine BrM.mk (fun _ => ?_) (fun _ => ?_) | refine Ar.i64 (by omega) (by omega) ?_ | refine gO rfl ?_ | refine gP rfl (by repeat constructor) ?_) <;> conv => whnf) | (refine atLoad ?_; refine Nx.load1 0 rfl rfl rfl rfl (x5) rfl ?_) | (refine atLoad ?_; refine Nx.load1 0 rfl rfl rfl rfl (x2) rfl ?_) | (refine atLoad ?_; refine Nx.load1 0 rfl rfl rfl rfl (x0) rfl ?_) | (refine (atCall 37) ?_; refine Nx.call [] [9] rfl rfl rfl rfl rfl ((wrong_ok _ _ 11)) rfl fun v Q hQ => ?_; obtain ⟨b,rfl,rfl⟩ := hQ) | (refine atRet ?_; refine Nx.ret [0,9] Try.func43 rfl rfl ?_; (exact MdQ.yes rfl (by decide))) | refine Nx.late ?_)
  | cons c r =>
  have hlen : 0 < x.calls.length := by rw [hc]; simp
  rw [exc, hc]
  simp only [List.map_cons]
  by_cases h1 : n.deed = 1
  · rw [if_pos h1]
    have hwr := hm.wring x.p hxp
    obtain ⟨q, hq⟩ : ∃ q : Nat, x.ring = q := ⟨x.ring.toNat, by have : x.p.ring = x.ring := rfl; omega⟩
    have hql : q < M.logs.length := by
      have h := hwr.2
      have : x.p.ring = x.ring := rfl
      simp only [MdH.p, List.length_map] at h
      omega
    have hg : M.logs[q]? = some M.logs[q] := List.getElem?_eq_getElem hql
    have hs := shows_ok M hm hx hq hg hc n
    have e1 : M.p.logs[x.p.ring.toNat]? = some (M.logs[q]).g := by
      have : x.p.ring.toNat = q := by show x.ring.toNat = q; omega
      rw [this]
      simp [MdH.p, List.getElem?_eq_getElem hql]
    rw [e1]
    dsimp only
    unfold Nt.v at hs ⊢
    refine FnOk.start Try.func43 rfl rfl rfl rfl fun F os tape output => ?_
    refine go 200 ?_
    conv => whnf
    refine Nx.bind (l := 5) (fun b5 => ?_) rfl
    repeat' (first | ((first | refine BrM.yes (by omega) ?_ | refine BrM.not (by omega) ?_ | refine BrM.t rfl ?_ | refine BrM.f rfl ?_ | refine BrM.dec (fun _ => ?_) (fun _ => ?_) | refine BrM.mk (fun _ => ?_) (fun _ => ?_) | refine Ar.i64 (by omega) (by omega) ?_ | refine gO rfl ?_ | refine gP rfl (by repeat constructor) ?_) <;> conv => whnf) | (refine atLoad ?_; refine Nx.load1 0 rfl rfl rfl rfl (x5) rfl ?_) | (refine atLoad ?_; refine Nx.load1 0 rfl rfl rfl rfl (x2) rfl ?_) | (refine (atCall 60) ?_; refine Nx.call [0] [0,9] rfl rfl rfl rfl rfl (hs) rfl fun v Q hQ => ?_; obtain ⟨M',eb,ep,⟨h0,rfl,rfl⟩|⟨h0,b,q,rfl,rfl⟩⟩ := hQ) | (refine atRet ?_; refine Nx.ret [0,9] Try.func43 rfl rfl ?_; (exact ⟨M', eb, ep, .inr ⟨h0, b, q, rfl, rfl⟩⟩)) | (refine atRet ?_; refine Nx.ret [0] Try.func43 rfl rfl ?_; (exact ⟨M', eb, ep, .inl ⟨h0, rfl, rfl⟩⟩)) | refine Nx.late ?_)
  rw [if_neg h1]
  have hcm : c ∈ x.calls := by rw [hc]; exact List.mem_cons_self
  have hcl64 := hm.wcall x.p hxp c.l (List.mem_map_of_mem (f := CallH.l) hcm)
  have hCalls : Sees M.sp x.cA x.calls.length 1 ((c :: r).flatMap CallH.enc) := by rw [← hc]; exact MdH.wca hxm
  have hcl : x.calls.length = (c :: r).length := by rw [hc]
  rw [exs, exf]
  by_cases h2 : n.code ≠ 0 ∧ 0 < x.shown
  · rw [if_pos h2]
    unfold Nt.v
    refine FnOk.start Try.func43 rfl rfl rfl rfl fun F os tape output => ?_
    refine go 200 ?_
    conv => whnf
    refine Nx.bind (l := 5) (fun b5 => ?_) rfl
    repeat' (first | ((first | refine BrM.yes (by omega) ?_ | refine BrM.not (by omega) ?_ | refine BrM.t rfl ?_ | refine BrM.f rfl ?_ | refine BrM.dec (fun _ => ?_) (fun _ => ?_) | refine BrM.mk (fun _ => ?_) (fun _ => ?_) | refine Ar.i64 (by omega) (by omega) ?_ | refine gO rfl ?_ | refine gP rfl (by repeat constructor) ?_) <;> conv => whnf) | (refine atLoad ?_; refine Nx.load1 0 rfl rfl rfl rfl (x5) rfl ?_) | (refine atLoad ?_; refine Nx.load1 0 rfl rfl rfl rfl (x2) rfl ?_) | (refine atIdx ?_; refine Nx.idx 0 (j := 0) rfl rfl rfl Try.underlying102 rfl rfl rfl CallH.enc_len hCalls hcl rfl (by simp) fun b p hq => ?_; have hq2 : SeesAt M.sp b p c.enc := hq) | (refine atLoad ?_; first | (refine Nx.load1 0 rfl rfl rfl rfl (SeesAt.sub (by assumption) _ rfl) rfl ?_) | (refine Nx.load1 0 rfl rfl rfl rfl (by assumption) rfl ?_) | (refine Nx.load 0 rfl rfl rfl rfl (by assumption) rfl rfl ?_)) | (refine atLoad ?_; refine Nx.load1 0 rfl rfl rfl rfl (x4) rfl ?_) | (refine (atCall 37) ?_; refine Nx.call [] [9] rfl rfl rfl rfl rfl ((wrong_ok _ _ 18)) rfl fun v Q hQ => ?_; obtain ⟨b,rfl,rfl⟩ := hQ) | (refine atRet ?_; refine Nx.ret [0,9] Try.func43 rfl rfl ?_; (exact MdQ.yes rfl (by decide))) | refine Nx.late ?_)
  rw [if_neg h2]
  by_cases h3 : n.code = 0 ∧ ((x.shown : Nat) ≠ c.l.length ∨ n.lo ≠ x.first ∨ n.seq ≠ x.first + c.l.length - 1)
  · rw [if_pos h3]
    unfold Nt.v
    refine FnOk.start Try.func43 rfl rfl rfl rfl fun F os tape output => ?_
    refine go 200 ?_
    conv => whnf
    refine Nx.bind (l := 5) (fun b5 => ?_) rfl
    repeat' (first | ((first | refine BrM.yes (by omega) ?_ | refine BrM.not (by omega) ?_ | refine BrM.t rfl ?_ | refine BrM.f rfl ?_ | refine BrM.dec (fun _ => ?_) (fun _ => ?_) | refine BrM.mk (fun _ => ?_) (fun _ => ?_) | refine Ar.i64 (by omega) (by omega) ?_ | refine gO rfl ?_ | refine gP rfl (by repeat constructor) ?_) <;> conv => whnf) | (refine atLoad ?_; refine Nx.load1 0 rfl rfl rfl rfl (x5) rfl ?_) | (refine atLoad ?_; refine Nx.load1 0 rfl rfl rfl rfl (x2) rfl ?_) | (refine atIdx ?_; refine Nx.idx 0 (j := 0) rfl rfl rfl Try.underlying102 rfl rfl rfl CallH.enc_len hCalls hcl rfl (by simp) fun b p hq => ?_; have hq2 : SeesAt M.sp b p c.enc := hq) | (refine atLoad ?_; first | (refine Nx.load1 0 rfl rfl rfl rfl (SeesAt.sub (by assumption) _ rfl) rfl ?_) | (refine Nx.load1 0 rfl rfl rfl rfl (by assumption) rfl ?_) | (refine Nx.load 0 rfl rfl rfl rfl (by assumption) rfl rfl ?_)) | (refine atLoad ?_; refine Nx.load1 0 rfl rfl rfl rfl (x4) rfl ?_) | (refine dN 17 [0] [0,5,8,12,16,20,24,29,32,36,40,44,49,52,56,60,65,68,72,76,80,85,88,92,96,101,104,108,112,116,120,124,128] rfl (by kernel_rfl) rfl (by kernel_rfl) rfl (by repeat constructor) rfl ?_) | (refine atHoLoad ?_; first | refine hL1 rfl rfl rfl rfl (SeesAt.sub (by assumption) _ rfl) (by repeat constructor) rfl ?_ | refine hL1 rfl rfl rfl rfl (by assumption) (by repeat constructor) rfl ?_ | refine hLm rfl rfl rfl rfl (by assumption) (by repeat constructor) rfl rfl ?_) | (refine (atCall 37) ?_; refine Nx.call [] [9] rfl rfl rfl rfl rfl ((wrong_ok _ _ 1)) rfl fun v Q hQ => ?_; obtain ⟨b,rfl,rfl⟩ := hQ) | (refine atRet ?_; refine Nx.ret [0,9] Try.func43 rfl rfl ?_; (exact MdQ.yes rfl (by decide))) | refine Nx.late ?_)
  rw [if_neg h3]
  unfold Nt.v
  refine FnOk.start Try.func43 rfl rfl rfl rfl fun F os tape output => ?_
  refine Nx.fact (p := x.calls.length ≤ x.cc) 0 rfl (MdH.fitW hxm) fun hfit => ?_
  refine go 200 ?_
  conv => whnf
  refine Nx.bind (l := 5) (fun b5 => ?_) rfl
  repeat' (first | ((first | refine BrM.yes (by omega) ?_ | refine BrM.not (by omega) ?_ | refine BrM.t rfl ?_ | refine BrM.f rfl ?_ | refine BrM.dec (fun _ => ?_) (fun _ => ?_) | refine BrM.mk (fun _ => ?_) (fun _ => ?_) | refine Ar.i64 (by omega) (by omega) ?_ | refine gO rfl ?_ | refine gP rfl (by repeat constructor) ?_) <;> conv => whnf) | (refine atLoad ?_; refine Nx.load1 0 rfl rfl rfl rfl (x5) rfl ?_) | (refine atLoad ?_; refine Nx.load1 0 rfl rfl rfl rfl (x2) rfl ?_) | (refine atLoad ?_; refine Nx.load1 0 rfl rfl rfl rfl (x4) rfl ?_) | (refine dN 17 [0] [0,5,8,12,16,20,24,29,32,36,40,44,49,52,56,60,65,68,72,76,80,85,88,92,96,101,104,108,112,116,120,124,128] rfl (by kernel_rfl) rfl (by kernel_rfl) rfl (by repeat constructor) rfl ?_) | (refine atHoLoad ?_; first | refine hL1 rfl rfl rfl rfl (SeesAt.sub (by assumption) _ rfl) (by repeat constructor) rfl ?_ | refine hL1 rfl rfl rfl rfl (by assumption) (by repeat constructor) rfl ?_ | refine hLm rfl rfl rfl rfl (by assumption) (by repeat constructor) rfl rfl ?_) | (refine atIdx ?_; refine Nx.idx 0 (j := 0) rfl rfl rfl Try.underlying102 rfl rfl rfl CallH.enc_len hCalls hcl rfl (by simp) fun b p hq => ?_; have hq2 : SeesAt M.sp b p c.enc := hq) | (refine atLoad ?_; first | (refine Nx.load1 0 rfl rfl rfl rfl (SeesAt.sub (by assumption) _ rfl) rfl ?_) | (refine Nx.load1 0 rfl rfl rfl rfl (by assumption) rfl ?_) | (refine Nx.load 0 rfl rfl rfl rfl (by assumption) rfl rfl ?_)) | (refine atSlice ?_; refine Nx.reslice (l := 1) (h := x.calls.length) (m := x.cc) rfl rfl Try.underlying102 rfl rfl rfl rfl rfl (by simp) (by omega) (by omega) (by omega) ?_) | refine Nx.late ?_)
  all_goals
    refine Nx.turn [0] [10, 0] [x.sp, M.holeW k] rfl (MdH.outW hx) ?_
    refine Nx.turn [10] [11, 12, 13] [blk x.b (.cells x.cells.toArray 104 (0, 0)), ownT 36 x.cA x.calls.length x.cc 1 (x.calls.flatMap CallH.enc), star (x.calls.map CallH.sp)] rfl sat_unstar ?_
    repeat' (first | ((first | refine BrM.t rfl ?_ | refine BrM.f rfl ?_ | refine BrM.dec (fun _ => ?_) (fun _ => ?_) | refine BrM.mk (fun _ => ?_) (fun _ => ?_) | refine Ar.i64 (by omega) (by omega) ?_ | refine gO rfl ?_ | refine gP rfl (by repeat constructor) ?_) <;> conv => whnf) | (refine atStore ?_; refine Nx.storeW 11 _ rfl rfl rfl rfl rfl rfl rfl rfl rfl (blk_set (by first | (show 2 < 6; decide) | (show 3 < 6; decide) | (show 4 < 6; decide))) ?_) | refine Nx.late ?_)
    obtain ⟨y, hy⟩ : ∃ y : WrH, y = { x with calls := r, cA := resl x.cA 1 x.cc 1, cc := x.cc - 1, first := -1, shown := 0 } := ⟨_, rfl⟩
    have hrl : x.calls.length - 1 = r.length := by rw [hc]; simp
    refine Nx.turn [11, 12, 13] [10] [y.sp] rfl (fun r1 h hs => by
      obtain ⟨r2, h1, h2, a1, a2, a3, a4, a5, r3, h3, h4, b1, b2, b3, b4, b5, r5, h5, h6, c1, c2, c3, c4, c5, c6⟩ := hs
      have hT := ownT_cut 1 x.calls.length (by omega) (Nat.le_refl _) b5
      have e1 : ((x.calls.flatMap CallH.enc).drop (1 * 1)).take ((x.calls.length - 1) * 1) = r.flatMap CallH.enc := by
        rw [hrl, hc]
        show ((r.flatMap CallH.enc)).take (r.length * 1) = _
        refine List.take_of_length_le ?_
        rw [flat_len CallH.enc_len]; omega
      rw [e1, hrl] at hT
      have hS : star (r.map CallH.sp) r5 h5 := by
        have : Sat (x.calls.map CallH.sp) r5 h5 := c5
        rw [hc] at this
        exact Sat.tail (P := c.sp) this
      have hcells : y.cells = ((x.cells.set 2 (.slice (resl x.cA 1 x.cc 1) (x.calls.length - 1) (x.cc - 1))).set 3 (.int .i64 (-1))).set 4 (.int .i64 0) := by
        rw [hy, hrl]; rfl
      refine sat_restar ?_
      have h3' : Sat [blk y.b (.cells y.cells.toArray 104 (0, 0)), ownT 36 y.cA y.calls.length y.cc 1 (y.calls.flatMap CallH.enc), star (y.calls.map CallH.sp)] r1 h := by
        refine ⟨r2, h1, h2, a1, a2, a3, a4, ?_, r3, h3, h4, b1, b2, b3, b4, ?_, r5, h5, h6, c1, c2, c3, c4, ?_, c6⟩
        · rw [hcells, hy]; exact a5
        · rw [hy]; exact hT
        · rw [hy]; exact hS
      exact h3') ?_
    have eb : y.b = x.b := by rw [hy]
    refine Nx.turn [10, 0] [0] [(M.setW k y).sp] rfl (MdH.inW hx eb) ?_
    have ep : (M.setW k y).p = M.p.setW k fun w => { w with calls := w.calls.drop 1, first := -1, shown := 0 } := MdH.setW_p hx (by
      rw [hy]
      unfold WrH.p
      rw [hc]; rfl)
    repeat' (first | ((first | refine BrM.t rfl ?_ | refine BrM.f rfl ?_ | refine BrM.dec (fun _ => ?_) (fun _ => ?_) | refine BrM.mk (fun _ => ?_) (fun _ => ?_) | refine Ar.i64 (by omega) (by omega) ?_ | refine gO rfl ?_ | refine gP rfl (by repeat constructor) ?_) <;> conv => whnf) | (refine atRet ?_; refine Nx.ret [0] Try.func43 rfl rfl ?_; (exact MdQ.no (M := M.setW k y) rfl ep)) | refine Nx.late ?_)
end Go.Proofs.Ytngfadijcpnblaa

/- The program's model: Take. -/
namespace Go.Proofs.Ytngfadijcpnblaa
open Go.RowKit
set_option maxRecDepth 20000
set_option maxHeartbeats 4000000
attribute [local irreducible] Nx Ar BrM headC OneC HoC AftC planHead endF
theorem Take_ok (M : MdH) (hm : MdW M.p) (n : Nt) : FnOk Try.prog 25 [ptr M.b, n.v] [M.sp] (MdQ M.b (M.p.take n)) := by
  have m0 := M.seeM.sub 0 rfl
  have hnl := hm.ln
  have el : M.p.logs.length = M.logs.length := by simp [MdH.p]
  have hof := of_ok M hm n.who
  by_cases h1 : n.ring < 0 ∨ (M.logs.length : Int) ≤ n.ring
  · have hE : M.p.take n = (M.p, 3) := by unfold MdP.take; rw [if_pos (by rw [el]; exact h1)]
    rw [hE]
    unfold Nt.v
    refine FnOk.start Try.func25 rfl rfl rfl rfl fun F os tape output => ?_
    refine go 200 ?_
    conv => whnf
    repeat' (first | ((first | refine BrM.t rfl ?_ | refine BrM.f rfl ?_ | refine BrM.dec (fun _ => ?_) (fun _ => ?_) | refine BrM.mk (fun _ => ?_) (fun _ => ?_) | refine Ar.i64 (by omega) (by omega) ?_ | refine gO rfl ?_ | refine gP rfl (by repeat constructor) ?_) <;> conv => whnf) | (fail) | refine Nx.late ?_)
    refine Nx.bind (l := 3) (fun b3 => ?_) rfl
    repeat' (first | ((first | refine BrM.yes (by omega) ?_ | refine BrM.not (by omega) ?_ | refine BrM.t rfl ?_ | refine BrM.f rfl ?_ | refine BrM.dec (fun _ => ?_) (fun _ => ?_) | refine BrM.mk (fun _ => ?_) (fun _ => ?_) | refine Ar.i64 (by omega) (by omega) ?_ | refine gO rfl ?_ | refine gP rfl (by repeat constructor) ?_) <;> conv => whnf) | (refine dN 3 [0] [0,5,8,12,16,21,24,28,32,37,40,44,48] rfl (by kernel_rfl) rfl (by kernel_rfl) rfl (by repeat constructor) rfl ?_) | (refine atHoLoad ?_; first | refine hL1 rfl rfl rfl rfl (SeesAt.sub (by assumption) _ rfl) (by repeat constructor) rfl ?_ | refine hL1 rfl rfl rfl rfl (by assumption) (by repeat constructor) rfl ?_ | refine hLm rfl rfl rfl rfl (by assumption) (by repeat constructor) rfl rfl ?_) | (refine (atCall 37) ?_; refine Nx.call [] [9] rfl rfl rfl rfl rfl ((wrong_ok _ _ 3)) rfl fun v Q hQ => ?_; obtain ⟨b,rfl,rfl⟩ := hQ) | (refine atRet ?_; refine Nx.ret [0,9] Try.func25 rfl rfl ?_; (exact MdQ.yes rfl (by decide))) | refine Nx.late ?_)
  by_cases hW : ∃ k x, M.p.of n.who = some k ∧ M.writers[k]? = some x ∧ x.ring = n.ring
  · obtain ⟨k, x, h2, hx, hr⟩ := hW
    have ew : M.p.writers[k]? = some x.p := by simp [MdH.p, hx]
    have hE : M.p.take n = M.p.writes k x.p n := by
      unfold MdP.take
      rw [if_neg (by rw [el]; exact h1), h2]
      dsimp only
      rw [ew]
      dsimp only
      exact if_pos hr
    rw [hE]
    have hw := writes_ok M hm hx n
    have eo : M.wp (some k) = ptr x.b := by simp [MdH.wp, hx]
    rw [h2, eo] at hof
    have x1 := (MdH.wat (M := M) (List.mem_of_getElem? hx)).sub 1 rfl
    rw [hr] at x1
    unfold Nt.v at hw ⊢
    refine FnOk.start Try.func25 rfl rfl rfl rfl fun F os tape output => ?_
    refine go 200 ?_
    conv => whnf
    repeat' (first | ((first | refine BrM.t rfl ?_ | refine BrM.f rfl ?_ | refine BrM.dec (fun _ => ?_) (fun _ => ?_) | refine BrM.mk (fun _ => ?_) (fun _ => ?_) | refine Ar.i64 (by omega) (by omega) ?_ | refine gO rfl ?_ | refine gP rfl (by repeat constructor) ?_) <;> conv => whnf) | (fail) | refine Nx.late ?_)
    refine Nx.bind (l := 3) (fun b3 => ?_) rfl
    repeat' (first | ((first | refine BrM.yes (by omega) ?_ | refine BrM.not (by omega) ?_ | refine BrM.t rfl ?_ | refine BrM.f rfl ?_ | refine BrM.dec (fun _ => ?_) (fun _ => ?_) | refine BrM.mk (fun _ => ?_) (fun _ => ?_) | refine Ar.i64 (by omega) (by omega) ?_ | refine gO rfl ?_ | refine gP rfl (by repeat constructor) ?_) <;> conv => whnf) | (refine dN 3 [0] [0,5,8,12,16,21,24,28,32,37,40,44,48] rfl (by kernel_rfl) rfl (by kernel_rfl) rfl (by repeat constructor) rfl ?_) | (refine dN 6 [0] [0,4,8,12,16,20,25,28,33,36,40] rfl (by kernel_rfl) rfl (by kernel_rfl) rfl (by repeat constructor) rfl ?_) | (refine atHoLoad ?_; first | refine hL1 rfl rfl rfl rfl (SeesAt.sub (by assumption) _ rfl) (by repeat constructor) rfl ?_ | refine hL1 rfl rfl rfl rfl (by assumption) (by repeat constructor) rfl ?_ | refine hLm rfl rfl rfl rfl (by assumption) (by repeat constructor) rfl rfl ?_) | (refine atCall 41 ?_; refine cE [0] [0] rfl rfl rfl rfl rfl (hof) rfl ?_) | (refine (atCall 43) ?_; refine Nx.call [0] [0,9] rfl rfl rfl rfl rfl (hw) rfl fun v Q hQ => ?_; obtain ⟨M',eb,ep,⟨h0,rfl,rfl⟩|⟨h0,b,q,rfl,rfl⟩⟩ := hQ) | (refine atRet ?_; refine Nx.ret [0,9] Try.func25 rfl rfl ?_; (exact ⟨M', eb, ep, .inr ⟨h0, b, q, rfl, rfl⟩⟩)) | (refine atRet ?_; refine Nx.ret [0] Try.func25 rfl rfl ?_; (exact ⟨M', eb, ep, .inl ⟨h0, rfl, rfl⟩⟩)) | refine Nx.late ?_)
  have hE : M.p.take n = M.p.reads n := by
    unfold MdP.take
    rw [if_neg (by rw [el]; exact h1)]
    cases h2 : M.p.of n.who with
    | none => rfl
    | some k =>
      obtain ⟨hk, _⟩ := of_mem h2
      have ew : M.p.writers[k]? = some (M.writers[k]).p := by simp [MdH.p, List.getElem?_eq_getElem hk]
      dsimp only
      rw [ew]
      dsimp only
      rw [if_neg fun e => hW ⟨k, M.writers[k], h2, List.getElem?_eq_getElem hk, e⟩]
  rw [hE]
  have hat := at_ok M hm n.who n.ring
  have hstp := stopped_ok M hm n.who
  have hstops := stops_ok M hm n.who
  have hhan : ∀ {k : Nat} {x : RdH}, M.readers[k]? = some x → _ := fun hx => handles_ok M hm hx n
  have hmov : ∀ {k : Nat} {x : RdH}, M.readers[k]? = some x → _ := fun hx => moves_ok M hm hx n
  have hret : ∀ {k : Nat} {x : RdH}, M.readers[k]? = some x → _ := fun hx => returns_ok M hm hx n
  have hlea : ∀ {k : Nat} {x : RdH}, M.readers[k]? = some x → _ := fun hx => leaves_ok M hx n
  unfold Nt.v at hhan hmov hret hlea ⊢
  refine FnOk.start Try.func25 rfl rfl rfl rfl fun F os tape output => ?_
  refine go 200 ?_
  conv => whnf
  repeat' (first | ((first | refine BrM.t rfl ?_ | refine BrM.f rfl ?_ | refine BrM.dec (fun _ => ?_) (fun _ => ?_) | refine BrM.mk (fun _ => ?_) (fun _ => ?_) | refine Ar.i64 (by omega) (by omega) ?_ | refine gO rfl ?_ | refine gP rfl (by repeat constructor) ?_) <;> conv => whnf) | (fail) | refine Nx.late ?_)
  refine Nx.bind (l := 3) (fun b3 => ?_) rfl
  refine Nx.joinR (E := [(0, .c (.v (ptr M.b))), (3, .c (.loc 3 0)), (4, .c (.v .nilIface)), (22, bv (decide ((M.logs.length : Int) ≤ n.ring)))]) (M := [(3, 42, [.v (.int .i64 n.who), .v (.int .i64 n.ring), .v (.int .i64 n.deed), .v (.int .i64 n.lo), .v (.int .i64 n.seq), .v (.int .i64 n.x.key), .v (.int .i64 n.x.val), .v (.int .i64 n.code)])]) (B := [(3, b3)]) (R := [(0, M.sp)]) (fun K => ?_) ?_
  · repeat' (first | (with_reducible refine Nx.weak K ?_ ?_ ?_ ?_) <;> (first | ((repeat (first | exact .nil _ | refine .cons rfl ?_ | refine .cons rfl rfl ?_ | refine .cons rfl rfl rfl ?_ | refine .cons' rfl (fun _ => rfl) ?_)); done) | omega | (dsimp only; omega) | (repeat (first | exact subE.nil _ | refine subE.cons rfl rfl ?_ | refine subE.cons' rfl (fun _ => rfl) ?_ | (refine subE.cons rfl ?_ ?_; · (simp; done))); done) | skip) | ((first | refine BrM.not (by omega) ?_ | refine BrM.t rfl ?_ | refine BrM.f rfl ?_ | refine BrM.dec (fun _ => ?_) (fun _ => ?_) | refine BrM.mk (fun _ => ?_) (fun _ => ?_) | refine Ar.i64 (by omega) (by omega) ?_ | refine gR rfl ?_ | refine gP rfl (by repeat constructor) ?_) <;> conv => whnf) | (refine dN 3 [0] [0,5,8,12,16,21,24,28,32,37,40,44,48] rfl (by kernel_rfl) rfl (by kernel_rfl) rfl (by repeat constructor) rfl ?_) | (refine atHoLoad ?_; first | refine hL1 rfl rfl rfl rfl (SeesAt.sub (by assumption) _ rfl) (by repeat constructor) rfl ?_ | refine hL1 rfl rfl rfl rfl (by assumption) (by repeat constructor) rfl ?_ | refine hLm rfl rfl rfl rfl (by assumption) (by repeat constructor) rfl rfl ?_) | refine Nx.late ?_)
  refine go 1 ?_
  conv => whnf
  refine BrM.not (by omega) ?_
  conv => whnf
  refine go 3 ?_
  conv => whnf
  refine Nx.joinR (E := [(0, .c (.v (ptr M.b))), (3, .c (.loc 3 0))]) (M := [(3, 42, [.v (.int .i64 n.who), .v (.int .i64 n.ring), .v (.int .i64 n.deed), .v (.int .i64 n.lo), .v (.int .i64 n.seq), .v (.int .i64 n.x.key), .v (.int .i64 n.x.val), .v (.int .i64 n.code)])]) (B := [(3, b3)]) (R := [(0, M.sp)]) (fun K => ?_) ?_
  · cases h2 : M.p.of n.who with
    | none =>
      rw [h2] at hof
      repeat' (first | (with_reducible refine Nx.weak K ?_ ?_ ?_ ?_) <;> (first | ((repeat (first | exact .nil _ | refine .cons rfl ?_ | refine .cons rfl rfl ?_ | refine .cons rfl rfl rfl ?_ | refine .cons' rfl (fun _ => rfl) ?_)); done) | omega | (dsimp only; omega) | (repeat (first | exact subE.nil _ | refine subE.cons rfl rfl ?_ | refine subE.cons' rfl (fun _ => rfl) ?_ | (refine subE.cons rfl ?_ ?_; · (simp; done))); done) | skip) | ((first | refine BrM.t rfl ?_ | refine BrM.f rfl ?_ | refine BrM.dec (fun _ => ?_) (fun _ => ?_) | refine BrM.mk (fun _ => ?_) (fun _ => ?_) | refine Ar.i64 (by omega) (by omega) ?_ | refine gR rfl ?_ | refine gP rfl (by repeat constructor) ?_) <;> conv => whnf) | (refine atCall 41 ?_; refine cE [0] [0] rfl rfl rfl rfl rfl (hof) rfl ?_) | (refine dN 6 [0] [0,4,8,12,16,20,25,28,33,36,40] rfl (by kernel_rfl) rfl (by kernel_rfl) rfl (by repeat constructor) rfl ?_) | refine Nx.late ?_)
    | some k =>
      obtain ⟨hk, _, e⟩ := of_mem h2
      rw [h2, e] at hof
      have hne : M.writers[k].ring ≠ n.ring := fun e => hW ⟨k, M.writers[k], h2, List.getElem?_eq_getElem hk, e⟩
      have x1 := (MdH.wat (M := M) (List.getElem_mem hk)).sub 1 rfl
      repeat' (first | (with_reducible refine Nx.weak K ?_ ?_ ?_ ?_) <;> (first | ((repeat (first | exact .nil _ | refine .cons rfl ?_ | refine .cons rfl rfl ?_ | refine .cons rfl rfl rfl ?_ | refine .cons' rfl (fun _ => rfl) ?_)); done) | omega | (dsimp only; omega) | (repeat (first | exact subE.nil _ | refine subE.cons rfl rfl ?_ | refine subE.cons' rfl (fun _ => rfl) ?_ | (refine subE.cons rfl ?_ ?_; · (simp; done))); done) | skip) | ((first | refine BrM.not (by omega) ?_ | refine BrM.t rfl ?_ | refine BrM.f rfl ?_ | refine BrM.dec (fun _ => ?_) (fun _ => ?_) | refine BrM.mk (fun _ => ?_) (fun _ => ?_) | refine Ar.i64 (by omega) (by omega) ?_ | refine gR rfl ?_ | refine gP rfl (by repeat constructor) ?_) <;> conv => whnf) | (refine atCall 41 ?_; refine cE [0] [0] rfl rfl rfl rfl rfl (hof) rfl ?_) | (refine dN 6 [0] [0,4,8,12,16,20,25,28,33,36,40] rfl (by kernel_rfl) rfl (by kernel_rfl) rfl (by repeat constructor) rfl ?_) | (refine atHoLoad ?_; first | refine hL1 rfl rfl rfl rfl (SeesAt.sub (by assumption) _ rfl) (by repeat constructor) rfl ?_ | refine hL1 rfl rfl rfl rfl (by assumption) (by repeat constructor) rfl ?_ | refine hLm rfl rfl rfl rfl (by assumption) (by repeat constructor) rfl rfl ?_) | refine Nx.late ?_)
  cases h3 : M.p.at n.who n.ring with
  | none =>
    have hR : M.p.reads n = (M.p, 3) := by unfold MdP.reads; rw [h3]
    rw [hR]
    rw [h3] at hat
    refine go 200 ?_
    conv => whnf
    repeat' (first | ((first | refine BrM.t rfl ?_ | refine BrM.f rfl ?_ | refine BrM.dec (fun _ => ?_) (fun _ => ?_) | refine BrM.mk (fun _ => ?_) (fun _ => ?_) | refine Ar.i64 (by omega) (by omega) ?_ | refine gO rfl ?_ | refine gP rfl (by repeat constructor) ?_) <;> conv => whnf) | (refine atCall 36 ?_; refine cE [0] [0] rfl rfl rfl rfl rfl (hat) rfl ?_) | (refine (atCall 37) ?_; refine Nx.call [] [9] rfl rfl rfl rfl rfl ((wrong_ok _ _ 3)) rfl fun v Q hQ => ?_; obtain ⟨b,rfl,rfl⟩ := hQ) | (refine atRet ?_; refine Nx.ret [0,9] Try.func25 rfl rfl ?_; (exact MdQ.yes rfl (by decide))) | refine Nx.late ?_)
  | some k =>
  obtain ⟨hk, _, _, e⟩ := at_mem h3
  obtain ⟨x, hxe⟩ : ∃ x, x = M.readers[k] := ⟨_, rfl⟩
  have hx : M.readers[k]? = some x := by rw [hxe]; exact List.getElem?_eq_getElem hk
  rw [h3, e, ← hxe] at hat
  have er : M.p.readers[k]? = some x.r := by simp [MdH.p, hx]
  have x3 := (MdH.rat (M := M) (List.mem_of_getElem? hx)).sub 3 rfl
  by_cases hA : M.p.stopped n.who = true ∧ n.deed ≠ 6
  · have hR : M.p.reads n = (M.p, 17) := by
      unfold MdP.reads
      rw [h3]; dsimp only
      rw [er]; dsimp only
      exact if_pos hA
    rw [hR]
    rw [hA.1] at hstp
    have hA2 := hA.2
    refine go 200 ?_
    conv => whnf
    repeat' (first | ((first | refine BrM.yes (by omega) ?_ | refine BrM.not (by omega) ?_ | refine BrM.t rfl ?_ | refine BrM.f rfl ?_ | refine BrM.dec (fun _ => ?_) (fun _ => ?_) | refine BrM.mk (fun _ => ?_) (fun _ => ?_) | refine Ar.i64 (by omega) (by omega) ?_ | refine gO rfl ?_ | refine gP rfl (by repeat constructor) ?_) <;> conv => whnf) | (refine atCall 36 ?_; refine cE [0] [0] rfl rfl rfl rfl rfl (hat) rfl ?_) | (refine atCall 44 ?_; refine cE [0] [0] rfl rfl rfl rfl rfl (hstp) rfl ?_) | (refine (atCall 37) ?_; refine Nx.call [] [9] rfl rfl rfl rfl rfl ((wrong_ok _ _ 17)) rfl fun v Q hQ => ?_; obtain ⟨b,rfl,rfl⟩ := hQ) | (refine atRet ?_; refine Nx.ret [0,9] Try.func25 rfl rfl ?_; (exact MdQ.yes rfl (by decide))) | refine Nx.late ?_)
  have hS : M.p.stopped n.who = false ∨ n.deed = 6 := by
    cases hs : M.p.stopped n.who with
    | false => exact .inl rfl
    | true => exact .inr (Decidable.byContradiction fun e => hA ⟨hs, e⟩)
  have hR0 : M.p.reads n = if n.deed = 2 then M.p.handles k x.r n else if n.deed = 3 then M.p.moves k x.r n else if n.deed = 4 then M.p.returns k x.r n else if n.deed = 6 then M.p.leaves k x.r n
      else if n.deed = 7 then (M.p.stops n.who, 0) else if n.deed = 5 then (if n.seq ≤ x.r.cursor then (M.p, 1) else (M.p, 0)) else (M.p, 1) := by
    unfold MdP.reads
    rw [h3]; dsimp only
    rw [er]; dsimp only
    exact if_neg hA
  refine go 1 ?_
  conv => whnf
  refine Nx.joinR (E := [(0, .c (.v (ptr M.b))), (3, .c (.loc 3 0)), (6, .c (.v (ptr x.b)))]) (M := [(3, 42, [.v (.int .i64 n.who), .v (.int .i64 n.ring), .v (.int .i64 n.deed), .v (.int .i64 n.lo), .v (.int .i64 n.seq), .v (.int .i64 n.x.key), .v (.int .i64 n.x.val), .v (.int .i64 n.code)])]) (B := [(3, b3)]) (R := [(0, M.sp)]) (fun K => ?_) ?_
  · repeat' (first | (with_reducible refine Nx.weak K ?_ ?_ ?_ ?_) <;> (first | ((repeat (first | exact .nil _ | refine .cons rfl ?_ | refine .cons rfl rfl ?_ | refine .cons rfl rfl rfl ?_ | refine .cons' rfl (fun _ => rfl) ?_)); done) | omega | (dsimp only; omega) | (repeat (first | exact subE.nil _ | refine subE.cons rfl rfl ?_ | refine subE.cons' rfl (fun _ => rfl) ?_ | (refine subE.cons rfl ?_ ?_; · (simp; done))); done) | skip) | ((first | refine BrM.t rfl ?_ | refine BrM.f rfl ?_ | refine BrM.dec (fun _ => ?_) (fun _ => ?_) | refine BrM.mk (fun _ => ?_) (fun _ => ?_) | refine Ar.i64 (by omega) (by omega) ?_ | refine gR rfl ?_ | refine gP rfl (by repeat constructor) ?_) <;> conv => whnf) | (refine atCall 36 ?_; refine cE [0] [0] rfl rfl rfl rfl rfl (hat) rfl ?_) | refine Nx.late ?_)
  refine go 1 ?_
  conv => whnf
  refine Nx.joinR (E := [(0, .c (.v (ptr M.b))), (3, .c (.loc 3 0)), (6, .c (.v (ptr x.b)))]) (M := [(3, 42, [.v (.int .i64 n.who), .v (.int .i64 n.ring), .v (.int .i64 n.deed), .v (.int .i64 n.lo), .v (.int .i64 n.seq), .v (.int .i64 n.x.key), .v (.int .i64 n.x.val), .v (.int .i64 n.code)])]) (B := [(3, b3)]) (R := [(0, M.sp)]) (fun K => ?_) ?_
  · rcases hS with hs | hs
    · rw [hs] at hstp
      repeat' (first | (with_reducible refine Nx.weak K ?_ ?_ ?_ ?_) <;> (first | ((repeat (first | exact .nil _ | refine .cons rfl ?_ | refine .cons rfl rfl ?_ | refine .cons rfl rfl rfl ?_ | refine .cons' rfl (fun _ => rfl) ?_)); done) | omega | (dsimp only; omega) | (repeat (first | exact subE.nil _ | refine subE.cons rfl rfl ?_ | refine subE.cons' rfl (fun _ => rfl) ?_ | (refine subE.cons rfl ?_ ?_; · (simp; done))); done) | skip) | ((first | refine BrM.yes (by omega) ?_ | refine BrM.not (by omega) ?_ | refine BrM.t rfl ?_ | refine BrM.f rfl ?_ | refine BrM.dec (fun _ => ?_) (fun _ => ?_) | refine BrM.mk (fun _ => ?_) (fun _ => ?_) | refine Ar.i64 (by omega) (by omega) ?_ | refine gR rfl ?_ | refine gP rfl (by repeat constructor) ?_) <;> conv => whnf) | (refine atCall 44 ?_; refine cE [0] [0] rfl rfl rfl rfl rfl (hstp) rfl ?_) | refine Nx.late ?_)
    · cases hst : M.p.stopped n.who with
      | true =>
        rw [hst] at hstp
        repeat' (first | (with_reducible refine Nx.weak K ?_ ?_ ?_ ?_) <;> (first | ((repeat (first | exact .nil _ | refine .cons rfl ?_ | refine .cons rfl rfl ?_ | refine .cons rfl rfl rfl ?_ | refine .cons' rfl (fun _ => rfl) ?_)); done) | omega | (dsimp only; omega) | (repeat (first | exact subE.nil _ | refine subE.cons rfl rfl ?_ | refine subE.cons' rfl (fun _ => rfl) ?_ | (refine subE.cons rfl ?_ ?_; · (simp; done))); done) | skip) | ((first | refine BrM.yes (by omega) ?_ | refine BrM.not (by omega) ?_ | refine BrM.t rfl ?_ | refine BrM.f rfl ?_ | refine BrM.dec (fun _ => ?_) (fun _ => ?_) | refine BrM.mk (fun _ => ?_) (fun _ => ?_) | refine Ar.i64 (by omega) (by omega) ?_ | refine gR rfl ?_ | refine gP rfl (by repeat constructor) ?_) <;> conv => whnf) | (refine atCall 44 ?_; refine cE [0] [0] rfl rfl rfl rfl rfl (hstp) rfl ?_) | refine Nx.late ?_)
      | false =>
        rw [hst] at hstp
        repeat' (first | (with_reducible refine Nx.weak K ?_ ?_ ?_ ?_) <;> (first | ((repeat (first | exact .nil _ | refine .cons rfl ?_ | refine .cons rfl rfl ?_ | refine .cons rfl rfl rfl ?_ | refine .cons' rfl (fun _ => rfl) ?_)); done) | omega | (dsimp only; omega) | (repeat (first | exact subE.nil _ | refine subE.cons rfl rfl ?_ | refine subE.cons' rfl (fun _ => rfl) ?_ | (refine subE.cons rfl ?_ ?_; · (simp; done))); done) | skip) | ((first | refine BrM.yes (by omega) ?_ | refine BrM.not (by omega) ?_ | refine BrM.t rfl ?_ | refine BrM.f rfl ?_ | refine BrM.dec (fun _ => ?_) (fun _ => ?_) | refine BrM.mk (fun _ => ?_) (fun _ => ?_) | refine Ar.i64 (by omega) (by omega) ?_ | refine gR rfl ?_ | refine gP rfl (by repeat constructor) ?_) <;> conv => whnf) | (refine atCall 44 ?_; refine cE [0] [0] rfl rfl rfl rfl rfl (hstp) rfl ?_) | refine Nx.late ?_)
  have hhan := hhan hx
  have hmov := hmov hx
  have hret := hret hx
  have hlea := hlea hx
  by_cases d2 : n.deed = 2
  · have hR : M.p.reads n = M.p.handles k x.r n := by rw [hR0, if_pos d2]
    rw [hR]
    refine go 200 ?_
    conv => whnf
    repeat' (first | ((first | refine BrM.yes (by omega) ?_ | refine BrM.not (by omega) ?_ | refine BrM.t rfl ?_ | refine BrM.f rfl ?_ | refine BrM.dec (fun _ => ?_) (fun _ => ?_) | refine BrM.mk (fun _ => ?_) (fun _ => ?_) | refine Ar.i64 (by omega) (by omega) ?_ | refine gO rfl ?_ | refine gP rfl (by repeat constructor) ?_) <;> conv => whnf) | (refine (atCall 45) ?_; refine Nx.call [0] [0,9] rfl rfl rfl rfl rfl (hhan) rfl fun v Q hQ => ?_; obtain ⟨M',eb,ep,⟨h0,rfl,rfl⟩|⟨h0,b,q,rfl,rfl⟩⟩ := hQ) | (refine atRet ?_; refine Nx.ret [0,9] Try.func25 rfl rfl ?_; (exact ⟨M', eb, ep, .inr ⟨h0, b, q, rfl, rfl⟩⟩)) | (refine atRet ?_; refine Nx.ret [0] Try.func25 rfl rfl ?_; (exact ⟨M', eb, ep, .inl ⟨h0, rfl, rfl⟩⟩)) | refine Nx.late ?_)
  by_cases d3 : n.deed = 3
  · have hR : M.p.reads n = M.p.moves k x.r n := by rw [hR0, if_neg d2, if_pos d3]
    rw [hR]
    refine go 200 ?_
    conv => whnf
    repeat' (first | ((first | refine BrM.yes (by omega) ?_ | refine BrM.not (by omega) ?_ | refine BrM.t rfl ?_ | refine BrM.f rfl ?_ | refine BrM.dec (fun _ => ?_) (fun _ => ?_) | refine BrM.mk (fun _ => ?_) (fun _ => ?_) | refine Ar.i64 (by omega) (by omega) ?_ | refine gO rfl ?_ | refine gP rfl (by repeat constructor) ?_) <;> conv => whnf) | (refine (atCall 46) ?_; refine Nx.call [0] [0,9] rfl rfl rfl rfl rfl (hmov) rfl fun v Q hQ => ?_; obtain ⟨M',eb,ep,⟨h0,rfl,rfl⟩|⟨h0,b,q,rfl,rfl⟩⟩ := hQ) | (refine atRet ?_; refine Nx.ret [0,9] Try.func25 rfl rfl ?_; (exact ⟨M', eb, ep, .inr ⟨h0, b, q, rfl, rfl⟩⟩)) | (refine atRet ?_; refine Nx.ret [0] Try.func25 rfl rfl ?_; (exact ⟨M', eb, ep, .inl ⟨h0, rfl, rfl⟩⟩)) | refine Nx.late ?_)
  by_cases d4 : n.deed = 4
  · have hR : M.p.reads n = M.p.returns k x.r n := by rw [hR0, if_neg d2, if_neg d3, if_pos d4]
    rw [hR]
    refine go 200 ?_
    conv => whnf
    repeat' (first | ((first | refine BrM.yes (by omega) ?_ | refine BrM.not (by omega) ?_ | refine BrM.t rfl ?_ | refine BrM.f rfl ?_ | refine BrM.dec (fun _ => ?_) (fun _ => ?_) | refine BrM.mk (fun _ => ?_) (fun _ => ?_) | refine Ar.i64 (by omega) (by omega) ?_ | refine gO rfl ?_ | refine gP rfl (by repeat constructor) ?_) <;> conv => whnf) | (refine (atCall 47) ?_; refine Nx.call [0] [0,9] rfl rfl rfl rfl rfl (hret) rfl fun v Q hQ => ?_; obtain ⟨M',eb,ep,⟨h0,rfl,rfl⟩|⟨h0,b,q,rfl,rfl⟩⟩ := hQ) | (refine atRet ?_; refine Nx.ret [0,9] Try.func25 rfl rfl ?_; (exact ⟨M', eb, ep, .inr ⟨h0, b, q, rfl, rfl⟩⟩)) | (refine atRet ?_; refine Nx.ret [0] Try.func25 rfl rfl ?_; (exact ⟨M', eb, ep, .inl ⟨h0, rfl, rfl⟩⟩)) | refine Nx.late ?_)
  by_cases d6 : n.deed = 6
  · have hR : M.p.reads n = M.p.leaves k x.r n := by rw [hR0, if_neg d2, if_neg d3, if_neg d4, if_pos d6]
    rw [hR]
    refine go 200 ?_
    conv => whnf
    repeat' (first | ((first | refine BrM.yes (by omega) ?_ | refine BrM.not (by omega) ?_ | refine BrM.t rfl ?_ | refine BrM.f rfl ?_ | refine BrM.dec (fun _ => ?_) (fun _ => ?_) | refine BrM.mk (fun _ => ?_) (fun _ => ?_) | refine Ar.i64 (by omega) (by omega) ?_ | refine gO rfl ?_ | refine gP rfl (by repeat constructor) ?_) <;> conv => whnf) | (refine (atCall 48) ?_; refine Nx.call [0] [0,9] rfl rfl rfl rfl rfl (hlea) rfl fun v Q hQ => ?_; obtain ⟨M',eb,ep,⟨h0,rfl,rfl⟩|⟨h0,b,q,rfl,rfl⟩⟩ := hQ) | (refine atRet ?_; refine Nx.ret [0,9] Try.func25 rfl rfl ?_; (exact ⟨M', eb, ep, .inr ⟨h0, b, q, rfl, rfl⟩⟩)) | (refine atRet ?_; refine Nx.ret [0] Try.func25 rfl rfl ?_; (exact ⟨M', eb, ep, .inl ⟨h0, rfl, rfl⟩⟩)) | refine Nx.late ?_)
  by_cases d7 : n.deed = 7
  · have hR : M.p.reads n = (M.p.stops n.who, 0) := by rw [hR0, if_neg d2, if_neg d3, if_neg d4, if_neg d6, if_pos d7]
    rw [hR]
    refine go 200 ?_
    conv => whnf
    repeat' (first | ((first | refine BrM.yes (by omega) ?_ | refine BrM.not (by omega) ?_ | refine BrM.t rfl ?_ | refine BrM.f rfl ?_ | refine BrM.dec (fun _ => ?_) (fun _ => ?_) | refine BrM.mk (fun _ => ?_) (fun _ => ?_) | refine Ar.i64 (by omega) (by omega) ?_ | refine gO rfl ?_ | refine gP rfl (by repeat constructor) ?_) <;> conv => whnf) | (refine (atCall 49) ?_; refine Nx.call [0] [0] rfl rfl rfl rfl rfl (hstops) rfl fun v Q hQ => ?_; obtain ⟨M',eb,ep,rfl⟩ := hQ) | (refine atRet ?_; refine Nx.ret [0] Try.func25 rfl rfl ?_; (exact MdQ.no eb ep)) | refine Nx.late ?_)
  by_cases d5 : n.deed = 5
  · by_cases d8 : n.seq ≤ x.r.cursor
    · have hR : M.p.reads n = (M.p, 1) := by rw [hR0, if_neg d2, if_neg d3, if_neg d4, if_neg d6, if_neg d7, if_pos d5, if_pos d8]
      rw [hR]
      refine go 200 ?_
      conv => whnf
      repeat' (first | ((first | refine BrM.yes (by omega) ?_ | refine BrM.not (by omega) ?_ | refine BrM.t rfl ?_ | refine BrM.f rfl ?_ | refine BrM.dec (fun _ => ?_) (fun _ => ?_) | refine BrM.mk (fun _ => ?_) (fun _ => ?_) | refine Ar.i64 (by omega) (by omega) ?_ | refine gO rfl ?_ | refine gP rfl (by repeat constructor) ?_) <;> conv => whnf) | (refine dN 26 [0] [0,5,8,12,16,21,24] rfl (by kernel_rfl) rfl (by kernel_rfl) rfl (by repeat constructor) rfl ?_) | (refine atHoLoad ?_; first | refine hL1 rfl rfl rfl rfl (SeesAt.sub (by assumption) _ rfl) (by repeat constructor) rfl ?_ | refine hL1 rfl rfl rfl rfl (by assumption) (by repeat constructor) rfl ?_ | refine hLm rfl rfl rfl rfl (by assumption) (by repeat constructor) rfl rfl ?_) | (refine (atCall 37) ?_; refine Nx.call [] [9] rfl rfl rfl rfl rfl ((wrong_ok _ _ 1)) rfl fun v Q hQ => ?_; obtain ⟨b,rfl,rfl⟩ := hQ) | (refine atRet ?_; refine Nx.ret [0,9] Try.func25 rfl rfl ?_; (exact MdQ.yes rfl (by decide))) | refine Nx.late ?_)
    · have hR : M.p.reads n = (M.p, 0) := by rw [hR0, if_neg d2, if_neg d3, if_neg d4, if_neg d6, if_neg d7, if_pos d5, if_neg d8]
      rw [hR]
      refine go 200 ?_
      conv => whnf
      repeat' (first | ((first | refine BrM.yes (by omega) ?_ | refine BrM.not (by omega) ?_ | refine BrM.t rfl ?_ | refine BrM.f rfl ?_ | refine BrM.dec (fun _ => ?_) (fun _ => ?_) | refine BrM.mk (fun _ => ?_) (fun _ => ?_) | refine Ar.i64 (by omega) (by omega) ?_ | refine gO rfl ?_ | refine gP rfl (by repeat constructor) ?_) <;> conv => whnf) | (refine dN 26 [0] [0,5,8,12,16,21,24] rfl (by kernel_rfl) rfl (by kernel_rfl) rfl (by repeat constructor) rfl ?_) | (refine atHoLoad ?_; first | refine hL1 rfl rfl rfl rfl (SeesAt.sub (by assumption) _ rfl) (by repeat constructor) rfl ?_ | refine hL1 rfl rfl rfl rfl (by assumption) (by repeat constructor) rfl ?_ | refine hLm rfl rfl rfl rfl (by assumption) (by repeat constructor) rfl rfl ?_) | (refine atRet ?_; refine Nx.ret [0] Try.func25 rfl rfl ?_; (exact MdQ.no rfl rfl)) | refine Nx.late ?_)
  have hR : M.p.reads n = (M.p, 1) := by rw [hR0, if_neg d2, if_neg d3, if_neg d4, if_neg d6, if_neg d7, if_neg d5]
  rw [hR]
  refine go 200 ?_
  conv => whnf
  repeat' (first | ((first | refine BrM.yes (by omega) ?_ | refine BrM.not (by omega) ?_ | refine BrM.t rfl ?_ | refine BrM.f rfl ?_ | refine BrM.dec (fun _ => ?_) (fun _ => ?_) | refine BrM.mk (fun _ => ?_) (fun _ => ?_) | refine Ar.i64 (by omega) (by omega) ?_ | refine gO rfl ?_ | refine gP rfl (by repeat constructor) ?_) <;> conv => whnf) | (refine (atCall 37) ?_; refine Nx.call [] [9] rfl rfl rfl rfl rfl ((wrong_ok _ _ 1)) rfl fun v Q hQ => ?_; obtain ⟨b,rfl,rfl⟩ := hQ) | (refine atRet ?_; refine Nx.ret [0,9] Try.func25 rfl rfl ?_; (exact MdQ.yes rfl (by decide))) | refine Nx.late ?_)
end Go.Proofs.Ytngfadijcpnblaa

/- The program's model: New, apply, small. -/
namespace Go.Proofs.Ytngfadijcpnblaa
open Go.RowKit
set_option maxRecDepth 20000
set_option maxHeartbeats 4000000
def MdH.new (b : Nat) : MdH := ⟨b, [], none, 0, [], none, 0, [], none, 0, [], none, 0⟩
theorem sat_own (e sz : Nat) {L : List SP} {r h : PH} (H : Sat L r h) : Sat (ownS e none 0 0 sz [] :: L) r h :=
  ⟨r, PH.em, h, PH.le_refl _, PH.em_le _, PH.le_refl _, PH.em_dj _, own_nil _ _ _ _, H⟩
theorem sat_emp {L : List SP} {r h : PH} (H : Sat L r h) : Sat (star [] :: L) r h :=
  ⟨r, PH.em, h, PH.le_refl _, PH.em_le _, PH.le_refl _, PH.em_dj _, trivial, H⟩
theorem MdH.new_sp (b : Nat) : ∀ r h, blk b (.cells (MdH.new b).cells.toArray 78 (0, 0)) r h → (MdH.new b).sp r h := by
  intro r h hb
  refine ⟨r, h, PH.em, PH.le_refl _, PH.le_refl _, PH.em_le _, PH.dj_em _, hb, ?_⟩
  exact sat_own _ _ (sat_own _ _ (sat_own _ _ (sat_own _ _ (sat_emp (sat_emp (sat_emp (sat_emp trivial)))))))
structure OpH where
  o : Opn
  aA : Option Addr
  aC : Nat
  hA : Option Addr
  hC : Nat
  lA : Option Addr
  lC : Nat
def OpH.enc (x : OpH) : List Value := [.int .i64 x.o.kind, .int .i64 x.o.who, .int .i64 x.o.ring, .int .i64 x.o.from', .bool x.o.many, .slice x.aA x.o.all.length x.aC, .slice x.hA x.o.ahead.length x.hC, .slice x.lA x.o.l.length x.lC, .int .i64 x.o.n.who, .int .i64 x.o.n.ring, .int .i64 x.o.n.deed, .int .i64 x.o.n.lo, .int .i64 x.o.n.seq, .int .i64 x.o.n.x.key, .int .i64 x.o.n.x.val, .int .i64 x.o.n.code]
theorem OpH.enc_len (x : OpH) : x.enc.length = 16 := rfl
def OpH.v (x : OpH) : Value := .agg #[.int .i64 x.o.kind, .int .i64 x.o.who, .int .i64 x.o.ring, .int .i64 x.o.from', .bool x.o.many, .slice x.aA x.o.all.length x.aC, .slice x.hA x.o.ahead.length x.hC, .slice x.lA x.o.l.length x.lC, .int .i64 x.o.n.who, .int .i64 x.o.n.ring, .int .i64 x.o.n.deed, .int .i64 x.o.n.lo, .int .i64 x.o.n.seq, .int .i64 x.o.n.x.key, .int .i64 x.o.n.x.val, .int .i64 x.o.n.code]
/-- What an operation's rows are, in a memory that stays. -/
structure OpOk (m : PH) (x : OpH) : Prop where
  ra : Rd m x.aA x.o.all.length 1 (x.o.all.flatMap inC)
  rh : Rd m x.hA x.o.ahead.length 1 (x.o.ahead.flatMap inC)
  rl : Rd m x.lA x.o.l.length 2 (x.o.l.flatMap evC)
  ca : x.o.all.length ≤ x.aC
def OpS (x : OpH) : Prop := x.o.all.length ≤ 30 ∧ x.o.ahead.length ≤ 30 ∧ x.o.l.length ≤ 70
instance (x : OpH) : Decidable (OpS x) := inferInstanceAs (Decidable (_ ∧ _ ∧ _))
theorem ro_rdS {m : PH} {A : Option Addr} {n sz : Nat} {cells : List Value} (h : Rd m A n sz cells) : ∀ r g, roAll m r g → rdS A n sz cells r PH.em := fun _ _ hm => Rd.mono h hm
attribute [local irreducible] Nx Ar BrM headC OneC HoC AftC planHead endF
theorem New_ok : FnOk Try.prog 9 [] [] (fun v Q => ∃ M : MdH, v = ptr M.b ∧ M.p = ⟨[], [], [], []⟩ ∧ Q = [M.sp]) := by
  refine FnOk.start Try.func9 rfl rfl rfl rfl fun F os tape output => ?_
  refine go 200 ?_
  conv => whnf
  refine Nx.bind (l := 2) (fun b => ?_) rfl
  refine Nx.out 2 rfl rfl rfl rfl ?_
  refine Nx.turn [2] [0] [(MdH.new b).sp] rfl (fun r h hs => ?_) ?_
  · obtain ⟨r1, h1, h2, a1, a2, a3, a4, a5, a6⟩ := hs
    exact ⟨r1, h1, h2, a1, a2, a3, a4, MdH.new_sp b _ _ a5, a6⟩
  repeat' (first | ((first | refine BrM.t rfl ?_ | refine BrM.f rfl ?_ | refine BrM.dec (fun _ => ?_) (fun _ => ?_) | refine BrM.mk (fun _ => ?_) (fun _ => ?_) | refine Ar.i64 (by omega) (by omega) ?_ | refine gO rfl ?_ | refine gP rfl (by repeat constructor) ?_) <;> conv => whnf) | (refine atRet ?_; refine Nx.ret [0] Try.func9 rfl rfl ?_; (exact ⟨MdH.new b, rfl, rfl, rfl⟩)) | refine Nx.late ?_)
theorem apply_ok (m : PH) (M : MdH) (hm : MdW M.p) (x : OpH) (ok : OpOk m x) (sm : OpS x) : FnOk Try.prog 18 [ptr M.b, x.v] [M.sp, roAll m] (MdQ M.b (M.p.apply x.o)) := by
  obtain ⟨s1, s2, s3⟩ := sm
  have h0 := Log_ok M hm x.o.from' x.o.many
  have h1 := Writer_ok M hm x.o.who x.o.ring
  have h2 := Reader_ok M hm x.o.who x.o.ring x.o.from' x.o.ahead x.hA x.hC (by omega)
  have h3 := Pool_ok M hm x.o.ring x.o.from' x.o.all x.o.ahead x.aA x.aC x.hA x.hC (by omega) ok.ca (by omega)
  have h4 := Send_ok M hm x.o.who x.o.l x.lA x.lC (by omega)
  have h5 := Take_ok M hm x.o.n
  unfold Nt.v at h5
  unfold OpH.v
  by_cases k0 : x.o.kind = 0
  · have hE : M.p.apply x.o = M.p.addLog x.o.from' x.o.many := by unfold MdP.apply; rw [if_pos k0]
    rw [hE]
    refine FnOk.start Try.func18 rfl rfl rfl rfl fun F os tape output => ?_
    refine go 200 ?_
    conv => whnf
    repeat' (first | ((first | refine BrM.yes (by omega) ?_ | refine BrM.not (by omega) ?_ | refine BrM.t rfl ?_ | refine BrM.f rfl ?_ | refine BrM.dec (fun _ => ?_) (fun _ => ?_) | refine BrM.mk (fun _ => ?_) (fun _ => ?_) | refine Ar.i64 (by omega) (by omega) ?_ | refine gO rfl ?_ | refine gP rfl (by repeat constructor) ?_) <;> conv => whnf) | (refine (atCall 19) ?_; refine Nx.call [0] [0,9] rfl rfl rfl rfl rfl (h0) rfl fun v Q hQ => ?_; obtain ⟨v',rfl,M',eb,ep,⟨h0,rfl,rfl⟩|⟨h0,b,q,rfl,rfl⟩⟩ := hQ) | (refine atRet ?_; refine Nx.ret [0,9] Try.func18 rfl rfl ?_; (exact ⟨M', eb, ep, .inr ⟨h0, b, q, rfl, rfl⟩⟩)) | (refine atRet ?_; refine Nx.ret [0] Try.func18 rfl rfl ?_; (exact ⟨M', eb, ep, .inl ⟨h0, rfl, rfl⟩⟩)) | refine Nx.late ?_)
  by_cases k1 : x.o.kind = 1
  · have hE : M.p.apply x.o = M.p.addWriter x.o.who x.o.ring := by unfold MdP.apply; rw [if_neg k0, if_pos k1]
    rw [hE]
    refine FnOk.start Try.func18 rfl rfl rfl rfl fun F os tape output => ?_
    refine go 200 ?_
    conv => whnf
    repeat' (first | ((first | refine BrM.yes (by omega) ?_ | refine BrM.not (by omega) ?_ | refine BrM.t rfl ?_ | refine BrM.f rfl ?_ | refine BrM.dec (fun _ => ?_) (fun _ => ?_) | refine BrM.mk (fun _ => ?_) (fun _ => ?_) | refine Ar.i64 (by omega) (by omega) ?_ | refine gO rfl ?_ | refine gP rfl (by repeat constructor) ?_) <;> conv => whnf) | (refine (atCall 21) ?_; refine Nx.call [0] [0,9] rfl rfl rfl rfl rfl (h1) rfl fun v Q hQ => ?_; obtain ⟨M',eb,ep,⟨h0,rfl,rfl⟩|⟨h0,b,q,rfl,rfl⟩⟩ := hQ) | (refine atRet ?_; refine Nx.ret [0,9] Try.func18 rfl rfl ?_; (exact ⟨M', eb, ep, .inr ⟨h0, b, q, rfl, rfl⟩⟩)) | (refine atRet ?_; refine Nx.ret [0] Try.func18 rfl rfl ?_; (exact ⟨M', eb, ep, .inl ⟨h0, rfl, rfl⟩⟩)) | refine Nx.late ?_)
  by_cases k2 : x.o.kind = 2
  · have hE : M.p.apply x.o = M.p.addReader x.o.who x.o.ring x.o.from' x.o.ahead := by unfold MdP.apply; rw [if_neg k0, if_neg k1, if_pos k2]
    rw [hE]
    refine FnOk.start Try.func18 rfl rfl rfl rfl fun F os tape output => ?_
    refine Nx.also 1 5 (rdS x.hA x.o.ahead.length 1 (x.o.ahead.flatMap inC)) rfl (ro_rdS ok.rh) ?_
    refine go 200 ?_
    conv => whnf
    repeat' (first | ((first | refine BrM.yes (by omega) ?_ | refine BrM.not (by omega) ?_ | refine BrM.t rfl ?_ | refine BrM.f rfl ?_ | refine BrM.dec (fun _ => ?_) (fun _ => ?_) | refine BrM.mk (fun _ => ?_) (fun _ => ?_) | refine Ar.i64 (by omega) (by omega) ?_ | refine gO rfl ?_ | refine gP rfl (by repeat constructor) ?_) <;> conv => whnf) | (refine (atCall 22) ?_; refine Nx.call [0,5] [0,9] rfl rfl rfl rfl rfl (h2) rfl fun v Q hQ => ?_; obtain ⟨M',eb,ep,⟨h0,rfl,rfl⟩|⟨h0,b,q,rfl,rfl⟩⟩ := hQ) | (refine atRet ?_; refine Nx.ret [0,9] Try.func18 rfl rfl ?_; (exact ⟨M', eb, ep, .inr ⟨h0, b, q, rfl, rfl⟩⟩)) | (refine atRet ?_; refine Nx.ret [0] Try.func18 rfl rfl ?_; (exact ⟨M', eb, ep, .inl ⟨h0, rfl, rfl⟩⟩)) | refine Nx.late ?_)
  by_cases k3 : x.o.kind = 3
  · have hE : M.p.apply x.o = M.p.addPool x.o.ring x.o.from' x.o.all x.o.ahead := by unfold MdP.apply; rw [if_neg k0, if_neg k1, if_neg k2, if_pos k3]
    rw [hE]
    refine FnOk.start Try.func18 rfl rfl rfl rfl fun F os tape output => ?_
    refine Nx.also 1 6 (rdS x.aA x.o.all.length 1 (x.o.all.flatMap inC)) rfl (ro_rdS ok.ra) ?_
    refine Nx.also 1 5 (rdS x.hA x.o.ahead.length 1 (x.o.ahead.flatMap inC)) rfl (ro_rdS ok.rh) ?_
    refine go 200 ?_
    conv => whnf
    repeat' (first | ((first | refine BrM.yes (by omega) ?_ | refine BrM.not (by omega) ?_ | refine BrM.t rfl ?_ | refine BrM.f rfl ?_ | refine BrM.dec (fun _ => ?_) (fun _ => ?_) | refine BrM.mk (fun _ => ?_) (fun _ => ?_) | refine Ar.i64 (by omega) (by omega) ?_ | refine gO rfl ?_ | refine gP rfl (by repeat constructor) ?_) <;> conv => whnf) | (refine (atCall 23) ?_; refine Nx.call [0,6,5] [0,9] rfl rfl rfl rfl rfl (h3) rfl fun v Q hQ => ?_; obtain ⟨M',eb,ep,⟨h0,rfl,rfl⟩|⟨h0,b,q,rfl,rfl⟩⟩ := hQ) | (refine atRet ?_; refine Nx.ret [0,9] Try.func18 rfl rfl ?_; (exact ⟨M', eb, ep, .inr ⟨h0, b, q, rfl, rfl⟩⟩)) | (refine atRet ?_; refine Nx.ret [0] Try.func18 rfl rfl ?_; (exact ⟨M', eb, ep, .inl ⟨h0, rfl, rfl⟩⟩)) | refine Nx.late ?_)
  by_cases k4 : x.o.kind = 4
  · have hE : M.p.apply x.o = M.p.send x.o.who x.o.l := by unfold MdP.apply; rw [if_neg k0, if_neg k1, if_neg k2, if_neg k3, if_pos k4]
    rw [hE]
    refine FnOk.start Try.func18 rfl rfl rfl rfl fun F os tape output => ?_
    refine Nx.also 1 5 (rdS x.lA x.o.l.length 2 (x.o.l.flatMap evC)) rfl (ro_rdS ok.rl) ?_
    refine go 200 ?_
    conv => whnf
    repeat' (first | ((first | refine BrM.yes (by omega) ?_ | refine BrM.not (by omega) ?_ | refine BrM.t rfl ?_ | refine BrM.f rfl ?_ | refine BrM.dec (fun _ => ?_) (fun _ => ?_) | refine BrM.mk (fun _ => ?_) (fun _ => ?_) | refine Ar.i64 (by omega) (by omega) ?_ | refine gO rfl ?_ | refine gP rfl (by repeat constructor) ?_) <;> conv => whnf) | (refine (atCall 24) ?_; refine Nx.call [0,5] [0,9] rfl rfl rfl rfl rfl (h4) rfl fun v Q hQ => ?_; obtain ⟨M',eb,ep,⟨h0,rfl,rfl⟩|⟨h0,b,q,rfl,rfl⟩⟩ := hQ) | (refine atRet ?_; refine Nx.ret [0,9] Try.func18 rfl rfl ?_; (exact ⟨M', eb, ep, .inr ⟨h0, b, q, rfl, rfl⟩⟩)) | (refine atRet ?_; refine Nx.ret [0] Try.func18 rfl rfl ?_; (exact ⟨M', eb, ep, .inl ⟨h0, rfl, rfl⟩⟩)) | refine Nx.late ?_)
  have hE : M.p.apply x.o = M.p.take x.o.n := by unfold MdP.apply; rw [if_neg k0, if_neg k1, if_neg k2, if_neg k3, if_neg k4]
  rw [hE]
  refine FnOk.start Try.func18 rfl rfl rfl rfl fun F os tape output => ?_
  refine go 200 ?_
  conv => whnf
  repeat' (first | ((first | refine BrM.yes (by omega) ?_ | refine BrM.not (by omega) ?_ | refine BrM.t rfl ?_ | refine BrM.f rfl ?_ | refine BrM.dec (fun _ => ?_) (fun _ => ?_) | refine BrM.mk (fun _ => ?_) (fun _ => ?_) | refine Ar.i64 (by omega) (by omega) ?_ | refine gO rfl ?_ | refine gP rfl (by repeat constructor) ?_) <;> conv => whnf) | (refine (atCall 25) ?_; refine Nx.call [0] [0,9] rfl rfl rfl rfl rfl (h5) rfl fun v Q hQ => ?_; obtain ⟨M',eb,ep,⟨h0,rfl,rfl⟩|⟨h0,b,q,rfl,rfl⟩⟩ := hQ) | (refine atRet ?_; refine Nx.ret [0,9] Try.func18 rfl rfl ?_; (exact ⟨M', eb, ep, .inr ⟨h0, b, q, rfl, rfl⟩⟩)) | (refine atRet ?_; refine Nx.ret [0] Try.func18 rfl rfl ?_; (exact ⟨M', eb, ep, .inl ⟨h0, rfl, rfl⟩⟩)) | refine Nx.late ?_)
end Go.Proofs.Ytngfadijcpnblaa

/- What the walks of the reference ask. -/
namespace Go.Proofs.Ytngfadijcpnblaa

structure BndR (M : MdR) (T : Nat) : Prop where
  nl : M.logs.length ≤ 8
  nw : M.writers.length + M.readers.length ≤ 512
  nf : M.facts.length ≤ T
  fx : ∀ f ∈ M.facts, f.x.length ≤ 64
  calls : ∀ w ∈ M.writers, w.calls.length ≤ T
  ahead : ∀ r ∈ M.readers, r.ahead.length ≤ 1000
  p0 : 0 ≤ M.pools
  p1 : M.pools ≤ T
theorem BndR.nil : BndR ⟨[], [], [], 0, []⟩ 0 := ⟨by simp, by simp, by simp, by simp, by simp, by simp, by simp, by simp⟩
section
variable {P : MdP} {M : MdR} {T : Nat}
theorem BndR.more (h : BndR M T) : BndR M (T + 1) :=
  ⟨h.nl, h.nw, by have := h.nf; omega, h.fx, fun w hw => by have := h.calls w hw; omega, h.ahead, h.p0, by have := h.p1; omega⟩
theorem BndR.addLog (h : BndR M T) (size : Int) (many : Bool) : BndR (M.addLog size many).1 (T + 1) := by
  have h' := h.more
  unfold MdR.addLog
  split
  · exact h'
  split
  · exact h'
  exact ⟨by show (M.logs ++ _).length ≤ 8; simp only [List.length_append, List.length_singleton]; omega, h'.nw, h'.nf, h'.fx, h'.calls, h'.ahead, h'.p0, h'.p1⟩
theorem freshR {n ring : Int} (h : ¬M.fresh n ring ≠ 0) : (M.writers.length : Int) + M.readers.length + n ≤ 512 := by
  unfold MdR.fresh at h
  split at h
  · exact absurd (by decide) h
  split at h
  · exact absurd (by decide) h
  · omega
theorem BndR.addWriter (h : BndR M T) (who ring : Int) : BndR (M.addWriter who ring).1 (T + 1) := by
  have h' := h.more
  unfold MdR.addWriter
  split
  · exact h'
  rename_i hf
  have := freshR hf
  split
  · exact h'
  split
  · exact h'
  refine ⟨h'.nl, by show (M.writers ++ _).length + _ ≤ _; simp only [List.length_append, List.length_singleton]; omega, h'.nf, h'.fx, fun w hw => ?_, h'.ahead, h'.p0, h'.p1⟩
  rcases List.mem_append.1 hw with hw | hw
  · exact h'.calls w hw
  · simp only [List.mem_singleton] at hw
    subst hw
    exact Nat.zero_le _
theorem BndR.addReader (h : BndR M T) (who ring start : Int) (ahead : List Int) (ha : ahead.length ≤ 1000) : BndR (M.addReader who ring start ahead).1 (T + 1) := by
  have h' := h.more
  unfold MdR.addReader
  split
  · exact h'
  rename_i hf
  have := freshR hf
  split
  · exact h'
  split
  · exact h'
  split
  · exact h'
  refine ⟨h'.nl, by show _ + (M.readers ++ _).length ≤ _; simp only [List.length_append, List.length_singleton]; omega, h'.nf, h'.fx, h'.calls, fun r hr => ?_, h'.p0, h'.p1⟩
  rcases List.mem_append.1 hr with hr | hr
  · exact h'.ahead r hr
  · simp only [List.mem_singleton] at hr
    subst hr
    exact ha
theorem BndR.addPool (h : BndR M T) (ring start : Int) (who ahead : List Int) (ha : ahead.length ≤ 1000) : BndR (M.addPool ring start who ahead).1 (T + 1) := by
  have h' := h.more
  unfold MdR.addPool
  split
  · exact h'
  rename_i hf
  have := freshR hf
  split
  · exact h'
  split
  · exact h'
  split
  · exact h'
  split
  · exact h'
  rename_i hl _ _ _
  refine ⟨h'.nl, by show _ + (M.readers ++ _).length ≤ _; simp only [List.length_append, List.length_map]; omega, h'.nf, h'.fx, h'.calls, fun r hr => ?_, by show 0 ≤ M.pools + 1; have := h.p0; omega, by show M.pools + 1 ≤ ((T + 1 : Nat) : Int); have := h.p1; omega⟩
  rcases List.mem_append.1 hr with hr | hr
  · exact h'.ahead r hr
  · obtain ⟨a, _, rfl⟩ := List.mem_map.1 hr
    exact ha
theorem BndR.send (h : BndR M T) (who : Int) (l : List Ev) : BndR (M.send who l).1 (T + 1) := by
  have h' := h.more
  unfold MdR.send
  split
  · exact h'
  split
  · exact h'
  refine ⟨h'.nl, by show (M.writers.modify _ _).length + _ ≤ _; rw [List.length_modify]; exact h.nw, h'.nf, h'.fx, mem_modify h'.calls fun w hw => ?_, h'.ahead, h'.p0, h'.p1⟩
  have := h.calls w (List.mem_of_getElem? hw)
  show (w.calls ++ [l]).length ≤ _
  simp only [List.length_append, List.length_singleton]
  omega
theorem judge_len (hs : Sim P M) (n : Nt) : (M.judge n).1.length ≤ 64 := by
  unfold MdR.judge
  split
  · simp
  split
  · simp
  split
  · simp
  rename_i k _ w hw
  split
  · unfold MdR.writes
    split
    · simp
    split
    · split <;> simp
    split
    · simp
    unfold MdR.call
    rw [hw]
    dsimp only
    cases hc : w.calls[(callF M.facts w.who).ended]? with
    | none => simp
    | some l =>
      have hl := (hs.calls w (List.mem_of_getElem? hw) l (List.mem_of_getElem? hc)).2
      dsimp only
      split
      · unfold MdR.showsR
        dsimp only
        split
        · simp
        split
        · simp
        split
        · simp
        split
        · simp
        split
        · simp
        simp only [List.length_take, List.length_drop]
        omega
      split
      · split <;> simp
      split <;> simp
  · simp
theorem BndR.take (h : BndR M T) (hs : Sim P M) (n : Nt) : BndR (M.take n).1 (T + 1) := by
  have h' := h.more
  unfold MdR.take
  split
  · refine ⟨h'.nl, h'.nw, by show (M.facts ++ _).length ≤ _; have := h.nf; simp only [List.length_append, List.length_singleton]; omega, fun f hf => ?_, h'.calls, h'.ahead, h'.p0, h'.p1⟩
    rcases List.mem_append.1 hf with hf | hf
    · exact h'.fx f hf
    · simp only [List.mem_singleton] at hf
      subst hf
      exact judge_len hs n
  · exact h'
theorem BndR.op (h : BndR M T) (hs : Sim P M) (o : Opn) (ha : o.ahead.length ≤ 1000) : BndR (M.op o).1 (T + 1) := by
  unfold MdR.op
  split
  · exact h.addLog _ _
  split
  · exact h.addWriter _ _
  split
  · exact h.addReader _ _ _ _ ha
  split
  · exact h.addPool _ _ _ _ ha
  split
  · exact h.send _ _
  split
  · exact h.take hs _
  exact h.more
/-- What a walk asks. -/
structure MdV (M : MdR) : Prop where
  nl : M.logs.length ≤ 8
  nw : M.writers.length + M.readers.length ≤ 512
  nf : M.facts.length ≤ 200
  fx : ∀ f ∈ M.facts, f.x.length ≤ 64
  pub : ∀ f ∈ M.facts, f.n.deed = 1 → 0 ≤ f.n.lo ∧ f.n.lo ≤ f.n.seq ∧ f.n.seq ≤ 4611686018427387904 ∧ (f.x.length : Int) = f.n.seq - f.n.lo + 1
  p0 : 0 ≤ M.pools ∧ M.pools ≤ 200
  calls : ∀ w ∈ M.writers, w.calls.length ≤ 200 ∧ ∀ l ∈ w.calls, 0 < l.length ∧ l.length ≤ 64
  call : ∀ w ∈ M.writers, CallOk (callF M.facts w.who) w
  wring : ∀ w ∈ M.writers, 0 ≤ w.ring ∧ w.ring < M.logs.length
  rring : ∀ r ∈ M.readers, 0 ≤ r.ring ∧ r.ring < M.logs.length
  rpool : ∀ r ∈ M.readers, -1 ≤ r.pool ∧ r.pool < M.pools
  rstart : ∀ r ∈ M.readers, 0 ≤ r.start ∧ r.start ≤ 4611686018427387904
  rb : ∀ r ∈ M.readers, -1 ≤ cursorF M.facts r.who r.ring r.start ∧ cursorF M.facts r.who r.ring r.start ≤ 4611686018427387904
  ral : ∀ r ∈ M.readers, r.ahead.length ≤ 1000
  rah : ∀ r ∈ M.readers, ∀ a ∈ r.ahead, (M.at a r.ring).isSome = true
  size : ∀ g ∈ M.logs, 1 ≤ g.1 ∧ g.1 ≤ 1048576
theorem Sim.mdv (h : Sim P M) (hb : BndR M T) (hT : T ≤ 200) : MdV M :=
  ⟨hb.nl, hb.nw, by have := hb.nf; omega, hb.fx, h.pub, ⟨hb.p0, by have := hb.p1; omega⟩, fun w hw => ⟨by have := hb.calls w hw; omega, h.calls w hw⟩, h.call, h.wring, h.rring, h.rpool, h.rstart, fun r hr => ⟨(h.rb r hr).1, (h.rb r hr).2.1⟩, hb.ahead, h.ahead, h.size⟩
end
end Go.Proofs.Ytngfadijcpnblaa

/- The reference's model in the memory: one assertion of all; what it lets see. -/
namespace Go.Proofs.Ytngfadijcpnblaa
open Go.RowKit

def rlC (x : Int × Bool) : List Value := [.int .i64 x.1, .bool x.2]
theorem rlC_len (x : Int × Bool) : (rlC x).length = 2 := rfl
/-- A call's events, and its room. -/
def CallH.sq (x : CallH) : SP := fun r h => x.sp r h ∧ x.l.length ≤ x.c
structure RWrH where
  who : Int
  ring : Int
  calls : List CallH
  cA : Option Addr
  cc : Nat
def RWrH.m (x : RWrH) : WrM := ⟨x.who, x.ring, x.calls.map (·.l)⟩
def RWrH.enc (x : RWrH) : List Value := [.int .i64 x.who, .int .i64 x.ring, .slice x.cA x.calls.length x.cc]
theorem RWrH.enc_len (x : RWrH) : x.enc.length = 3 := rfl
def RWrH.sp (x : RWrH) : SP := star [ownT 36 x.cA x.calls.length x.cc 1 (x.calls.flatMap CallH.enc), star (x.calls.map CallH.sq)]
structure RRdH where
  r : RdM
  aA : Option Addr
  ac : Nat
def RRdH.enc (x : RRdH) : List Value := [.int .i64 x.r.who, .int .i64 x.r.ring, .int .i64 x.r.start, .int .i64 x.r.pool, .slice x.aA x.r.ahead.length x.ac]
theorem RRdH.enc_len (x : RRdH) : x.enc.length = 5 := rfl
def RRdH.sp (x : RRdH) : SP := rdS x.aA x.r.ahead.length 1 (x.r.ahead.flatMap inC)
structure RFaH where
  f : Fact
  xA : Option Addr
  xc : Nat
def RFaH.enc (x : RFaH) : List Value := [.int .i64 x.f.n.who, .int .i64 x.f.n.ring, .int .i64 x.f.n.deed, .int .i64 x.f.n.lo, .int .i64 x.f.n.seq, .int .i64 x.f.n.x.key, .int .i64 x.f.n.x.val, .int .i64 x.f.n.code, .slice x.xA x.f.x.length x.xc]
theorem RFaH.enc_len (x : RFaH) : x.enc.length = 9 := rfl
def RFaH.sp (x : RFaH) : SP := rdS x.xA x.f.x.length 2 (x.f.x.flatMap evC)
structure RefH where
  b : Nat
  logs : List (Int × Bool)
  lA : Option Addr
  lc : Nat
  writers : List RWrH
  wA : Option Addr
  wc : Nat
  readers : List RRdH
  rA : Option Addr
  rc : Nat
  pools : Int
  facts : List RFaH
  fA : Option Addr
  fc : Nat
def RefH.p (x : RefH) : MdR := ⟨x.logs, x.writers.map (·.m), x.readers.map (·.r), x.pools, x.facts.map (·.f)⟩
def RefH.cells (x : RefH) : List Value := [.slice x.lA x.logs.length x.lc, .slice x.wA x.writers.length x.wc, .slice x.rA x.readers.length x.rc, .int .i64 x.pools, .slice x.fA x.facts.length x.fc]
def RefH.parts (x : RefH) : List SP := [blk x.b (.cells x.cells.toArray 34 (0, 0)), ownT 96 x.lA x.logs.length x.lc 2 (x.logs.flatMap rlC), ownT 115 x.wA x.writers.length x.wc 3 (x.writers.flatMap RWrH.enc),
  ownT 54 x.rA x.readers.length x.rc 5 (x.readers.flatMap RRdH.enc), ownT 59 x.fA x.facts.length x.fc 9 (x.facts.flatMap RFaH.enc),
  star (x.writers.map RWrH.sp), star (x.readers.map RRdH.sp), star (x.facts.map RFaH.sp)]
def RefH.sp (x : RefH) : SP := star x.parts

section
variable (M : RefH)
theorem RefH.seeB : SeesAt M.sp M.b 0 M.cells := star_at (P := blk M.b (.cells M.cells.toArray 34 (0, 0))) (by simp [RefH.parts]) (blk_at _ _ _)
theorem RefH.seeL : Sees M.sp M.lA M.logs.length 2 (M.logs.flatMap rlC) := star_sees (P := ownT 96 M.lA M.logs.length M.lc 2 (M.logs.flatMap rlC)) (by simp [RefH.parts]) (ownT_sees _ _ _ _ _ _)
theorem RefH.seeW : Sees M.sp M.wA M.writers.length 3 (M.writers.flatMap RWrH.enc) := star_sees (P := ownT 115 M.wA M.writers.length M.wc 3 (M.writers.flatMap RWrH.enc)) (by simp [RefH.parts]) (ownT_sees _ _ _ _ _ _)
theorem RefH.seeR : Sees M.sp M.rA M.readers.length 5 (M.readers.flatMap RRdH.enc) := star_sees (P := ownT 54 M.rA M.readers.length M.rc 5 (M.readers.flatMap RRdH.enc)) (by simp [RefH.parts]) (ownT_sees _ _ _ _ _ _)
theorem RefH.seeF : Sees M.sp M.fA M.facts.length 9 (M.facts.flatMap RFaH.enc) := star_sees (P := ownT 59 M.fA M.facts.length M.fc 9 (M.facts.flatMap RFaH.enc)) (by simp [RefH.parts]) (ownT_sees _ _ _ _ _ _)
variable {M}
theorem RefH.wca {x : RWrH} (h : x ∈ M.writers) : Sees M.sp x.cA x.calls.length 1 (x.calls.flatMap CallH.enc) :=
  star_sees (P := star (M.writers.map RWrH.sp)) (by simp [RefH.parts]) (star_sees (P := x.sp) (List.mem_map_of_mem h) (star_sees (P := ownT 36 x.cA x.calls.length x.cc 1 (x.calls.flatMap CallH.enc)) (by simp) (ownT_sees _ _ _ _ _ _)))
theorem RefH.wev {x : RWrH} (h : x ∈ M.writers) {c : CallH} (hc : c ∈ x.calls) : Sees M.sp c.A c.l.length 2 (c.l.flatMap evC) :=
  star_sees (P := star (M.writers.map RWrH.sp)) (by simp [RefH.parts]) (star_sees (P := x.sp) (List.mem_map_of_mem h) (star_sees (P := star (x.calls.map CallH.sq)) (by simp) (star_sees (P := c.sq) (List.mem_map_of_mem hc) fun r h d hs => rdS_sees _ _ _ _ r h d hs.1)))
theorem RefH.wsq {x : RWrH} (h : x ∈ M.writers) {c : CallH} (hc : c ∈ x.calls) {r h' : PH} (hs : M.sp r h') : rdS c.A c.l.length 2 (c.l.flatMap evC) r PH.em ∧ c.l.length ≤ c.c := by
  obtain ⟨r1, h1, a1, _, e1⟩ := Sat.mem (P := star (M.writers.map RWrH.sp)) (show Sat M.parts r h' from hs) (by simp [RefH.parts])
  obtain ⟨r2, h2, a2, _, e2⟩ := Sat.mem (P := x.sp) (show Sat (M.writers.map RWrH.sp) r1 h1 from e1) (List.mem_map_of_mem h)
  obtain ⟨r3, h3, a3, _, e3⟩ := Sat.mem (P := star (x.calls.map CallH.sq)) (L := [ownT 36 x.cA x.calls.length x.cc 1 (x.calls.flatMap CallH.enc), star (x.calls.map CallH.sq)]) e2 (by simp)
  obtain ⟨r4, h4, a4, _, e4⟩ := Sat.mem (P := c.sq) (show Sat (x.calls.map CallH.sq) r3 h3 from e3) (List.mem_map_of_mem hc)
  exact ⟨Rd.mono e4.1 (PH.le_trans a4 (PH.le_trans a3 (PH.le_trans a2 a1))), e4.2⟩
theorem RefH.rah {x : RRdH} (h : x ∈ M.readers) : Sees M.sp x.aA x.r.ahead.length 1 (x.r.ahead.flatMap inC) :=
  star_sees (P := star (M.readers.map RRdH.sp)) (by simp [RefH.parts]) (star_sees (P := x.sp) (List.mem_map_of_mem h) (rdS_sees _ _ _ _))
theorem RefH.fev {x : RFaH} (h : x ∈ M.facts) : Sees M.sp x.xA x.f.x.length 2 (x.f.x.flatMap evC) :=
  star_sees (P := star (M.facts.map RFaH.sp)) (by simp [RefH.parts]) (star_sees (P := x.sp) (List.mem_map_of_mem h) (rdS_sees _ _ _ _))
theorem RefH.lf : M.p.facts.length = M.facts.length := by simp [RefH.p]
theorem RefH.lw : M.p.writers.length = M.writers.length := by simp [RefH.p]
theorem RefH.lr : M.p.readers.length = M.readers.length := by simp [RefH.p]
theorem RefH.gf {k : Nat} (h : k < M.facts.length) : M.p.facts[k]? = some (M.facts[k]).f := by simp [RefH.p, List.getElem?_eq_getElem h]
theorem RefH.gr {k : Nat} (h : k < M.readers.length) : M.p.readers[k]? = some (M.readers[k]).r := by simp [RefH.p, List.getElem?_eq_getElem h]
theorem RefH.gw {k : Nat} (h : k < M.writers.length) : M.p.writers[k]? = some (M.writers[k]).m := by simp [RefH.p, List.getElem?_eq_getElem h]
theorem MdV.lens {M : RefH} (hm : MdV M.p) : M.logs.length ≤ 8 ∧ M.writers.length + M.readers.length ≤ 512 ∧ M.facts.length ≤ 200 := by
  have a := hm.nl
  have b := hm.nw
  have c := hm.nf
  rw [RefH.lf] at c
  rw [RefH.lw, RefH.lr] at b
  exact ⟨a, b, c⟩
end
theorem RFaH.note {S : SP} {x : RFaH} {b p : Nat} (h : SeesAt S b p x.enc) : SeesAt S b (addN p 0) [.int .i64 x.f.n.who, .int .i64 x.f.n.ring, .int .i64 x.f.n.deed, .int .i64 x.f.n.lo, .int .i64 x.f.n.seq, .int .i64 x.f.n.x.key, .int .i64 x.f.n.x.val, .int .i64 x.f.n.code] := h.cut 0 8 (show 0 + 8 ≤ 9 by decide)
/-- The number of a place: -1 where there is none. -/
def ixV (k : Option Nat) : Int := match k with | none => -1 | some k => k
theorem foldl_take_succ {α β : Type} {f : β → α → β} {a : β} {l : List α} {j : Nat} {x : α} (h : l[j]? = some x) : (l.take (j + 1)).foldl f a = f ((l.take j).foldl f a) x := by
  rw [List.take_add_one, h, List.foldl_append]; rfl
end Go.Proofs.Ytngfadijcpnblaa

/- The reference: what only looks. -/
namespace Go.Proofs.Ytngfadijcpnblaa
open Go.RowKit
set_option maxRecDepth 20000
set_option maxHeartbeats 4000000
attribute [local irreducible] Nx Ar BrM headC OneC HoC AftC planHead endF
theorem rOf_ok (M : RefH) (hm : MdV M.p) (who : Int) : FnOk Try.prog 51 [ptr M.b, .int .i64 who] [M.sp] (fun v Q => v = .int .i64 (ixV (M.p.of who)) ∧ Q = [M.sp]) := by
  obtain ⟨hl8, hl5, hl2⟩ := hm.lens
  have b0 := M.seeB.sub 0 rfl
  have b1 := M.seeB.sub 1 rfl
  have b2 := M.seeB.sub 2 rfl
  have b4 := M.seeB.sub 4 rfl
  have hW := M.seeW
  have hR := M.seeR
  have hF := M.seeF
  refine FnOk.start Try.func51 rfl rfl rfl rfl fun F os tape output => ?_
  refine go 200 ?_
  conv => whnf
  repeat' (first | ((first | refine BrM.t rfl ?_ | refine BrM.f rfl ?_ | refine BrM.dec (fun _ => ?_) (fun _ => ?_) | refine BrM.mk (fun _ => ?_) (fun _ => ?_) | refine Ar.i64 (by omega) (by omega) ?_ | refine gO rfl ?_ | refine gP rfl (by repeat constructor) ?_) <;> conv => whnf) | (fail) | refine Nx.late ?_)
  refine Nx.loop (X := Nat) (fun j => j ≤ M.writers.length ∧ ∀ q, (hq : q < j) → (hl : q < M.writers.length) → M.writers[q].who ≠ who) (fun j => M.writers.length - j)
    (fun j => [(0, .c (.v (ptr M.b))), (1, iv who), (5, iv j)]) (fun _ => []) [] (fun _ => [(0, M.sp)]) 0 ⟨Nat.zero_le _, fun i hi => by omega⟩ ?_ ?_ ?_ ?_ ?_
  all_goals repeat (first | exact .nil _ | refine .cons rfl ?_ | refine .cons rfl rfl ?_ | refine .cons rfl rfl rfl ?_ | refine .cons' rfl (fun _ => rfl) ?_)
  intro j ⟨hj, hno⟩ ih
  by_cases hlt : j < M.writers.length
  · by_cases hw : M.writers[j].who = who
    · have e : M.p.of who = some j := findI_some (by rw [M.lw]; exact hlt) (by simp [RefH.p, RWrH.m, hw]) fun i hi => by simpa [RefH.p, RWrH.m] using hno i hi (by omega)
      rw [e]
      repeat' (first | ((first | refine BrM.yes (by omega) ?_ | refine BrM.t rfl ?_ | refine BrM.f rfl ?_ | refine BrM.dec (fun _ => ?_) (fun _ => ?_) | refine BrM.mk (fun _ => ?_) (fun _ => ?_) | refine Ar.i64 (by omega) (by omega) ?_ | refine gO rfl ?_ | refine gP rfl (by repeat constructor) ?_) <;> conv => whnf) | (refine atLoad ?_; refine Nx.load1 0 rfl rfl rfl rfl (b1) rfl ?_) | (refine atIdx ?_; refine Nx.idx 0 (j := j) rfl rfl rfl Try.underlying30 rfl rfl rfl RWrH.enc_len hW rfl (by omega) (by omega) fun _ _ _ => ?_) | (refine atLoad ?_; first | (refine Nx.load1 0 rfl rfl rfl rfl (SeesAt.sub (by assumption) _ rfl) rfl ?_) | (refine Nx.load1 0 rfl rfl rfl rfl (by assumption) rfl ?_) | (refine Nx.load 0 rfl rfl rfl rfl (by assumption) rfl rfl ?_)) | (refine atRet ?_; refine Nx.ret [0] Try.func51 rfl rfl ?_; (exact ⟨rfl, rfl⟩)) | refine Nx.late ?_)
    · repeat' (first | (refine atBr ?_; refine BrM.not (hw) ?_; conv => whnf) | ((first | refine BrM.yes (by omega) ?_ | refine BrM.t rfl ?_ | refine BrM.f rfl ?_ | refine BrM.dec (fun _ => ?_) (fun _ => ?_) | refine BrM.mk (fun _ => ?_) (fun _ => ?_) | refine Ar.i64 (by omega) (by omega) ?_ | refine gO rfl ?_ | refine gP rfl (by repeat constructor) ?_) <;> conv => whnf) | (refine atLoad ?_; refine Nx.load1 0 rfl rfl rfl rfl (b1) rfl ?_) | (refine atIdx ?_; refine Nx.idx 0 (j := j) rfl rfl rfl Try.underlying30 rfl rfl rfl RWrH.enc_len hW rfl (by omega) (by omega) fun _ _ _ => ?_) | (refine atLoad ?_; first | (refine Nx.load1 0 rfl rfl rfl rfl (SeesAt.sub (by assumption) _ rfl) rfl ?_) | (refine Nx.load1 0 rfl rfl rfl rfl (by assumption) rfl ?_) | (refine Nx.load 0 rfl rfl rfl rfl (by assumption) rfl rfl ?_)) | refine Nx.late ?_)
      refine (ih (j + 1) ⟨by omega, fun q hq hl => ?_⟩ (by omega)).weak ?_ ?_ ?_ ?_
      · by_cases e : q = j
        · subst e; exact hw
        · exact hno q (by omega) hl
      all_goals repeat (first | exact .nil _ | refine .cons rfl ?_ | refine .cons rfl rfl ?_ | refine .cons rfl rfl rfl ?_ | refine .cons' rfl (fun _ => rfl) ?_)
  · have e : M.p.of who = none := findI_none fun i hi => by
      have hl : i < M.writers.length := by simpa [RefH.p] using hi
      simpa [RefH.p, RWrH.m] using hno i (by omega) hl
    rw [e]
    repeat' (first | ((first | refine BrM.not (by omega) ?_ | refine BrM.t rfl ?_ | refine BrM.f rfl ?_ | refine BrM.dec (fun _ => ?_) (fun _ => ?_) | refine BrM.mk (fun _ => ?_) (fun _ => ?_) | refine Ar.i64 (by omega) (by omega) ?_ | refine gO rfl ?_ | refine gP rfl (by repeat constructor) ?_) <;> conv => whnf) | (refine atLoad ?_; refine Nx.load1 0 rfl rfl rfl rfl (b1) rfl ?_) | (refine atRet ?_; refine Nx.ret [0] Try.func51 rfl rfl ?_; (exact ⟨rfl, rfl⟩)) | refine Nx.late ?_)
theorem rAt_ok (M : RefH) (hm : MdV M.p) (who ring : Int) : FnOk Try.prog 52 [ptr M.b, .int .i64 who, .int .i64 ring] [M.sp] (fun v Q => v = .int .i64 (ixV (M.p.at who ring)) ∧ Q = [M.sp]) := by
  obtain ⟨hl8, hl5, hl2⟩ := hm.lens
  have b0 := M.seeB.sub 0 rfl
  have b1 := M.seeB.sub 1 rfl
  have b2 := M.seeB.sub 2 rfl
  have b4 := M.seeB.sub 4 rfl
  have hW := M.seeW
  have hR := M.seeR
  have hF := M.seeF
  refine FnOk.start Try.func52 rfl rfl rfl rfl fun F os tape output => ?_
  refine go 200 ?_
  conv => whnf
  repeat' (first | ((first | refine BrM.t rfl ?_ | refine BrM.f rfl ?_ | refine BrM.dec (fun _ => ?_) (fun _ => ?_) | refine BrM.mk (fun _ => ?_) (fun _ => ?_) | refine Ar.i64 (by omega) (by omega) ?_ | refine gO rfl ?_ | refine gP rfl (by repeat constructor) ?_) <;> conv => whnf) | (fail) | refine Nx.late ?_)
  refine Nx.loop (X := Nat) (fun j => j ≤ M.readers.length ∧ ∀ q, (hq : q < j) → (hl : q < M.readers.length) → ¬(M.readers[q].r.who = who ∧ M.readers[q].r.ring = ring)) (fun j => M.readers.length - j)
    (fun j => [(0, .c (.v (ptr M.b))), (1, iv who), (2, iv ring), (7, iv j)]) (fun _ => []) [] (fun _ => [(0, M.sp)]) 0 ⟨Nat.zero_le _, fun i hi => by omega⟩ ?_ ?_ ?_ ?_ ?_
  all_goals repeat (first | exact .nil _ | refine .cons rfl ?_ | refine .cons rfl rfl ?_ | refine .cons rfl rfl rfl ?_ | refine .cons' rfl (fun _ => rfl) ?_)
  intro j ⟨hj, hno⟩ ih
  by_cases hlt : j < M.readers.length
  · have next : ¬(M.readers[j].r.who = who ∧ M.readers[j].r.ring = ring) → ∀ q, (hq : q < j + 1) → (hl : q < M.readers.length) → ¬(M.readers[q].r.who = who ∧ M.readers[q].r.ring = ring) := fun hw q hq hl => by
      by_cases e : q = j
      · subst e; exact hw
      · exact hno q (by omega) hl
    by_cases hw : M.readers[j].r.who = who
    · by_cases hr : M.readers[j].r.ring = ring
      · have e : M.p.at who ring = some j := findI_some (by rw [M.lr]; exact hlt) (by simp [RefH.p, hw, hr]) fun i hi => by simpa [RefH.p] using hno i hi (by omega)
        rw [e]
        repeat' (first | ((first | refine BrM.yes (by omega) ?_ | refine BrM.t rfl ?_ | refine BrM.f rfl ?_ | refine BrM.dec (fun _ => ?_) (fun _ => ?_) | refine BrM.mk (fun _ => ?_) (fun _ => ?_) | refine Ar.i64 (by omega) (by omega) ?_ | refine gO rfl ?_ | refine gP rfl (by repeat constructor) ?_) <;> conv => whnf) | (refine atLoad ?_; refine Nx.load1 0 rfl rfl rfl rfl (b2) rfl ?_) | (refine atIdx ?_; refine Nx.idx 0 (j := j) rfl rfl rfl Try.underlying31 rfl rfl rfl RRdH.enc_len hR rfl (by omega) (by omega) fun _ _ _ => ?_) | (refine atLoad ?_; first | (refine Nx.load1 0 rfl rfl rfl rfl (SeesAt.sub (by assumption) _ rfl) rfl ?_) | (refine Nx.load1 0 rfl rfl rfl rfl (by assumption) rfl ?_) | (refine Nx.load 0 rfl rfl rfl rfl (by assumption) rfl rfl ?_)) | (refine atRet ?_; refine Nx.ret [0] Try.func52 rfl rfl ?_; (exact ⟨rfl, rfl⟩)) | refine Nx.late ?_)
      · repeat' (first | (refine atBr ?_; refine BrM.not (hr) ?_; conv => whnf) | ((first | refine BrM.yes (by omega) ?_ | refine BrM.t rfl ?_ | refine BrM.f rfl ?_ | refine BrM.dec (fun _ => ?_) (fun _ => ?_) | refine BrM.mk (fun _ => ?_) (fun _ => ?_) | refine Ar.i64 (by omega) (by omega) ?_ | refine gO rfl ?_ | refine gP rfl (by repeat constructor) ?_) <;> conv => whnf) | (refine atLoad ?_; refine Nx.load1 0 rfl rfl rfl rfl (b2) rfl ?_) | (refine atIdx ?_; refine Nx.idx 0 (j := j) rfl rfl rfl Try.underlying31 rfl rfl rfl RRdH.enc_len hR rfl (by omega) (by omega) fun _ _ _ => ?_) | (refine atLoad ?_; first | (refine Nx.load1 0 rfl rfl rfl rfl (SeesAt.sub (by assumption) _ rfl) rfl ?_) | (refine Nx.load1 0 rfl rfl rfl rfl (by assumption) rfl ?_) | (refine Nx.load 0 rfl rfl rfl rfl (by assumption) rfl rfl ?_)) | refine Nx.late ?_)
        refine (ih (j + 1) ⟨by omega, next (fun h => hr h.2)⟩ (by omega)).weak ?_ ?_ ?_ ?_
        all_goals repeat (first | exact .nil _ | refine .cons rfl ?_ | refine .cons rfl rfl ?_ | refine .cons rfl rfl rfl ?_ | refine .cons' rfl (fun _ => rfl) ?_)
    · repeat' (first | (refine atBr ?_; refine BrM.not (hw) ?_; conv => whnf) | ((first | refine BrM.yes (by omega) ?_ | refine BrM.t rfl ?_ | refine BrM.f rfl ?_ | refine BrM.dec (fun _ => ?_) (fun _ => ?_) | refine BrM.mk (fun _ => ?_) (fun _ => ?_) | refine Ar.i64 (by omega) (by omega) ?_ | refine gO rfl ?_ | refine gP rfl (by repeat constructor) ?_) <;> conv => whnf) | (refine atLoad ?_; refine Nx.load1 0 rfl rfl rfl rfl (b2) rfl ?_) | (refine atIdx ?_; refine Nx.idx 0 (j := j) rfl rfl rfl Try.underlying31 rfl rfl rfl RRdH.enc_len hR rfl (by omega) (by omega) fun _ _ _ => ?_) | (refine atLoad ?_; first | (refine Nx.load1 0 rfl rfl rfl rfl (SeesAt.sub (by assumption) _ rfl) rfl ?_) | (refine Nx.load1 0 rfl rfl rfl rfl (by assumption) rfl ?_) | (refine Nx.load 0 rfl rfl rfl rfl (by assumption) rfl rfl ?_)) | refine Nx.late ?_)
      refine (ih (j + 1) ⟨by omega, next (fun h => hw h.1)⟩ (by omega)).weak ?_ ?_ ?_ ?_
      all_goals repeat (first | exact .nil _ | refine .cons rfl ?_ | refine .cons rfl rfl ?_ | refine .cons rfl rfl rfl ?_ | refine .cons' rfl (fun _ => rfl) ?_)
  · have e : M.p.at who ring = none := findI_none fun i hi => by
      have hl : i < M.readers.length := by simpa [RefH.p] using hi
      have := hno i (by omega) hl
      simpa [RefH.p] using this
    rw [e]
    repeat' (first | ((first | refine BrM.not (by omega) ?_ | refine BrM.t rfl ?_ | refine BrM.f rfl ?_ | refine BrM.dec (fun _ => ?_) (fun _ => ?_) | refine BrM.mk (fun _ => ?_) (fun _ => ?_) | refine Ar.i64 (by omega) (by omega) ?_ | refine gO rfl ?_ | refine gP rfl (by repeat constructor) ?_) <;> conv => whnf) | (refine atLoad ?_; refine Nx.load1 0 rfl rfl rfl rfl (b2) rfl ?_) | (refine atRet ?_; refine Nx.ret [0] Try.func52 rfl rfl ?_; (exact ⟨rfl, rfl⟩)) | refine Nx.late ?_)
theorem rFresh_ok (M : RefH) (hm : MdV M.p) (n ring : Int) (hn1 : 0 ≤ n) (hn2 : n ≤ 100) : FnOk Try.prog 50 [ptr M.b, .int .i64 n, .int .i64 ring] [M.sp] (fun v Q => v = .int .i64 (M.p.fresh n ring) ∧ Q = [M.sp]) := by
  obtain ⟨hl8, hl5, hl2⟩ := hm.lens
  have b0 := M.seeB.sub 0 rfl
  have b1 := M.seeB.sub 1 rfl
  have b2 := M.seeB.sub 2 rfl
  have b4 := M.seeB.sub 4 rfl
  have hW := M.seeW
  have hR := M.seeR
  have hF := M.seeF
  have e0 : M.p.fresh n ring = if ring < 0 ∨ (M.logs.length : Int) ≤ ring then 3 else if 512 < (M.writers.length : Int) + M.readers.length + n then 8 else 0 := by unfold MdR.fresh; rw [M.lw, M.lr]; rfl
  rw [e0]
  by_cases h0 : ring < 0 ∨ (M.logs.length : Int) ≤ ring
  · rw [if_pos h0]
    refine FnOk.start Try.func50 rfl rfl rfl rfl fun F os tape output => ?_
    refine go 200 ?_
    conv => whnf
    repeat' (first | ((first | refine BrM.yes (by omega) ?_ | refine BrM.not (by omega) ?_ | refine BrM.t rfl ?_ | refine BrM.f rfl ?_ | refine BrM.dec (fun _ => ?_) (fun _ => ?_) | refine BrM.mk (fun _ => ?_) (fun _ => ?_) | refine Ar.i64 (by omega) (by omega) ?_ | refine gO rfl ?_ | refine gP rfl (by repeat constructor) ?_) <;> conv => whnf) | (refine atLoad ?_; refine Nx.load1 0 rfl rfl rfl rfl (b0) rfl ?_) | (refine atRet ?_; refine Nx.ret [0] Try.func50 rfl rfl ?_; (exact ⟨rfl, rfl⟩)) | refine Nx.late ?_)
  rw [if_neg h0]
  by_cases h2 : 512 < (M.writers.length : Int) + M.readers.length + n
  · rw [if_pos h2]
    refine FnOk.start Try.func50 rfl rfl rfl rfl fun F os tape output => ?_
    refine go 200 ?_
    conv => whnf
    repeat' (first | ((first | refine BrM.yes (by omega) ?_ | refine BrM.not (by omega) ?_ | refine BrM.t rfl ?_ | refine BrM.f rfl ?_ | refine BrM.dec (fun _ => ?_) (fun _ => ?_) | refine BrM.mk (fun _ => ?_) (fun _ => ?_) | refine Ar.i64 (by omega) (by omega) ?_ | refine gO rfl ?_ | refine gP rfl (by repeat constructor) ?_) <;> conv => whnf) | (refine atLoad ?_; refine Nx.load1 0 rfl rfl rfl rfl (b0) rfl ?_) | (refine dN 3 [0] [0,4,8,13,16,20,24,28,33,36,40,44,48,52] rfl (by kernel_rfl) rfl (by kernel_rfl) rfl (by repeat constructor) rfl ?_) | (refine atHoLoad ?_; first | refine hL1 rfl rfl rfl rfl (SeesAt.sub (by assumption) _ rfl) (by repeat constructor) rfl ?_ | refine hL1 rfl rfl rfl rfl (by assumption) (by repeat constructor) rfl ?_ | refine hLm rfl rfl rfl rfl (by assumption) (by repeat constructor) rfl rfl ?_) | (refine atRet ?_; refine Nx.ret [0] Try.func50 rfl rfl ?_; (exact ⟨rfl, rfl⟩)) | refine Nx.late ?_)
  · rw [if_neg h2]
    refine FnOk.start Try.func50 rfl rfl rfl rfl fun F os tape output => ?_
    refine go 200 ?_
    conv => whnf
    repeat' (first | ((first | refine BrM.yes (by omega) ?_ | refine BrM.not (by omega) ?_ | refine BrM.t rfl ?_ | refine BrM.f rfl ?_ | refine BrM.dec (fun _ => ?_) (fun _ => ?_) | refine BrM.mk (fun _ => ?_) (fun _ => ?_) | refine Ar.i64 (by omega) (by omega) ?_ | refine gO rfl ?_ | refine gP rfl (by repeat constructor) ?_) <;> conv => whnf) | (refine atLoad ?_; refine Nx.load1 0 rfl rfl rfl rfl (b0) rfl ?_) | (refine dN 3 [0] [0,4,8,13,16,20,24,28,33,36,40,44,48,52] rfl (by kernel_rfl) rfl (by kernel_rfl) rfl (by repeat constructor) rfl ?_) | (refine atHoLoad ?_; first | refine hL1 rfl rfl rfl rfl (SeesAt.sub (by assumption) _ rfl) (by repeat constructor) rfl ?_ | refine hL1 rfl rfl rfl rfl (by assumption) (by repeat constructor) rfl ?_ | refine hLm rfl rfl rfl rfl (by assumption) (by repeat constructor) rfl rfl ?_) | (refine atRet ?_; refine Nx.ret [0] Try.func50 rfl rfl ?_; (exact ⟨rfl, rfl⟩)) | refine Nx.late ?_)
theorem rBehind_ok (M : RefH) (hm : MdV M.p) (ring : Int) (ahead : List Int) (aA : Option Addr) (ac : Nat) (ha : ahead.length ≤ 1000) : FnOk Try.prog 53 [ptr M.b, .int .i64 ring, .slice aA ahead.length ac] [M.sp, rdS aA ahead.length 1 (ahead.flatMap inC)] (fun v Q => v = .int .i64 (M.p.behind ring ahead) ∧ Q = [M.sp]) := by
  have hL : Sees (rdS aA ahead.length 1 (ahead.flatMap inC)) aA ahead.length 1 (ahead.flatMap inC) := rdS_sees _ _ _ _
  unfold MdR.behind
  refine FnOk.start Try.func53 rfl rfl rfl rfl fun F os tape output => ?_
  refine go 200 ?_
  conv => whnf
  repeat' (first | ((first | refine BrM.t rfl ?_ | refine BrM.f rfl ?_ | refine BrM.dec (fun _ => ?_) (fun _ => ?_) | refine BrM.mk (fun _ => ?_) (fun _ => ?_) | refine Ar.i64 (by omega) (by omega) ?_ | refine gO rfl ?_ | refine gP rfl (by repeat constructor) ?_) <;> conv => whnf) | (fail) | refine Nx.late ?_)
  refine Nx.loop (X := Nat) (fun j => j ≤ ahead.length ∧ ∀ q, (hq : q < j) → (hl : q < ahead.length) → (M.p.at ahead[q] ring).isNone = false) (fun j => ahead.length - j)
    (fun j => [(0, .c (.v (ptr M.b))), (1, iv ring), (2, sl aA ahead.length ac), (7, iv j)]) (fun _ => []) [] (fun _ => [(0, M.sp), (1, rdS aA ahead.length 1 (ahead.flatMap inC))]) 0 ⟨Nat.zero_le _, fun i hi => by omega⟩ ?_ ?_ ?_ ?_ ?_
  all_goals repeat (first | exact .nil _ | refine .cons rfl ?_ | refine .cons rfl rfl ?_ | refine .cons rfl rfl rfl ?_ | refine .cons' rfl (fun _ => rfl) ?_)
  intro j ⟨hj, hyes⟩ ih
  by_cases hlt : j < ahead.length
  · have haj := rAt_ok M hm ahead[j] ring
    cases h5 : M.p.at ahead[j] ring with
    | none =>
      rw [h5] at haj
      have e : (ahead.any fun a => (M.p.at a ring).isNone) = true := by
        rw [List.any_eq_true]
        exact ⟨ahead[j], List.getElem_mem hlt, by rw [h5]; rfl⟩
      rw [e, if_pos rfl]
      have : ixV none = -1 := rfl
      rw [this] at haj
      repeat' (first | ((first | refine BrM.yes (by omega) ?_ | refine BrM.t rfl ?_ | refine BrM.f rfl ?_ | refine BrM.dec (fun _ => ?_) (fun _ => ?_) | refine BrM.mk (fun _ => ?_) (fun _ => ?_) | refine Ar.i64 (by omega) (by omega) ?_ | refine gO rfl ?_ | refine gP rfl (by repeat constructor) ?_) <;> conv => whnf) | (refine atIdx ?_; refine Nx.idx 1 (j := j) rfl rfl rfl Try.underlying35 rfl rfl rfl inC_len hL rfl (by omega) (by omega) fun _ _ _ => ?_) | (refine atLoad ?_; first | (refine Nx.load1 1 rfl rfl rfl rfl (SeesAt.sub (by assumption) _ rfl) rfl ?_) | (refine Nx.load1 1 rfl rfl rfl rfl (by assumption) rfl ?_) | (refine Nx.load 1 rfl rfl rfl rfl (by assumption) rfl rfl ?_)) | (refine atCall 52 ?_; refine cE [0] [0] rfl rfl rfl rfl rfl (haj) rfl ?_) | (refine atRet ?_; refine Nx.ret [0] Try.func53 rfl rfl ?_; (exact ⟨rfl, rfl⟩)) | refine Nx.late ?_)
    | some k =>
      rw [h5] at haj
      have : ixV (some k) = (k : Int) := rfl
      rw [this] at haj
      repeat' (first | ((first | refine BrM.yes (by omega) ?_ | refine BrM.not (by omega) ?_ | refine BrM.t rfl ?_ | refine BrM.f rfl ?_ | refine BrM.dec (fun _ => ?_) (fun _ => ?_) | refine BrM.mk (fun _ => ?_) (fun _ => ?_) | refine Ar.i64 (by omega) (by omega) ?_ | refine gO rfl ?_ | refine gP rfl (by repeat constructor) ?_) <;> conv => whnf) | (refine atIdx ?_; refine Nx.idx 1 (j := j) rfl rfl rfl Try.underlying35 rfl rfl rfl inC_len hL rfl (by omega) (by omega) fun _ _ _ => ?_) | (refine atLoad ?_; first | (refine Nx.load1 1 rfl rfl rfl rfl (SeesAt.sub (by assumption) _ rfl) rfl ?_) | (refine Nx.load1 1 rfl rfl rfl rfl (by assumption) rfl ?_) | (refine Nx.load 1 rfl rfl rfl rfl (by assumption) rfl rfl ?_)) | (refine atCall 52 ?_; refine cE [0] [0] rfl rfl rfl rfl rfl (haj) rfl ?_) | refine Nx.late ?_)
      refine (ih (j + 1) ⟨by omega, fun q hq hl => ?_⟩ (by omega)).weak ?_ ?_ ?_ ?_
      · by_cases e : q = j
        · subst e; rw [h5]; rfl
        · exact hyes q (by omega) hl
      all_goals repeat (first | exact .nil _ | refine .cons rfl ?_ | refine .cons rfl rfl ?_ | refine .cons rfl rfl rfl ?_ | refine .cons' rfl (fun _ => rfl) ?_)
  · have e : (ahead.any fun a => (M.p.at a ring).isNone) = false := by
      rw [List.any_eq_false]
      intro a hqa
      obtain ⟨q, hql, rfl⟩ := List.getElem_of_mem hqa
      rw [hyes q (by omega) hql]; decide
    rw [e, if_neg (by decide)]
    repeat' (first | ((first | refine BrM.not (by omega) ?_ | refine BrM.t rfl ?_ | refine BrM.f rfl ?_ | refine BrM.dec (fun _ => ?_) (fun _ => ?_) | refine BrM.mk (fun _ => ?_) (fun _ => ?_) | refine Ar.i64 (by omega) (by omega) ?_ | refine gO rfl ?_ | refine gP rfl (by repeat constructor) ?_) <;> conv => whnf) | (refine atRet ?_; refine Nx.ret [0] Try.func53 rfl rfl ?_; (exact ⟨rfl, rfl⟩)) | refine Nx.late ?_)
theorem rDid_ok (M : RefH) (hm : MdV M.p) (who ring d : Int) : FnOk Try.prog 35 [ptr M.b, .int .i64 who, .int .i64 ring, .int .i64 d] [M.sp] (fun v Q => v = .bool (didF M.p.facts who ring d) ∧ Q = [M.sp]) := by
  obtain ⟨hl8, hl5, hl2⟩ := hm.lens
  have b0 := M.seeB.sub 0 rfl
  have b1 := M.seeB.sub 1 rfl
  have b2 := M.seeB.sub 2 rfl
  have b4 := M.seeB.sub 4 rfl
  have hW := M.seeW
  have hR := M.seeR
  have hF := M.seeF
  refine FnOk.start Try.func35 rfl rfl rfl rfl fun F os tape output => ?_
  refine go 200 ?_
  conv => whnf
  repeat' (first | ((first | refine BrM.t rfl ?_ | refine BrM.f rfl ?_ | refine BrM.dec (fun _ => ?_) (fun _ => ?_) | refine BrM.mk (fun _ => ?_) (fun _ => ?_) | refine Ar.i64 (by omega) (by omega) ?_ | refine gO rfl ?_ | refine gP rfl (by repeat constructor) ?_) <;> conv => whnf) | (fail) | refine Nx.late ?_)
  refine Nx.loop (X := Nat) (fun j => j ≤ M.facts.length ∧ ∀ q, (hq : q < j) → (hl : q < M.facts.length) → ¬(M.facts[q].f.n.who = who ∧ M.facts[q].f.n.deed = d ∧ (ring < 0 ∨ M.facts[q].f.n.ring = ring))) (fun j => M.facts.length - j)
    (fun j => [(0, .c (.v (ptr M.b))), (1, iv who), (2, iv ring), (3, iv d), (9, iv j)]) (fun _ => []) [] (fun _ => [(0, M.sp)]) 0 ⟨Nat.zero_le _, fun i hi => by omega⟩ ?_ ?_ ?_ ?_ ?_
  all_goals repeat (first | exact .nil _ | refine .cons rfl ?_ | refine .cons rfl rfl ?_ | refine .cons rfl rfl rfl ?_ | refine .cons' rfl (fun _ => rfl) ?_)
  intro j ⟨hj, hno⟩ ih
  by_cases hlt : j < M.facts.length
  · by_cases hw : M.facts[j].f.n.who = who ∧ M.facts[j].f.n.deed = d ∧ (ring < 0 ∨ M.facts[j].f.n.ring = ring)
    · have e : didF M.p.facts who ring d = true := by
        unfold didF
        rw [List.any_eq_true]
        exact ⟨(M.facts[j]).f, List.mem_map_of_mem (List.getElem_mem hlt), by simp [hw.1, hw.2.1, hw.2.2]⟩
      rw [e]
      obtain ⟨w1, w2, w3⟩ := hw
      repeat' (first | ((first | refine BrM.yes (by omega) ?_ | refine BrM.not (by omega) ?_ | refine BrM.t rfl ?_ | refine BrM.f rfl ?_ | refine BrM.dec (fun _ => ?_) (fun _ => ?_) | refine BrM.mk (fun _ => ?_) (fun _ => ?_) | refine Ar.i64 (by omega) (by omega) ?_ | refine gO rfl ?_ | refine gP rfl (by repeat constructor) ?_) <;> conv => whnf) | (refine atLoad ?_; refine Nx.load1 0 rfl rfl rfl rfl (b4) rfl ?_) | (refine atIdx ?_; refine Nx.idx 0 (j := j) rfl rfl rfl Try.underlying32 rfl rfl rfl RFaH.enc_len hF rfl (by omega) (by omega) fun b p hq => ?_) | (refine atLoad ?_; refine Nx.load 0 rfl rfl rfl rfl (RFaH.note hq) rfl rfl ?_) | (refine atRet ?_; refine Nx.ret [0] Try.func35 rfl rfl ?_; (exact ⟨rfl, rfl⟩)) | refine Nx.late ?_)
    · repeat' (first | ((first | refine BrM.yes (by omega) ?_ | refine BrM.not (by omega) ?_ | refine BrM.t rfl ?_ | refine BrM.f rfl ?_ | refine BrM.dec (fun _ => ?_) (fun _ => ?_) | refine BrM.mk (fun _ => ?_) (fun _ => ?_) | refine Ar.i64 (by omega) (by omega) ?_ | refine gO rfl ?_ | refine gP rfl (by repeat constructor) ?_) <;> conv => whnf) | (refine atLoad ?_; refine Nx.load1 0 rfl rfl rfl rfl (b4) rfl ?_) | (refine atIdx ?_; refine Nx.idx 0 (j := j) rfl rfl rfl Try.underlying32 rfl rfl rfl RFaH.enc_len hF rfl (by omega) (by omega) fun b p hq => ?_) | (refine atLoad ?_; refine Nx.load 0 rfl rfl rfl rfl (RFaH.note hq) rfl rfl ?_) | refine Nx.late ?_)
      all_goals
        refine (ih (j + 1) ⟨by omega, fun q hq hl => ?_⟩ (by omega)).weak ?_ ?_ ?_ ?_
        · by_cases e : q = j
          · subst e; exact hw
          · exact hno q (by omega) hl
        all_goals repeat (first | exact .nil _ | refine .cons rfl ?_ | refine .cons rfl rfl ?_ | refine .cons rfl rfl rfl ?_ | refine .cons' rfl (fun _ => rfl) ?_)
  · have e : didF M.p.facts who ring d = false := by
      unfold didF
      rw [List.any_eq_false]
      intro f hf
      obtain ⟨x, hx, rfl⟩ := List.mem_map.1 hf
      obtain ⟨q, hq, rfl⟩ := List.getElem_of_mem hx
      have := hno q (by omega) hq
      simpa using this
    rw [e]
    repeat' (first | ((first | refine BrM.not (by omega) ?_ | refine BrM.t rfl ?_ | refine BrM.f rfl ?_ | refine BrM.dec (fun _ => ?_) (fun _ => ?_) | refine BrM.mk (fun _ => ?_) (fun _ => ?_) | refine Ar.i64 (by omega) (by omega) ?_ | refine gO rfl ?_ | refine gP rfl (by repeat constructor) ?_) <;> conv => whnf) | (refine atLoad ?_; refine Nx.load1 0 rfl rfl rfl rfl (b4) rfl ?_) | (refine atRet ?_; refine Nx.ret [0] Try.func35 rfl rfl ?_; (exact ⟨rfl, rfl⟩)) | refine Nx.late ?_)
theorem rGreat_ok (M : RefH) (hm : MdV M.p) (ring : Int) : FnOk Try.prog 68 [ptr M.b, .int .i64 ring] [M.sp] (fun v Q => v = .int .i64 (greatF M.p.facts ring) ∧ Q = [M.sp]) := by
  obtain ⟨hl8, hl5, hl2⟩ := hm.lens
  have b0 := M.seeB.sub 0 rfl
  have b1 := M.seeB.sub 1 rfl
  have b2 := M.seeB.sub 2 rfl
  have b4 := M.seeB.sub 4 rfl
  have hW := M.seeW
  have hR := M.seeR
  have hF := M.seeF
  refine FnOk.start Try.func68 rfl rfl rfl rfl fun F os tape output => ?_
  refine go 200 ?_
  conv => whnf
  repeat' (first | ((first | refine BrM.t rfl ?_ | refine BrM.f rfl ?_ | refine BrM.dec (fun _ => ?_) (fun _ => ?_) | refine BrM.mk (fun _ => ?_) (fun _ => ?_) | refine Ar.i64 (by omega) (by omega) ?_ | refine gO rfl ?_ | refine gP rfl (by repeat constructor) ?_) <;> conv => whnf) | (fail) | refine Nx.late ?_)
  refine Nx.loop (X := Nat) (fun j => j ≤ M.facts.length) (fun j => M.facts.length - j)
    (fun j => [(0, .c (.v (ptr M.b))), (1, iv ring), (5, iv (greatF (M.p.facts.take j) ring)), (6, iv j)]) (fun _ => []) [] (fun _ => [(0, M.sp)]) 0 (Nat.zero_le _) ?_ ?_ ?_ ?_ ?_
  all_goals repeat (first | exact .nil _ | refine .cons rfl ?_ | refine .cons rfl rfl ?_ | refine .cons rfl rfl rfl ?_ | refine .cons' rfl (fun _ => rfl) ?_)
  intro j hj ih
  by_cases hlt : j < M.facts.length
  · have hst : greatF (M.p.facts.take (j + 1)) ring = if M.facts[j].f.n.ring = ring ∧ M.facts[j].f.n.deed = 1 ∧ greatF (M.p.facts.take j) ring < M.facts[j].f.n.seq then M.facts[j].f.n.seq else greatF (M.p.facts.take j) ring := foldl_take_succ (RefH.gf hlt)
    obtain ⟨gj, hgj⟩ : ∃ g, g = greatF (M.p.facts.take j) ring := ⟨_, rfl⟩
    rw [← hgj] at hst ⊢
    by_cases hw : M.facts[j].f.n.ring = ring ∧ M.facts[j].f.n.deed = 1 ∧ gj < M.facts[j].f.n.seq
    · rw [if_pos hw] at hst
      obtain ⟨w1, w2, w3⟩ := hw
      repeat' (first | ((first | refine BrM.yes (by omega) ?_ | refine BrM.not (by omega) ?_ | refine BrM.t rfl ?_ | refine BrM.f rfl ?_ | refine BrM.dec (fun _ => ?_) (fun _ => ?_) | refine BrM.mk (fun _ => ?_) (fun _ => ?_) | refine Ar.i64 (by omega) (by omega) ?_ | refine gO rfl ?_ | refine gP rfl (by repeat constructor) ?_) <;> conv => whnf) | (refine atLoad ?_; refine Nx.load1 0 rfl rfl rfl rfl (b4) rfl ?_) | (refine atIdx ?_; refine Nx.idx 0 (j := j) rfl rfl rfl Try.underlying32 rfl rfl rfl RFaH.enc_len hF rfl (by omega) (by omega) fun b p hq => ?_) | (refine atLoad ?_; refine Nx.load 0 rfl rfl rfl rfl (RFaH.note hq) rfl rfl ?_) | refine Nx.late ?_)
      refine (ih (j + 1) (by omega) (by omega)).weak ?_ ?_ ?_ ?_
      · rw [hst]
        repeat (first | exact subE.nil _ | refine subE.cons rfl rfl ?_ | refine subE.cons' rfl (fun _ => rfl) ?_)
      all_goals repeat (first | exact .nil _ | refine .cons rfl ?_ | refine .cons rfl rfl ?_ | refine .cons rfl rfl rfl ?_ | refine .cons' rfl (fun _ => rfl) ?_)
    · rw [if_neg hw] at hst
      repeat' (first | ((first | refine BrM.yes (by omega) ?_ | refine BrM.not (by omega) ?_ | refine BrM.t rfl ?_ | refine BrM.f rfl ?_ | refine BrM.dec (fun _ => ?_) (fun _ => ?_) | refine BrM.mk (fun _ => ?_) (fun _ => ?_) | refine Ar.i64 (by omega) (by omega) ?_ | refine gO rfl ?_ | refine gP rfl (by repeat constructor) ?_) <;> conv => whnf) | (refine atLoad ?_; refine Nx.load1 0 rfl rfl rfl rfl (b4) rfl ?_) | (refine atIdx ?_; refine Nx.idx 0 (j := j) rfl rfl rfl Try.underlying32 rfl rfl rfl RFaH.enc_len hF rfl (by omega) (by omega) fun b p hq => ?_) | (refine atLoad ?_; refine Nx.load 0 rfl rfl rfl rfl (RFaH.note hq) rfl rfl ?_) | refine Nx.late ?_)
      all_goals
        refine (ih (j + 1) (by omega) (by omega)).weak ?_ ?_ ?_ ?_
        · rw [hst]
          repeat (first | exact subE.nil _ | refine subE.cons rfl rfl ?_ | refine subE.cons' rfl (fun _ => rfl) ?_)
        all_goals repeat (first | exact .nil _ | refine .cons rfl ?_ | refine .cons rfl rfl ?_ | refine .cons rfl rfl rfl ?_ | refine .cons' rfl (fun _ => rfl) ?_)
  · have e : M.p.facts.take j = M.p.facts := List.take_of_length_le (by rw [M.lf]; omega)
    rw [e]
    repeat' (first | ((first | refine BrM.not (by omega) ?_ | refine BrM.t rfl ?_ | refine BrM.f rfl ?_ | refine BrM.dec (fun _ => ?_) (fun _ => ?_) | refine BrM.mk (fun _ => ?_) (fun _ => ?_) | refine Ar.i64 (by omega) (by omega) ?_ | refine gO rfl ?_ | refine gP rfl (by repeat constructor) ?_) <;> conv => whnf) | (refine atLoad ?_; refine Nx.load1 0 rfl rfl rfl rfl (b4) rfl ?_) | (refine atRet ?_; refine Nx.ret [0] Try.func68 rfl rfl ?_; (exact ⟨rfl, rfl⟩)) | refine Nx.late ?_)
end Go.Proofs.Ytngfadijcpnblaa

/- The reference: Cursor, Next, Event. -/
namespace Go.Proofs.Ytngfadijcpnblaa
open Go.RowKit
set_option maxRecDepth 20000
set_option maxHeartbeats 4000000
attribute [local irreducible] Nx Ar BrM headC OneC HoC AftC planHead endF
theorem rCursor_ok (M : RefH) (hm : MdV M.p) {k : Nat} (hk : k < M.readers.length) : FnOk Try.prog 33 [ptr M.b, .int .i64 k] [M.sp] (fun v Q => v = .int .i64 (cursorF M.p.facts M.readers[k].r.who M.readers[k].r.ring M.readers[k].r.start) ∧ Q = [M.sp]) := by
  obtain ⟨hl8, hl5, hl2⟩ := hm.lens
  have b0 := M.seeB.sub 0 rfl
  have b1 := M.seeB.sub 1 rfl
  have b2 := M.seeB.sub 2 rfl
  have b4 := M.seeB.sub 4 rfl
  have hW := M.seeW
  have hR := M.seeR
  have hF := M.seeF
  obtain ⟨x, hx⟩ : ∃ x, x = M.readers[k] := ⟨_, rfl⟩
  have hst := hm.rstart x.r (by rw [hx]; exact List.mem_map_of_mem (List.getElem_mem hk))
  rw [← hx]
  refine FnOk.start Try.func33 rfl rfl rfl rfl fun F os tape output => ?_
  refine go 200 ?_
  conv => whnf
  repeat' (first | ((first | refine BrM.t rfl ?_ | refine BrM.f rfl ?_ | refine BrM.dec (fun _ => ?_) (fun _ => ?_) | refine BrM.mk (fun _ => ?_) (fun _ => ?_) | refine Ar.i64 (by omega) (by omega) ?_ | refine gO rfl ?_ | refine gP rfl (by repeat constructor) ?_) <;> conv => whnf) | (refine atLoad ?_; refine Nx.load1 0 rfl rfl rfl rfl (b2) rfl ?_) | (refine atIdx ?_; refine Nx.idx 0 (j := k) rfl rfl rfl Try.underlying31 rfl rfl rfl RRdH.enc_len hR rfl (by omega) (by omega) fun b p hqr => ?_) | refine Nx.late ?_)
  have hqx : SeesAt M.sp b p x.enc := by rw [hx]; exact hqr
  refine Nx.load 0 rfl rfl rfl rfl hqx rfl rfl ?_
  repeat' (first | ((first | refine BrM.t rfl ?_ | refine BrM.f rfl ?_ | refine BrM.dec (fun _ => ?_) (fun _ => ?_) | refine BrM.mk (fun _ => ?_) (fun _ => ?_) | refine Ar.i64 (by omega) (by omega) ?_ | refine gO rfl ?_ | refine gP rfl (by repeat constructor) ?_) <;> conv => whnf) | (fail) | refine Nx.late ?_)
  refine Nx.loop (X := Nat) (fun j => j ≤ M.facts.length) (fun j => M.facts.length - j)
    (fun j => [(0, .c (.v (ptr M.b))), (5, .c (.loc 5 0)), (6, iv (cursorF (M.p.facts.take j) x.r.who x.r.ring x.r.start)), (7, iv j)]) (fun _ => [(5, 54, [.v (.int .i64 x.r.who), .v (.int .i64 x.r.ring), .v (.int .i64 x.r.start), .v (.int .i64 x.r.pool), .v (.slice x.aA x.r.ahead.length x.ac)])]) [] (fun _ => [(0, M.sp)]) 0 (Nat.zero_le _) ?_ ?_ ?_ ?_ ?_
  all_goals repeat (first | exact .nil _ | refine .cons rfl ?_ | refine .cons rfl rfl ?_ | refine .cons rfl rfl rfl ?_ | refine .cons' rfl (fun _ => rfl) ?_)
  intro j hj ih
  by_cases hlt : j < M.facts.length
  · have hst : cursorF (M.p.facts.take (j + 1)) x.r.who x.r.ring x.r.start = if M.facts[j].f.n.who = x.r.who ∧ M.facts[j].f.n.ring = x.r.ring ∧ M.facts[j].f.n.deed = 3 then M.facts[j].f.n.seq else cursorF (M.p.facts.take j) x.r.who x.r.ring x.r.start := foldl_take_succ (RefH.gf hlt)
    obtain ⟨gj, hgj⟩ : ∃ g, g = cursorF (M.p.facts.take j) x.r.who x.r.ring x.r.start := ⟨_, rfl⟩
    rw [← hgj] at hst ⊢
    by_cases hw : M.facts[j].f.n.who = x.r.who ∧ M.facts[j].f.n.ring = x.r.ring ∧ M.facts[j].f.n.deed = 3
    · rw [if_pos hw] at hst
      obtain ⟨w1, w2, w3⟩ := hw
      repeat' (first | ((first | refine BrM.yes (by omega) ?_ | refine BrM.not (by omega) ?_ | refine BrM.t rfl ?_ | refine BrM.f rfl ?_ | refine BrM.dec (fun _ => ?_) (fun _ => ?_) | refine BrM.mk (fun _ => ?_) (fun _ => ?_) | refine Ar.i64 (by omega) (by omega) ?_ | refine gO rfl ?_ | refine gP rfl (by repeat constructor) ?_) <;> conv => whnf) | (refine atLoad ?_; refine Nx.load1 0 rfl rfl rfl rfl (b4) rfl ?_) | (refine atIdx ?_; refine Nx.idx 0 (j := j) rfl rfl rfl Try.underlying32 rfl rfl rfl RFaH.enc_len hF rfl (by omega) (by omega) fun b p hq => ?_) | (refine atLoad ?_; refine Nx.load 0 rfl rfl rfl rfl (RFaH.note hq) rfl rfl ?_) | refine Nx.late ?_)
      refine (ih (j + 1) (by omega) (by omega)).weak ?_ ?_ ?_ ?_
      · rw [hst]
        repeat (first | exact subE.nil _ | refine subE.cons rfl rfl ?_ | refine subE.cons' rfl (fun _ => rfl) ?_)
      all_goals repeat (first | exact .nil _ | refine .cons rfl ?_ | refine .cons rfl rfl ?_ | refine .cons rfl rfl rfl ?_ | refine .cons' rfl (fun _ => rfl) ?_)
    · rw [if_neg hw] at hst
      repeat' (first | ((first | refine BrM.yes (by omega) ?_ | refine BrM.not (by omega) ?_ | refine BrM.t rfl ?_ | refine BrM.f rfl ?_ | refine BrM.dec (fun _ => ?_) (fun _ => ?_) | refine BrM.mk (fun _ => ?_) (fun _ => ?_) | refine Ar.i64 (by omega) (by omega) ?_ | refine gO rfl ?_ | refine gP rfl (by repeat constructor) ?_) <;> conv => whnf) | (refine atLoad ?_; refine Nx.load1 0 rfl rfl rfl rfl (b4) rfl ?_) | (refine atIdx ?_; refine Nx.idx 0 (j := j) rfl rfl rfl Try.underlying32 rfl rfl rfl RFaH.enc_len hF rfl (by omega) (by omega) fun b p hq => ?_) | (refine atLoad ?_; refine Nx.load 0 rfl rfl rfl rfl (RFaH.note hq) rfl rfl ?_) | refine Nx.late ?_)
      all_goals
        refine (ih (j + 1) (by omega) (by omega)).weak ?_ ?_ ?_ ?_
        · rw [hst]
          repeat (first | exact subE.nil _ | refine subE.cons rfl rfl ?_ | refine subE.cons' rfl (fun _ => rfl) ?_)
        all_goals repeat (first | exact .nil _ | refine .cons rfl ?_ | refine .cons rfl rfl ?_ | refine .cons rfl rfl rfl ?_ | refine .cons' rfl (fun _ => rfl) ?_)
  · have e : M.p.facts.take j = M.p.facts := List.take_of_length_le (by rw [M.lf]; omega)
    rw [e]
    repeat' (first | ((first | refine BrM.not (by omega) ?_ | refine BrM.t rfl ?_ | refine BrM.f rfl ?_ | refine BrM.dec (fun _ => ?_) (fun _ => ?_) | refine BrM.mk (fun _ => ?_) (fun _ => ?_) | refine Ar.i64 (by omega) (by omega) ?_ | refine gO rfl ?_ | refine gP rfl (by repeat constructor) ?_) <;> conv => whnf) | (refine atLoad ?_; refine Nx.load1 0 rfl rfl rfl rfl (b4) rfl ?_) | (refine atRet ?_; refine Nx.ret [0] Try.func33 rfl rfl ?_; (exact ⟨rfl, rfl⟩)) | refine Nx.late ?_)
theorem rNext_ok (M : RefH) (hm : MdV M.p) {k : Nat} (hk : k < M.readers.length) : FnOk Try.prog 64 [ptr M.b, .int .i64 k] [M.sp] (fun v Q => v = .tuple #[.int .i64 (nextF M.p.facts M.readers[k].r.who M.readers[k].r.ring M.readers[k].r.start).1, .int .i64 (nextF M.p.facts M.readers[k].r.who M.readers[k].r.ring M.readers[k].r.start).2] ∧ Q = [M.sp]) := by
  obtain ⟨hl8, hl5, hl2⟩ := hm.lens
  have b0 := M.seeB.sub 0 rfl
  have b1 := M.seeB.sub 1 rfl
  have b2 := M.seeB.sub 2 rfl
  have b4 := M.seeB.sub 4 rfl
  have hW := M.seeW
  have hR := M.seeR
  have hF := M.seeF
  obtain ⟨x, hx⟩ : ∃ x, x = M.readers[k] := ⟨_, rfl⟩
  have hst := hm.rstart x.r (by rw [hx]; exact List.mem_map_of_mem (List.getElem_mem hk))
  rw [← hx]
  refine FnOk.start Try.func64 rfl rfl rfl rfl fun F os tape output => ?_
  refine go 200 ?_
  conv => whnf
  repeat' (first | ((first | refine BrM.t rfl ?_ | refine BrM.f rfl ?_ | refine BrM.dec (fun _ => ?_) (fun _ => ?_) | refine BrM.mk (fun _ => ?_) (fun _ => ?_) | refine Ar.i64 (by omega) (by omega) ?_ | refine gO rfl ?_ | refine gP rfl (by repeat constructor) ?_) <;> conv => whnf) | (refine atLoad ?_; refine Nx.load1 0 rfl rfl rfl rfl (b2) rfl ?_) | (refine atIdx ?_; refine Nx.idx 0 (j := k) rfl rfl rfl Try.underlying31 rfl rfl rfl RRdH.enc_len hR rfl (by omega) (by omega) fun b p hqr => ?_) | refine Nx.late ?_)
  have hqx : SeesAt M.sp b p x.enc := by rw [hx]; exact hqr
  refine Nx.load 0 rfl rfl rfl rfl hqx rfl rfl ?_
  repeat' (first | ((first | refine BrM.t rfl ?_ | refine BrM.f rfl ?_ | refine BrM.dec (fun _ => ?_) (fun _ => ?_) | refine BrM.mk (fun _ => ?_) (fun _ => ?_) | refine Ar.i64 (by omega) (by omega) ?_ | refine gO rfl ?_ | refine gP rfl (by repeat constructor) ?_) <;> conv => whnf) | (refine Nx.bind (l := 6) (fun _ => ?_) rfl; refine dN 2 [0] [0,5,8,13,16,20] rfl (by kernel_rfl) rfl (by kernel_rfl) rfl (by repeat constructor) rfl ?_) | refine Nx.late ?_)
  refine Nx.loop (X := Nat) (fun j => j ≤ M.facts.length ∧ 0 ≤ (nextF (M.p.facts.take j) x.r.who x.r.ring x.r.start).1 ∧ (nextF (M.p.facts.take j) x.r.who x.r.ring x.r.start).1 ≤ x.r.start + j) (fun j => M.facts.length - j)
    (fun j => [(0, .c (.v (ptr M.b))), (6, .c (.loc 6 0)), (7, iv (nextF (M.p.facts.take j) x.r.who x.r.ring x.r.start).1), (8, iv (nextF (M.p.facts.take j) x.r.who x.r.ring x.r.start).2), (9, iv j)]) (fun _ => [(6, 54, [.v (.int .i64 x.r.who), .v (.int .i64 x.r.ring), .v (.int .i64 x.r.start), .v (.int .i64 x.r.pool), .v (.slice x.aA x.r.ahead.length x.ac)])]) [] (fun _ => [(0, M.sp)]) 0 ⟨Nat.zero_le _, by show 0 ≤ x.r.start; omega, by show x.r.start ≤ x.r.start + ((0 : Nat) : Int); omega⟩ ?_ ?_ ?_ ?_ ?_
  all_goals repeat (first | exact .nil _ | refine .cons rfl ?_ | refine .cons rfl rfl ?_ | refine .cons rfl rfl rfl ?_ | refine .cons' rfl (fun _ => rfl) ?_)
  intro j ⟨hj, hn0, hn1⟩ ih
  by_cases hlt : j < M.facts.length
  · have hst : nextF (M.p.facts.take (j + 1)) x.r.who x.r.ring x.r.start = nextStep x.r.who x.r.ring (nextF (M.p.facts.take j) x.r.who x.r.ring x.r.start) (M.facts[j]).f := foldl_take_succ (RefH.gf hlt)
    obtain ⟨⟨a, c⟩, hgj⟩ : ∃ g, g = nextF (M.p.facts.take j) x.r.who x.r.ring x.r.start := ⟨_, rfl⟩
    rw [← hgj] at hst hn0 hn1 ⊢
    dsimp only at hn0 hn1
    unfold nextStep at hst
    by_cases hw : M.facts[j].f.n.who ≠ x.r.who ∨ M.facts[j].f.n.ring ≠ x.r.ring
    · rw [if_pos hw] at hst
      repeat' (first | ((first | refine BrM.yes (by omega) ?_ | refine BrM.not (by omega) ?_ | refine BrM.t rfl ?_ | refine BrM.f rfl ?_ | refine BrM.dec (fun _ => ?_) (fun _ => ?_) | refine BrM.mk (fun _ => ?_) (fun _ => ?_) | refine Ar.i64 (by omega) (by omega) ?_ | refine gO rfl ?_ | refine gP rfl (by repeat constructor) ?_) <;> conv => whnf) | (refine atLoad ?_; refine Nx.load1 0 rfl rfl rfl rfl (b4) rfl ?_) | (refine atIdx ?_; refine Nx.idx 0 (j := j) rfl rfl rfl Try.underlying32 rfl rfl rfl RFaH.enc_len hF rfl (by omega) (by omega) fun b p hq => ?_) | (refine atLoad ?_; refine Nx.load 0 rfl rfl rfl rfl (RFaH.note hq) rfl rfl ?_) | refine Nx.late ?_)
      all_goals
        refine (ih (j + 1) ⟨by omega, by rw [hst]; exact hn0, by rw [hst]; dsimp only; omega⟩ (by omega)).weak ?_ ?_ ?_ ?_
        · rw [hst]
          repeat (first | exact subE.nil _ | refine subE.cons rfl rfl ?_ | refine subE.cons' rfl (fun _ => rfl) ?_)
        all_goals repeat (first | exact .nil _ | refine .cons rfl ?_ | refine .cons rfl rfl ?_ | refine .cons rfl rfl rfl ?_ | refine .cons' rfl (fun _ => rfl) ?_)
    rw [if_neg hw] at hst
    by_cases h2 : M.facts[j].f.n.deed = 2
    · rw [if_pos h2] at hst
      repeat' (first | ((first | refine BrM.yes (by omega) ?_ | refine BrM.not (by omega) ?_ | refine BrM.t rfl ?_ | refine BrM.f rfl ?_ | refine BrM.dec (fun _ => ?_) (fun _ => ?_) | refine BrM.mk (fun _ => ?_) (fun _ => ?_) | refine Ar.i64 (by omega) (by omega) ?_ | refine gO rfl ?_ | refine gP rfl (by repeat constructor) ?_) <;> conv => whnf) | (refine atLoad ?_; refine Nx.load1 0 rfl rfl rfl rfl (b4) rfl ?_) | (refine atIdx ?_; refine Nx.idx 0 (j := j) rfl rfl rfl Try.underlying32 rfl rfl rfl RFaH.enc_len hF rfl (by omega) (by omega) fun b p hq => ?_) | (refine atLoad ?_; refine Nx.load 0 rfl rfl rfl rfl (RFaH.note hq) rfl rfl ?_) | refine Nx.late ?_)
      refine (ih (j + 1) ⟨by omega, by rw [hst]; dsimp only; omega, by rw [hst]; dsimp only; omega⟩ (by omega)).weak ?_ ?_ ?_ ?_
      · rw [hst]
        repeat (first | exact subE.nil _ | refine subE.cons rfl rfl ?_ | refine subE.cons' rfl (fun _ => rfl) ?_)
      all_goals repeat (first | exact .nil _ | refine .cons rfl ?_ | refine .cons rfl rfl ?_ | refine .cons rfl rfl rfl ?_ | refine .cons' rfl (fun _ => rfl) ?_)
    rw [if_neg h2] at hst
    by_cases h4 : M.facts[j].f.n.deed = 4
    · rw [if_pos h4] at hst
      repeat' (first | ((first | refine BrM.yes (by omega) ?_ | refine BrM.not (by omega) ?_ | refine BrM.t rfl ?_ | refine BrM.f rfl ?_ | refine BrM.dec (fun _ => ?_) (fun _ => ?_) | refine BrM.mk (fun _ => ?_) (fun _ => ?_) | refine Ar.i64 (by omega) (by omega) ?_ | refine gO rfl ?_ | refine gP rfl (by repeat constructor) ?_) <;> conv => whnf) | (refine atLoad ?_; refine Nx.load1 0 rfl rfl rfl rfl (b4) rfl ?_) | (refine atIdx ?_; refine Nx.idx 0 (j := j) rfl rfl rfl Try.underlying32 rfl rfl rfl RFaH.enc_len hF rfl (by omega) (by omega) fun b p hq => ?_) | (refine atLoad ?_; refine Nx.load 0 rfl rfl rfl rfl (RFaH.note hq) rfl rfl ?_) | refine Nx.late ?_)
      refine (ih (j + 1) ⟨by omega, by rw [hst]; exact hn0, by rw [hst]; dsimp only; omega⟩ (by omega)).weak ?_ ?_ ?_ ?_
      · rw [hst]
        repeat (first | exact subE.nil _ | refine subE.cons rfl rfl ?_ | refine subE.cons' rfl (fun _ => rfl) ?_)
      all_goals repeat (first | exact .nil _ | refine .cons rfl ?_ | refine .cons rfl rfl ?_ | refine .cons rfl rfl rfl ?_ | refine .cons' rfl (fun _ => rfl) ?_)
    · rw [if_neg h4] at hst
      repeat' (first | ((first | refine BrM.yes (by omega) ?_ | refine BrM.not (by omega) ?_ | refine BrM.t rfl ?_ | refine BrM.f rfl ?_ | refine BrM.dec (fun _ => ?_) (fun _ => ?_) | refine BrM.mk (fun _ => ?_) (fun _ => ?_) | refine Ar.i64 (by omega) (by omega) ?_ | refine gO rfl ?_ | refine gP rfl (by repeat constructor) ?_) <;> conv => whnf) | (refine atLoad ?_; refine Nx.load1 0 rfl rfl rfl rfl (b4) rfl ?_) | (refine atIdx ?_; refine Nx.idx 0 (j := j) rfl rfl rfl Try.underlying32 rfl rfl rfl RFaH.enc_len hF rfl (by omega) (by omega) fun b p hq => ?_) | (refine atLoad ?_; refine Nx.load 0 rfl rfl rfl rfl (RFaH.note hq) rfl rfl ?_) | refine Nx.late ?_)
      refine (ih (j + 1) ⟨by omega, by rw [hst]; exact hn0, by rw [hst]; dsimp only; omega⟩ (by omega)).weak ?_ ?_ ?_ ?_
      · rw [hst]
        repeat (first | exact subE.nil _ | refine subE.cons rfl rfl ?_ | refine subE.cons' rfl (fun _ => rfl) ?_)
      all_goals repeat (first | exact .nil _ | refine .cons rfl ?_ | refine .cons rfl rfl ?_ | refine .cons rfl rfl rfl ?_ | refine .cons' rfl (fun _ => rfl) ?_)
  · have e : M.p.facts.take j = M.p.facts := List.take_of_length_le (by rw [M.lf]; omega)
    rw [e]
    repeat' (first | ((first | refine BrM.not (by omega) ?_ | refine BrM.t rfl ?_ | refine BrM.f rfl ?_ | refine BrM.dec (fun _ => ?_) (fun _ => ?_) | refine BrM.mk (fun _ => ?_) (fun _ => ?_) | refine Ar.i64 (by omega) (by omega) ?_ | refine gO rfl ?_ | refine gP rfl (by repeat constructor) ?_) <;> conv => whnf) | (refine atLoad ?_; refine Nx.load1 0 rfl rfl rfl rfl (b4) rfl ?_) | (refine atRet ?_; refine Nx.ret [0] Try.func64 rfl rfl ?_; (exact ⟨rfl, rfl⟩)) | refine Nx.late ?_)
theorem rEvent_ok (M : RefH) (hm : MdV M.p) (ring i : Int) : FnOk Try.prog 13 [ptr M.b, .int .i64 ring, .int .i64 i] [M.sp] (fun v Q => v = evT (eventF M.p.facts ring i) ∧ Q = [M.sp]) := by
  obtain ⟨hl8, hl5, hl2⟩ := hm.lens
  have b0 := M.seeB.sub 0 rfl
  have b1 := M.seeB.sub 1 rfl
  have b2 := M.seeB.sub 2 rfl
  have b4 := M.seeB.sub 4 rfl
  have hW := M.seeW
  have hR := M.seeR
  have hF := M.seeF
  refine FnOk.start Try.func13 rfl rfl rfl rfl fun F os tape output => ?_
  refine go 200 ?_
  conv => whnf
  repeat' (first | ((first | refine BrM.t rfl ?_ | refine BrM.f rfl ?_ | refine BrM.dec (fun _ => ?_) (fun _ => ?_) | refine BrM.mk (fun _ => ?_) (fun _ => ?_) | refine Ar.i64 (by omega) (by omega) ?_ | refine gO rfl ?_ | refine gP rfl (by repeat constructor) ?_) <;> conv => whnf) | (fail) | refine Nx.late ?_)
  refine Nx.loop (X := Nat) (fun j => j ≤ M.facts.length ∧ ∀ q, (hq : q < j) → (hl : q < M.facts.length) → (M.facts[q]).f.pubs ring i = false) (fun j => M.facts.length - j)
    (fun j => [(0, .c (.v (ptr M.b))), (1, iv ring), (2, iv i), (6, .c (.loc 6 0)), (8, iv j)]) (fun _ => [(6, 39, [.v (.int .i64 0), .v (.int .i64 0)])]) [] (fun _ => [(0, M.sp)]) 0 ⟨Nat.zero_le _, fun i hi => by omega⟩ ?_ ?_ ?_ ?_ ?_
  all_goals repeat (first | exact .nil _ | refine .cons rfl ?_ | refine .cons rfl rfl ?_ | refine .cons rfl rfl rfl ?_ | refine .cons' rfl (fun _ => rfl) ?_)
  intro j ⟨hj, hno⟩ ih
  by_cases hlt : j < M.facts.length
  · by_cases hw : M.facts[j].f.n.ring = ring ∧ M.facts[j].f.n.deed = 1 ∧ M.facts[j].f.n.lo ≤ i ∧ i ≤ M.facts[j].f.n.seq
    · have hpb : (M.facts[j]).f.pubs ring i = true := by unfold Fact.pubs; simp [hw.1, hw.2.1, hw.2.2.1, hw.2.2.2]
      have hf : findI (·.pubs ring i) M.p.facts = some j := findI_some (by rw [M.lf]; exact hlt) (by simpa [RefH.p] using hpb) fun q hq => by simpa [RefH.p] using hno q hq (by omega)
      obtain ⟨w1, w2, w3, w4⟩ := hw
      have hp := hm.pub (M.facts[j]).f (List.mem_map_of_mem (List.getElem_mem hlt)) w2
      obtain ⟨d, hd⟩ : ∃ d : Nat, i - M.facts[j].f.n.lo = d := ⟨(i - M.facts[j].f.n.lo).toNat, by omega⟩
      have hdl : d < (M.facts[j]).f.x.length := by omega
      have e : eventF M.p.facts ring i = some (M.facts[j]).f.x[d] := by
        unfold eventF
        rw [hf]
        dsimp only
        rw [RefH.gf hlt, Option.map_some]
        have : (i - (M.facts[j]).f.n.lo).toNat = d := by omega
        rw [this, List.getD_eq_getElem?_getD, List.getElem?_eq_getElem hdl]; rfl
      rw [e]
      have hE := RefH.fev (M := M) (List.getElem_mem hlt)
      repeat' (first | ((first | refine BrM.yes (by omega) ?_ | refine BrM.not (by omega) ?_ | refine BrM.t rfl ?_ | refine BrM.f rfl ?_ | refine BrM.dec (fun _ => ?_) (fun _ => ?_) | refine BrM.mk (fun _ => ?_) (fun _ => ?_) | refine Ar.i64 (by omega) (by omega) ?_ | refine gO rfl ?_ | refine gP rfl (by repeat constructor) ?_) <;> conv => whnf) | (refine atLoad ?_; refine Nx.load1 0 rfl rfl rfl rfl (b4) rfl ?_) | (refine atIdx ?_; refine Nx.idx 0 (j := j) rfl rfl rfl Try.underlying32 rfl rfl rfl RFaH.enc_len hF rfl (by omega) (by omega) fun b p hq => ?_) | (refine atLoad ?_; refine Nx.load 0 rfl rfl rfl rfl (RFaH.note hq) rfl rfl ?_) | (refine Nx.bind (l := 9) (fun _ => ?_) rfl; refine Nx.bind (l := 6) (fun _ => ?_) rfl; refine dN 6 [0] [0,4,8,13,16,20,24,29,32,36,41,44,48,53,59,60] rfl (by kernel_rfl) rfl (by kernel_rfl) rfl (by repeat constructor) rfl ?_) | (refine atHoIdx ?_; refine Nx.hoIdx 0 (j := j) rfl rfl rfl Try.underlying32 rfl rfl rfl RFaH.enc_len hF rfl (by omega) (by omega) fun b p hqf => ?_) | (refine atHoLoad ?_; refine Nx.hoLoad1 rfl rfl rfl rfl List.mem_cons_self (hqf.sub 8 rfl) rfl ?_) | (refine atHoIdx ?_; refine Nx.hoIdx 0 (j := d) rfl rfl rfl Try.underlying36 rfl rfl rfl evC_len hE rfl hd hdl fun b p hqe => ?_) | (refine atHoLoad ?_; first | refine hL1 rfl rfl rfl rfl (SeesAt.sub (by assumption) _ rfl) (by repeat constructor) rfl ?_ | refine hL1 rfl rfl rfl rfl (by assumption) (by repeat constructor) rfl ?_ | refine hLm rfl rfl rfl rfl (by assumption) (by repeat constructor) rfl rfl ?_) | (refine atRet ?_; refine Nx.ret [0] Try.func13 rfl rfl ?_; (exact ⟨rfl, rfl⟩)) | refine Nx.late ?_)
    · have hpb : (M.facts[j]).f.pubs ring i = false := by
        cases h : (M.facts[j]).f.pubs ring i with
        | false => rfl
        | true =>
          unfold Fact.pubs at h
          simp only [Bool.and_eq_true, decide_eq_true_eq] at h
          exact absurd ⟨h.1.1.1, h.1.1.2, h.1.2, h.2⟩ hw
      repeat' (first | ((first | refine BrM.yes (by omega) ?_ | refine BrM.not (by omega) ?_ | refine BrM.t rfl ?_ | refine BrM.f rfl ?_ | refine BrM.dec (fun _ => ?_) (fun _ => ?_) | refine BrM.mk (fun _ => ?_) (fun _ => ?_) | refine Ar.i64 (by omega) (by omega) ?_ | refine gO rfl ?_ | refine gP rfl (by repeat constructor) ?_) <;> conv => whnf) | (refine atLoad ?_; refine Nx.load1 0 rfl rfl rfl rfl (b4) rfl ?_) | (refine atIdx ?_; refine Nx.idx 0 (j := j) rfl rfl rfl Try.underlying32 rfl rfl rfl RFaH.enc_len hF rfl (by omega) (by omega) fun b p hq => ?_) | (refine atLoad ?_; refine Nx.load 0 rfl rfl rfl rfl (RFaH.note hq) rfl rfl ?_) | refine Nx.late ?_)
      all_goals
        refine (ih (j + 1) ⟨by omega, fun q hq hl => ?_⟩ (by omega)).weak ?_ ?_ ?_ ?_
        · by_cases e : q = j
          · subst e; exact hpb
          · exact hno q (by omega) hl
        all_goals repeat (first | exact .nil _ | refine .cons rfl ?_ | refine .cons rfl rfl ?_ | refine .cons rfl rfl rfl ?_ | refine .cons' rfl (fun _ => rfl) ?_)
  · have e : eventF M.p.facts ring i = none := by
      unfold eventF
      have : findI (·.pubs ring i) M.p.facts = none := findI_none fun q hq => by
        have hl : q < M.facts.length := by rw [M.lf] at hq; exact hq
        simpa [RefH.p] using hno q (by omega) hl
      rw [this]
    rw [e]
    repeat' (first | ((first | refine BrM.not (by omega) ?_ | refine BrM.t rfl ?_ | refine BrM.f rfl ?_ | refine BrM.dec (fun _ => ?_) (fun _ => ?_) | refine BrM.mk (fun _ => ?_) (fun _ => ?_) | refine Ar.i64 (by omega) (by omega) ?_ | refine gO rfl ?_ | refine gP rfl (by repeat constructor) ?_) <;> conv => whnf) | (refine atLoad ?_; refine Nx.load1 0 rfl rfl rfl rfl (b4) rfl ?_) | (refine atRet ?_; refine Nx.ret [0] Try.func13 rfl rfl ?_; (exact ⟨rfl, rfl⟩)) | refine Nx.late ?_)
end Go.Proofs.Ytngfadijcpnblaa

/- The reference: has, Held, call. -/
namespace Go.Proofs.Ytngfadijcpnblaa
open Go.RowKit
set_option maxRecDepth 20000
set_option maxHeartbeats 4000000
attribute [local irreducible] Nx Ar BrM headC OneC HoC AftC planHead endF
theorem rHas_ok (M : RefH) (hm : MdV M.p) (pool i : Int) : FnOk Try.prog 69 [ptr M.b, .int .i64 pool, .int .i64 i] [M.sp] (fun v Q => v = .bool (M.p.has pool i) ∧ Q = [M.sp]) := by
  obtain ⟨hl8, hl5, hl2⟩ := hm.lens
  have b0 := M.seeB.sub 0 rfl
  have b1 := M.seeB.sub 1 rfl
  have b2 := M.seeB.sub 2 rfl
  have b4 := M.seeB.sub 4 rfl
  have hW := M.seeW
  have hR := M.seeR
  have hF := M.seeF
  have hH : ∀ k (h : k < M.readers.length), hasBy M.p.facts pool i (M.readers[k]).r = true → M.p.has pool i = true := fun k h e => List.any_eq_true.2 ⟨_, List.mem_map_of_mem (List.getElem_mem h), e⟩
  refine FnOk.start Try.func69 rfl rfl rfl rfl fun F os tape output => ?_
  refine go 200 ?_
  conv => whnf
  repeat' (first | ((first | refine BrM.t rfl ?_ | refine BrM.f rfl ?_ | refine BrM.dec (fun _ => ?_) (fun _ => ?_) | refine BrM.mk (fun _ => ?_) (fun _ => ?_) | refine Ar.i64 (by omega) (by omega) ?_ | refine gO rfl ?_ | refine gP rfl (by repeat constructor) ?_) <;> conv => whnf) | (fail) | refine Nx.late ?_)
  refine Nx.loop (X := Nat) (fun k => k ≤ M.readers.length ∧ ∀ q, (hq : q < k) → (hl : q < M.readers.length) → hasBy M.p.facts pool i (M.readers[q]).r = false) (fun k => M.readers.length - k)
    (fun k => [(0, .c (.v (ptr M.b))), (1, iv pool), (2, iv i), (7, iv k)]) (fun _ => []) [] (fun _ => [(0, M.sp)]) 0 ⟨Nat.zero_le _, fun i hi => by omega⟩ ?_ ?_ ?_ ?_ ?_
  all_goals repeat (first | exact .nil _ | refine .cons rfl ?_ | refine .cons rfl rfl ?_ | refine .cons rfl rfl rfl ?_ | refine .cons' rfl (fun _ => rfl) ?_)
  intro k ⟨hk, hno⟩ ih
  by_cases hlt : k < M.readers.length
  · obtain ⟨x, hx⟩ : ∃ x, x = M.readers[k] := ⟨_, rfl⟩
    have next : hasBy M.p.facts pool i (M.readers[k]).r = false → ∀ q, (hq : q < k + 1) → (hl : q < M.readers.length) → hasBy M.p.facts pool i (M.readers[q]).r = false := fun h q hq hl => by
      by_cases e : q = k
      · subst e; exact h
      · exact hno q (by omega) hl
    have hHx := hH k hlt
    rw [← hx] at next hHx
    by_cases hp : x.r.pool ≠ pool
    · have e1 : hasBy M.p.facts pool i x.r = false := by unfold hasBy; simp [hp]
      repeat' (first | ((first | refine BrM.yes (by omega) ?_ | refine BrM.t rfl ?_ | refine BrM.f rfl ?_ | refine BrM.dec (fun _ => ?_) (fun _ => ?_) | refine BrM.mk (fun _ => ?_) (fun _ => ?_) | refine Ar.i64 (by omega) (by omega) ?_ | refine gO rfl ?_ | refine gP rfl (by repeat constructor) ?_) <;> conv => whnf) | (refine atLoad ?_; refine Nx.load1 0 rfl rfl rfl rfl (b2) rfl ?_) | (refine atIdx ?_; refine Nx.idx 0 (j := k) rfl rfl rfl Try.underlying31 rfl rfl rfl RRdH.enc_len hR rfl (by omega) (by omega) fun b p hqr => ?_) | refine Nx.late ?_)
      have hqx : SeesAt M.sp b p x.enc := by rw [hx]; exact hqr
      refine Nx.load 0 rfl rfl rfl rfl hqx rfl rfl ?_
      repeat' (first | ((first | refine BrM.yes (by omega) ?_ | refine BrM.t rfl ?_ | refine BrM.f rfl ?_ | refine BrM.dec (fun _ => ?_) (fun _ => ?_) | refine BrM.mk (fun _ => ?_) (fun _ => ?_) | refine Ar.i64 (by omega) (by omega) ?_ | refine gO rfl ?_ | refine gP rfl (by repeat constructor) ?_) <;> conv => whnf) | refine Nx.late ?_)
      refine (ih (k + 1) ⟨by omega, next e1⟩ (by omega)).weak ?_ ?_ ?_ ?_
      all_goals repeat (first | exact .nil _ | refine .cons rfl ?_ | refine .cons rfl rfl ?_ | refine .cons rfl rfl rfl ?_ | refine .cons' rfl (fun _ => rfl) ?_)
    have hp : x.r.pool = pool := Decidable.not_not.1 hp
    by_cases hs : i < x.r.start
    · have e1 : hasBy M.p.facts pool i x.r = true := by unfold hasBy; simp [hp, hs]
      rw [hHx e1]
      repeat' (first | ((first | refine BrM.yes (by omega) ?_ | refine BrM.t rfl ?_ | refine BrM.f rfl ?_ | refine BrM.dec (fun _ => ?_) (fun _ => ?_) | refine BrM.mk (fun _ => ?_) (fun _ => ?_) | refine Ar.i64 (by omega) (by omega) ?_ | refine gO rfl ?_ | refine gP rfl (by repeat constructor) ?_) <;> conv => whnf) | (refine atLoad ?_; refine Nx.load1 0 rfl rfl rfl rfl (b2) rfl ?_) | (refine atIdx ?_; refine Nx.idx 0 (j := k) rfl rfl rfl Try.underlying31 rfl rfl rfl RRdH.enc_len hR rfl (by omega) (by omega) fun b p hqr => ?_) | refine Nx.late ?_)
      have hqx : SeesAt M.sp b p x.enc := by rw [hx]; exact hqr
      refine Nx.load 0 rfl rfl rfl rfl hqx rfl rfl ?_
      repeat' (first | ((first | refine BrM.yes (by omega) ?_ | refine BrM.not (by omega) ?_ | refine BrM.t rfl ?_ | refine BrM.f rfl ?_ | refine BrM.dec (fun _ => ?_) (fun _ => ?_) | refine BrM.mk (fun _ => ?_) (fun _ => ?_) | refine Ar.i64 (by omega) (by omega) ?_ | refine gO rfl ?_ | refine gP rfl (by repeat constructor) ?_) <;> conv => whnf) | (refine atRet ?_; refine Nx.ret [0] Try.func69 rfl rfl ?_; (exact ⟨rfl, rfl⟩)) | refine Nx.late ?_)
    repeat' (first | ((first | refine BrM.yes (by omega) ?_ | refine BrM.t rfl ?_ | refine BrM.f rfl ?_ | refine BrM.dec (fun _ => ?_) (fun _ => ?_) | refine BrM.mk (fun _ => ?_) (fun _ => ?_) | refine Ar.i64 (by omega) (by omega) ?_ | refine gO rfl ?_ | refine gP rfl (by repeat constructor) ?_) <;> conv => whnf) | (refine atLoad ?_; refine Nx.load1 0 rfl rfl rfl rfl (b2) rfl ?_) | (refine atIdx ?_; refine Nx.idx 0 (j := k) rfl rfl rfl Try.underlying31 rfl rfl rfl RRdH.enc_len hR rfl (by omega) (by omega) fun b p hqr => ?_) | refine Nx.late ?_)
    have hqx : SeesAt M.sp b p x.enc := by rw [hx]; exact hqr
    refine Nx.load 0 rfl rfl rfl rfl hqx rfl rfl ?_
    repeat' (first | ((first | refine BrM.not (by omega) ?_ | refine BrM.t rfl ?_ | refine BrM.f rfl ?_ | refine BrM.dec (fun _ => ?_) (fun _ => ?_) | refine BrM.mk (fun _ => ?_) (fun _ => ?_) | refine Ar.i64 (by omega) (by omega) ?_ | refine gO rfl ?_ | refine gP rfl (by repeat constructor) ?_) <;> conv => whnf) | refine Nx.late ?_)
    refine Nx.loop (X := Nat) (fun j => j ≤ M.facts.length ∧ ∀ q, (hq : q < j) → (hl : q < M.facts.length) → ¬(M.facts[q].f.n.who = x.r.who ∧ M.facts[q].f.n.ring = x.r.ring ∧ M.facts[q].f.n.deed = 2 ∧ M.facts[q].f.n.seq = i)) (fun j => M.facts.length - j)
      (fun j => [(0, .c (.v (ptr M.b))), (1, iv pool), (2, iv i), (7, iv k), (8, .c (.loc 8 0)), (9, iv j)]) (fun _ => [(8, 54, [.v (.int .i64 x.r.who), .v (.int .i64 x.r.ring), .v (.int .i64 x.r.start), .v (.int .i64 x.r.pool), .v (.slice x.aA x.r.ahead.length x.ac)])]) [] (fun _ => [(0, M.sp)]) 0 ⟨Nat.zero_le _, fun i hi => by omega⟩ ?_ ?_ ?_ ?_ ?_
    all_goals repeat (first | exact .nil _ | refine .cons rfl ?_ | refine .cons rfl rfl ?_ | refine .cons rfl rfl rfl ?_ | refine .cons' rfl (fun _ => rfl) ?_)
    intro j ⟨hj, hno2⟩ ih2
    by_cases hlt2 : j < M.facts.length
    · by_cases hw : M.facts[j].f.n.who = x.r.who ∧ M.facts[j].f.n.ring = x.r.ring ∧ M.facts[j].f.n.deed = 2 ∧ M.facts[j].f.n.seq = i
      · have e1 : hasBy M.p.facts pool i x.r = true := by
          unfold hasBy
          have : (M.p.facts.any fun f => decide (f.n.who = x.r.who) && decide (f.n.ring = x.r.ring) && decide (f.n.deed = 2) && decide (f.n.seq = i)) = true :=
            List.any_eq_true.2 ⟨(M.facts[j]).f, List.mem_map_of_mem (List.getElem_mem hlt2), by simp [hw.1, hw.2.1, hw.2.2.1, hw.2.2.2]⟩
          rw [this]
          simp [hp]
        rw [hHx e1]
        obtain ⟨w1, w2, w3, w4⟩ := hw
        repeat' (first | ((first | refine BrM.yes (by omega) ?_ | refine BrM.not (by omega) ?_ | refine BrM.t rfl ?_ | refine BrM.f rfl ?_ | refine BrM.dec (fun _ => ?_) (fun _ => ?_) | refine BrM.mk (fun _ => ?_) (fun _ => ?_) | refine Ar.i64 (by omega) (by omega) ?_ | refine gO rfl ?_ | refine gP rfl (by repeat constructor) ?_) <;> conv => whnf) | (refine atLoad ?_; refine Nx.load1 0 rfl rfl rfl rfl (b4) rfl ?_) | (refine atIdx ?_; refine Nx.idx 0 (j := j) rfl rfl rfl Try.underlying32 rfl rfl rfl RFaH.enc_len hF rfl (by omega) (by omega) fun b p hq => ?_) | (refine atLoad ?_; refine Nx.load 0 rfl rfl rfl rfl (RFaH.note hq) rfl rfl ?_) | (refine atRet ?_; refine Nx.ret [0] Try.func69 rfl rfl ?_; (exact ⟨rfl, rfl⟩)) | refine Nx.late ?_)
      · repeat' (first | ((first | refine BrM.yes (by omega) ?_ | refine BrM.not (by omega) ?_ | refine BrM.t rfl ?_ | refine BrM.f rfl ?_ | refine BrM.dec (fun _ => ?_) (fun _ => ?_) | refine BrM.mk (fun _ => ?_) (fun _ => ?_) | refine Ar.i64 (by omega) (by omega) ?_ | refine gO rfl ?_ | refine gP rfl (by repeat constructor) ?_) <;> conv => whnf) | (refine atLoad ?_; refine Nx.load1 0 rfl rfl rfl rfl (b4) rfl ?_) | (refine atIdx ?_; refine Nx.idx 0 (j := j) rfl rfl rfl Try.underlying32 rfl rfl rfl RFaH.enc_len hF rfl (by omega) (by omega) fun b p hq => ?_) | (refine atLoad ?_; refine Nx.load 0 rfl rfl rfl rfl (RFaH.note hq) rfl rfl ?_) | refine Nx.late ?_)
        all_goals
          refine (ih2 (j + 1) ⟨by omega, fun q hq hl => ?_⟩ (by omega)).weak ?_ ?_ ?_ ?_
          · by_cases e : q = j
            · subst e; exact hw
            · exact hno2 q (by omega) hl
          all_goals repeat (first | exact .nil _ | refine .cons rfl ?_ | refine .cons rfl rfl ?_ | refine .cons rfl rfl rfl ?_ | refine .cons' rfl (fun _ => rfl) ?_)
    · have e1 : hasBy M.p.facts pool i x.r = false := by
        unfold hasBy
        have : (M.p.facts.any fun f => decide (f.n.who = x.r.who) && decide (f.n.ring = x.r.ring) && decide (f.n.deed = 2) && decide (f.n.seq = i)) = false := by
          rw [List.any_eq_false]
          intro f hf
          obtain ⟨y, hy, rfl⟩ := List.mem_map.1 hf
          obtain ⟨q, hq, rfl⟩ := List.getElem_of_mem hy
          have := hno2 q (by omega) hq
          simp only [Bool.and_eq_true, decide_eq_true_eq]
          exact fun h => this ⟨h.1.1.1, h.1.1.2, h.1.2, h.2⟩
        rw [this]
        simp [hs]
      repeat' (first | ((first | refine BrM.not (by omega) ?_ | refine BrM.t rfl ?_ | refine BrM.f rfl ?_ | refine BrM.dec (fun _ => ?_) (fun _ => ?_) | refine BrM.mk (fun _ => ?_) (fun _ => ?_) | refine Ar.i64 (by omega) (by omega) ?_ | refine gO rfl ?_ | refine gP rfl (by repeat constructor) ?_) <;> conv => whnf) | (refine atLoad ?_; refine Nx.load1 0 rfl rfl rfl rfl (b4) rfl ?_) | refine Nx.late ?_)
      refine (ih (k + 1) ⟨by omega, next e1⟩ (by omega)).weak ?_ ?_ ?_ ?_
      all_goals repeat (first | exact .nil _ | refine .cons rfl ?_ | refine .cons rfl rfl ?_ | refine .cons rfl rfl rfl ?_ | refine .cons' rfl (fun _ => rfl) ?_)
  · have e : M.p.has pool i = false := by
      unfold MdR.has
      rw [List.any_eq_false]
      intro r hr
      obtain ⟨y, hy, rfl⟩ := List.mem_map.1 hr
      obtain ⟨q, hq, rfl⟩ := List.getElem_of_mem hy
      rw [hno q (by omega) hq]; decide
    rw [e]
    repeat' (first | ((first | refine BrM.not (by omega) ?_ | refine BrM.t rfl ?_ | refine BrM.f rfl ?_ | refine BrM.dec (fun _ => ?_) (fun _ => ?_) | refine BrM.mk (fun _ => ?_) (fun _ => ?_) | refine Ar.i64 (by omega) (by omega) ?_ | refine gO rfl ?_ | refine gP rfl (by repeat constructor) ?_) <;> conv => whnf) | (refine atLoad ?_; refine Nx.load1 0 rfl rfl rfl rfl (b2) rfl ?_) | (refine atRet ?_; refine Nx.ret [0] Try.func69 rfl rfl ?_; (exact ⟨rfl, rfl⟩)) | refine Nx.late ?_)
theorem rHeld_ok (M : RefH) (hm : MdV M.p) {ring : Nat} (hring : ring < M.logs.length) (i : Int) (hi63 : i ≤ 9223372036854775807) : FnOk Try.prog 15 [ptr M.b, .int .i64 ring, .int .i64 i] [M.sp] (fun v Q => v = .bool (M.p.held ring i) ∧ Q = [M.sp]) := by
  obtain ⟨hl8, hl5, hl2⟩ := hm.lens
  have b0 := M.seeB.sub 0 rfl
  have b1 := M.seeB.sub 1 rfl
  have b2 := M.seeB.sub 2 rfl
  have b4 := M.seeB.sub 4 rfl
  have hW := M.seeW
  have hR := M.seeR
  have hF := M.seeF
  have hL := M.seeL
  have hsz := hm.size (M.logs[ring]) (List.getElem_mem hring)
  have eH : M.p.held ring i = if i < 0 then false else M.p.readers.any fun r => heldByR M.p.facts (M.logs[ring]).1 ring i r := by
    unfold MdR.held
    have : M.p.logs[((ring : Nat) : Int).toNat]? = some (M.logs[ring]) := by rw [Int.toNat_natCast]; exact List.getElem?_eq_getElem hring
    rw [this]; rfl
  rw [eH]
  by_cases h0 : i < 0
  · rw [if_pos h0]
    refine FnOk.start Try.func15 rfl rfl rfl rfl fun F os tape output => ?_
    refine go 200 ?_
    conv => whnf
    repeat' (first | ((first | refine BrM.yes (by omega) ?_ | refine BrM.t rfl ?_ | refine BrM.f rfl ?_ | refine BrM.dec (fun _ => ?_) (fun _ => ?_) | refine BrM.mk (fun _ => ?_) (fun _ => ?_) | refine Ar.i64 (by omega) (by omega) ?_ | refine gO rfl ?_ | refine gP rfl (by repeat constructor) ?_) <;> conv => whnf) | (refine atRet ?_; refine Nx.ret [0] Try.func15 rfl rfl ?_; (exact ⟨rfl, rfl⟩)) | refine Nx.late ?_)
  rw [if_neg h0]
  have hH : ∀ k (h : k < M.readers.length), heldByR M.p.facts (M.logs[ring]).1 ring i (M.readers[k]).r = true → (M.p.readers.any fun r => heldByR M.p.facts (M.logs[ring]).1 ring i r) = true := fun k h e => List.any_eq_true.2 ⟨_, List.mem_map_of_mem (List.getElem_mem h), e⟩
  refine FnOk.start Try.func15 rfl rfl rfl rfl fun F os tape output => ?_
  refine go 200 ?_
  conv => whnf
  repeat' (first | ((first | refine BrM.not (by omega) ?_ | refine BrM.t rfl ?_ | refine BrM.f rfl ?_ | refine BrM.dec (fun _ => ?_) (fun _ => ?_) | refine BrM.mk (fun _ => ?_) (fun _ => ?_) | refine Ar.i64 (by omega) (by omega) ?_ | refine gO rfl ?_ | refine gP rfl (by repeat constructor) ?_) <;> conv => whnf) | refine Nx.late ?_)
  refine Nx.loop (X := Nat) (fun k => k ≤ M.readers.length ∧ ∀ q, (hq : q < k) → (hl : q < M.readers.length) → heldByR M.p.facts (M.logs[ring]).1 ring i (M.readers[q]).r = false) (fun k => M.readers.length - k)
    (fun k => [(0, .c (.v (ptr M.b))), (1, iv ring), (2, iv i), (7, iv k)]) (fun _ => []) [] (fun _ => [(0, M.sp)]) 0 ⟨Nat.zero_le _, fun i hi => by omega⟩ ?_ ?_ ?_ ?_ ?_
  all_goals repeat (first | exact .nil _ | refine .cons rfl ?_ | refine .cons rfl rfl ?_ | refine .cons rfl rfl rfl ?_ | refine .cons' rfl (fun _ => rfl) ?_)
  intro k ⟨hk, hno⟩ ih
  by_cases hlt : k < M.readers.length
  · have hcur := rCursor_ok M hm hlt
    obtain ⟨x, hx⟩ : ∃ x, x = M.readers[k] := ⟨_, rfl⟩
    have next : heldByR M.p.facts (M.logs[ring]).1 ring i (M.readers[k]).r = false → ∀ q, (hq : q < k + 1) → (hl : q < M.readers.length) → heldByR M.p.facts (M.logs[ring]).1 ring i (M.readers[q]).r = false := fun h q hq hl => by
      by_cases e : q = k
      · subst e; exact h
      · exact hno q (by omega) hl
    have hHx := hH k hlt
    rw [← hx] at next hHx hcur
    have hdid := rDid_ok M hm x.r.who ring 6
    obtain ⟨cu, hcu⟩ : ∃ cu, cu = cursorF M.p.facts x.r.who x.r.ring x.r.start := ⟨_, rfl⟩
    rw [← hcu] at hcur
    have e0 : heldByR M.p.facts (M.logs[ring]).1 ring i x.r = (decide (x.r.ring = ring) && !didF M.p.facts x.r.who ring 6 && decide (cu < i - (M.logs[ring]).1)) := by unfold heldByR; rw [hcu]
    by_cases hr : x.r.ring = ring
    · cases hd : didF M.p.facts x.r.who ring 6 with
      | true =>
        rw [hd] at hdid e0
        have e1 : heldByR M.p.facts (M.logs[ring]).1 ring i x.r = false := by rw [e0]; simp
        repeat' (first | ((first | refine BrM.yes (by omega) ?_ | refine BrM.t rfl ?_ | refine BrM.f rfl ?_ | refine BrM.dec (fun _ => ?_) (fun _ => ?_) | refine BrM.mk (fun _ => ?_) (fun _ => ?_) | refine Ar.i64 (by omega) (by omega) ?_ | refine gO rfl ?_ | refine gP rfl (by repeat constructor) ?_) <;> conv => whnf) | (refine atLoad ?_; refine Nx.load1 0 rfl rfl rfl rfl (b2) rfl ?_) | (refine atIdx ?_; refine Nx.idx 0 (j := k) rfl rfl rfl Try.underlying31 rfl rfl rfl RRdH.enc_len hR rfl (by omega) (by omega) fun b p hqr => ?_) | refine Nx.late ?_)
        have hqx : SeesAt M.sp b p x.enc := by rw [hx]; exact hqr
        refine Nx.load 0 rfl rfl rfl rfl hqx rfl rfl ?_
        repeat' (first | ((first | refine BrM.yes (by omega) ?_ | refine BrM.t rfl ?_ | refine BrM.f rfl ?_ | refine BrM.dec (fun _ => ?_) (fun _ => ?_) | refine BrM.mk (fun _ => ?_) (fun _ => ?_) | refine Ar.i64 (by omega) (by omega) ?_ | refine gO rfl ?_ | refine gP rfl (by repeat constructor) ?_) <;> conv => whnf) | (refine Nx.bind (l := 8) (fun _ => ?_) rfl; refine dN 7 [0] [0,5,8,12,16,20,24,29,32,38,40,44,48,52,56,64,68,72,76,81,84,88,92,97,100,62,104,108] rfl (by kernel_rfl) rfl (by kernel_rfl) rfl (by repeat constructor) rfl ?_) | (refine atCall 35 ?_; refine cE [0] [0] rfl rfl rfl rfl rfl (hdid) rfl ?_) | (refine atAftK ?_; refine Nx.keepN [0] rfl (by repeat constructor) (by repeat constructor) rfl ?_) | refine Nx.late ?_)
        refine (ih (k + 1) ⟨by omega, next e1⟩ (by omega)).weak ?_ ?_ ?_ ?_
        all_goals repeat (first | exact .nil _ | refine .cons rfl ?_ | refine .cons rfl rfl ?_ | refine .cons rfl rfl rfl ?_ | refine .cons' rfl (fun _ => rfl) ?_)
      | false =>
        rw [hd] at hdid e0
        by_cases hc : cu < i - (M.logs[ring]).1
        · have e1 : heldByR M.p.facts (M.logs[ring]).1 ring i x.r = true := by rw [e0]; simp [hr, hc]
          rw [hHx e1]
          repeat' (first | ((first | refine BrM.yes (by omega) ?_ | refine BrM.t rfl ?_ | refine BrM.f rfl ?_ | refine BrM.dec (fun _ => ?_) (fun _ => ?_) | refine BrM.mk (fun _ => ?_) (fun _ => ?_) | refine Ar.i64 (by omega) (by omega) ?_ | refine gO rfl ?_ | refine gP rfl (by repeat constructor) ?_) <;> conv => whnf) | (refine atLoad ?_; refine Nx.load1 0 rfl rfl rfl rfl (b2) rfl ?_) | (refine atIdx ?_; refine Nx.idx 0 (j := k) rfl rfl rfl Try.underlying31 rfl rfl rfl RRdH.enc_len hR rfl (by omega) (by omega) fun b p hqr => ?_) | refine Nx.late ?_)
          have hqx : SeesAt M.sp b p x.enc := by rw [hx]; exact hqr
          refine Nx.load 0 rfl rfl rfl rfl hqx rfl rfl ?_
          repeat' (first | ((first | refine BrM.yes (by omega) ?_ | refine BrM.t rfl ?_ | refine BrM.f rfl ?_ | refine BrM.dec (fun _ => ?_) (fun _ => ?_) | refine BrM.mk (fun _ => ?_) (fun _ => ?_) | refine Ar.i64 (by omega) (by omega) ?_ | refine gO rfl ?_ | refine gP rfl (by repeat constructor) ?_) <;> conv => whnf) | (refine Nx.bind (l := 8) (fun _ => ?_) rfl; refine dN 7 [0] [0,5,8,12,16,20,24,29,32,38,40,44,48,52,56,64,68,72,76,81,84,88,92,97,100,62,104,108] rfl (by kernel_rfl) rfl (by kernel_rfl) rfl (by repeat constructor) rfl ?_) | (refine atCall 35 ?_; refine cE [0] [0] rfl rfl rfl rfl rfl (hdid) rfl ?_) | (refine atCall 33 ?_; refine cE [0] [0] rfl rfl rfl rfl rfl (hcur) rfl ?_) | (refine atAftK ?_; refine Nx.keepN [0] rfl (by repeat constructor) (by repeat constructor) rfl ?_) | (refine atHoIdx ?_; refine Nx.hoIdx 0 (j := ring) rfl rfl rfl Try.underlying29 rfl rfl rfl rlC_len hL rfl (by omega) (by omega) fun _ _ _ => ?_) | (refine atHoLoad ?_; first | refine hL1 rfl rfl rfl rfl (SeesAt.sub (by assumption) _ rfl) (by repeat constructor) rfl ?_ | refine hL1 rfl rfl rfl rfl (by assumption) (by repeat constructor) rfl ?_ | refine hLm rfl rfl rfl rfl (by assumption) (by repeat constructor) rfl rfl ?_) | (refine atRet ?_; refine Nx.ret [0] Try.func15 rfl rfl ?_; (exact ⟨rfl, rfl⟩)) | refine Nx.late ?_)
        · have e1 : heldByR M.p.facts (M.logs[ring]).1 ring i x.r = false := by rw [e0]; simp [hc]
          repeat' (first | ((first | refine BrM.yes (by omega) ?_ | refine BrM.t rfl ?_ | refine BrM.f rfl ?_ | refine BrM.dec (fun _ => ?_) (fun _ => ?_) | refine BrM.mk (fun _ => ?_) (fun _ => ?_) | refine Ar.i64 (by omega) (by omega) ?_ | refine gO rfl ?_ | refine gP rfl (by repeat constructor) ?_) <;> conv => whnf) | (refine atLoad ?_; refine Nx.load1 0 rfl rfl rfl rfl (b2) rfl ?_) | (refine atIdx ?_; refine Nx.idx 0 (j := k) rfl rfl rfl Try.underlying31 rfl rfl rfl RRdH.enc_len hR rfl (by omega) (by omega) fun b p hqr => ?_) | refine Nx.late ?_)
          have hqx : SeesAt M.sp b p x.enc := by rw [hx]; exact hqr
          refine Nx.load 0 rfl rfl rfl rfl hqx rfl rfl ?_
          repeat' (first | ((first | refine BrM.yes (by omega) ?_ | refine BrM.not (by omega) ?_ | refine BrM.t rfl ?_ | refine BrM.f rfl ?_ | refine BrM.dec (fun _ => ?_) (fun _ => ?_) | refine BrM.mk (fun _ => ?_) (fun _ => ?_) | refine Ar.i64 (by omega) (by omega) ?_ | refine gO rfl ?_ | refine gP rfl (by repeat constructor) ?_) <;> conv => whnf) | (refine Nx.bind (l := 8) (fun _ => ?_) rfl; refine dN 7 [0] [0,5,8,12,16,20,24,29,32,38,40,44,48,52,56,64,68,72,76,81,84,88,92,97,100,62,104,108] rfl (by kernel_rfl) rfl (by kernel_rfl) rfl (by repeat constructor) rfl ?_) | (refine atCall 35 ?_; refine cE [0] [0] rfl rfl rfl rfl rfl (hdid) rfl ?_) | (refine atCall 33 ?_; refine cE [0] [0] rfl rfl rfl rfl rfl (hcur) rfl ?_) | (refine atAftK ?_; refine Nx.keepN [0] rfl (by repeat constructor) (by repeat constructor) rfl ?_) | (refine atHoIdx ?_; refine Nx.hoIdx 0 (j := ring) rfl rfl rfl Try.underlying29 rfl rfl rfl rlC_len hL rfl (by omega) (by omega) fun _ _ _ => ?_) | (refine atHoLoad ?_; first | refine hL1 rfl rfl rfl rfl (SeesAt.sub (by assumption) _ rfl) (by repeat constructor) rfl ?_ | refine hL1 rfl rfl rfl rfl (by assumption) (by repeat constructor) rfl ?_ | refine hLm rfl rfl rfl rfl (by assumption) (by repeat constructor) rfl rfl ?_) | refine Nx.late ?_)
          refine (ih (k + 1) ⟨by omega, next e1⟩ (by omega)).weak ?_ ?_ ?_ ?_
          all_goals repeat (first | exact .nil _ | refine .cons rfl ?_ | refine .cons rfl rfl ?_ | refine .cons rfl rfl rfl ?_ | refine .cons' rfl (fun _ => rfl) ?_)
    · have e1 : heldByR M.p.facts (M.logs[ring]).1 ring i x.r = false := by rw [e0]; simp [hr]
      repeat' (first | ((first | refine BrM.yes (by omega) ?_ | refine BrM.t rfl ?_ | refine BrM.f rfl ?_ | refine BrM.dec (fun _ => ?_) (fun _ => ?_) | refine BrM.mk (fun _ => ?_) (fun _ => ?_) | refine Ar.i64 (by omega) (by omega) ?_ | refine gO rfl ?_ | refine gP rfl (by repeat constructor) ?_) <;> conv => whnf) | (refine atLoad ?_; refine Nx.load1 0 rfl rfl rfl rfl (b2) rfl ?_) | (refine atIdx ?_; refine Nx.idx 0 (j := k) rfl rfl rfl Try.underlying31 rfl rfl rfl RRdH.enc_len hR rfl (by omega) (by omega) fun b p hqr => ?_) | refine Nx.late ?_)
      have hqx : SeesAt M.sp b p x.enc := by rw [hx]; exact hqr
      refine Nx.load 0 rfl rfl rfl rfl hqx rfl rfl ?_
      repeat' (first | ((first | refine BrM.yes (by omega) ?_ | refine BrM.not (by omega) ?_ | refine BrM.t rfl ?_ | refine BrM.f rfl ?_ | refine BrM.dec (fun _ => ?_) (fun _ => ?_) | refine BrM.mk (fun _ => ?_) (fun _ => ?_) | refine Ar.i64 (by omega) (by omega) ?_ | refine gO rfl ?_ | refine gP rfl (by repeat constructor) ?_) <;> conv => whnf) | (refine Nx.bind (l := 8) (fun _ => ?_) rfl; refine dN 7 [0] [0,5,8,12,16,20,24,29,32,38,40,44,48,52,56,64,68,72,76,81,84,88,92,97,100,62,104,108] rfl (by kernel_rfl) rfl (by kernel_rfl) rfl (by repeat constructor) rfl ?_) | refine Nx.late ?_)
      refine (ih (k + 1) ⟨by omega, next e1⟩ (by omega)).weak ?_ ?_ ?_ ?_
      all_goals repeat (first | exact .nil _ | refine .cons rfl ?_ | refine .cons rfl rfl ?_ | refine .cons rfl rfl rfl ?_ | refine .cons' rfl (fun _ => rfl) ?_)
  · have e : (M.p.readers.any fun r => heldByR M.p.facts (M.logs[ring]).1 ring i r) = false := by
      rw [List.any_eq_false]
      intro r hr
      obtain ⟨y, hy, rfl⟩ := List.mem_map.1 hr
      obtain ⟨q, hq, rfl⟩ := List.getElem_of_mem hy
      rw [hno q (by omega) hq]; decide
    rw [e]
    repeat' (first | ((first | refine BrM.not (by omega) ?_ | refine BrM.t rfl ?_ | refine BrM.f rfl ?_ | refine BrM.dec (fun _ => ?_) (fun _ => ?_) | refine BrM.mk (fun _ => ?_) (fun _ => ?_) | refine Ar.i64 (by omega) (by omega) ?_ | refine gO rfl ?_ | refine gP rfl (by repeat constructor) ?_) <;> conv => whnf) | (refine atLoad ?_; refine Nx.load1 0 rfl rfl rfl rfl (b2) rfl ?_) | (refine atRet ?_; refine Nx.ret [0] Try.func15 rfl rfl ?_; (exact ⟨rfl, rfl⟩)) | refine Nx.late ?_)
end Go.Proofs.Ytngfadijcpnblaa

/- The reference: call. -/
namespace Go.Proofs.Ytngfadijcpnblaa
open Go.RowKit
set_option maxRecDepth 20000
set_option maxHeartbeats 4000000
def CallV (M : RefH) (k : Nat) (x : RWrH) (v : Value) : Prop := (M.p.call k = none ∧ v = .tuple #[.slice none 0 0, .int .i64 0, .int .i64 0, .bool false]) ∨
  ∃ c ∈ x.calls, ∃ s f, M.p.call k = some (c.l, s, f) ∧ v = .tuple #[.slice c.A c.l.length c.c, .int .i64 s, .int .i64 f, .bool true]
attribute [local irreducible] Nx Ar BrM headC OneC HoC AftC planHead endF
theorem rCall_ok (M : RefH) (hm : MdV M.p) {k : Nat} (hk : k < M.writers.length) : FnOk Try.prog 62 [ptr M.b, .int .i64 k] [M.sp] (fun v Q => CallV M k M.writers[k] v ∧ Q = [M.sp]) := by
  obtain ⟨hl8, hl5, hl2⟩ := hm.lens
  have b0 := M.seeB.sub 0 rfl
  have b1 := M.seeB.sub 1 rfl
  have b2 := M.seeB.sub 2 rfl
  have b4 := M.seeB.sub 4 rfl
  have hW := M.seeW
  have hR := M.seeR
  have hF := M.seeF
  obtain ⟨x, hx⟩ : ∃ x, x = M.writers[k] := ⟨_, rfl⟩
  have hxm : x ∈ M.writers := by rw [hx]; exact List.getElem_mem hk
  have hcl := (hm.calls x.m (List.mem_map_of_mem hxm)).1
  replace hcl : x.calls.length ≤ 200 := by simpa [RWrH.m] using hcl
  have eC : M.p.call k = match (x.calls.map (·.l))[(callF M.p.facts x.who).ended]? with | none => none | some l => some (l, (callF M.p.facts x.who).shown, (callF M.p.facts x.who).first) := by
    unfold MdR.call
    rw [RefH.gw hk, ← hx]; rfl
  have hCl := RefH.wca hxm
  rw [← hx]
  refine FnOk.start Try.func62 rfl rfl rfl rfl fun F os tape output => ?_
  refine go 200 ?_
  conv => whnf
  repeat' (first | ((first | refine BrM.t rfl ?_ | refine BrM.f rfl ?_ | refine BrM.dec (fun _ => ?_) (fun _ => ?_) | refine BrM.mk (fun _ => ?_) (fun _ => ?_) | refine Ar.i64 (by omega) (by omega) ?_ | refine gO rfl ?_ | refine gP rfl (by repeat constructor) ?_) <;> conv => whnf) | (fail) | refine Nx.late ?_)
  refine Nx.loop (X := Nat) (fun j => j ≤ M.facts.length ∧ (callF (M.p.facts.take j) x.who).ended ≤ j ∧ 0 ≤ (callF (M.p.facts.take j) x.who).shown ∧ (callF (M.p.facts.take j) x.who).shown ≤ 64 * j ∧ -1 ≤ (callF (M.p.facts.take j) x.who).first ∧ (callF (M.p.facts.take j) x.who).first ≤ 4611686018427387904) (fun j => M.facts.length - j)
    (fun j => [(0, .c (.v (ptr M.b))), (1, iv k), (8, iv (callF (M.p.facts.take j) x.who).ended), (9, iv (callF (M.p.facts.take j) x.who).shown), (10, iv (callF (M.p.facts.take j) x.who).first), (11, iv j)]) (fun _ => []) [] (fun _ => [(0, M.sp)]) 0 ⟨Nat.zero_le _, (show (0:Nat) ≤ 0 by decide), (show (0:Int) ≤ 0 by decide), (show (0:Int) ≤ 64 * ((0:Nat):Int) by decide), (show (-1:Int) ≤ -1 by decide), (show (-1:Int) ≤ 4611686018427387904 by decide)⟩ ?_ ?_ ?_ ?_ ?_
  all_goals repeat (first | exact .nil _ | refine .cons rfl ?_ | refine .cons rfl rfl ?_ | refine .cons rfl rfl rfl ?_ | refine .cons' rfl (fun _ => rfl) ?_)
  intro j ⟨hj, he, hs0, hs1, hf0, hf1⟩ ih
  by_cases hlt : j < M.facts.length
  · have hst : callF (M.p.facts.take (j + 1)) x.who = CallS.step x.who (callF (M.p.facts.take j) x.who) (M.facts[j]).f := foldl_take_succ (RefH.gf hlt)
    obtain ⟨s, hgj⟩ : ∃ g, g = callF (M.p.facts.take j) x.who := ⟨_, rfl⟩
    rw [← hgj] at hst he hs0 hs1 hf0 hf1 ⊢
    unfold CallS.step at hst
    have hfx := hm.fx (M.facts[j]).f (List.mem_map_of_mem (List.getElem_mem hlt))
    by_cases hw : M.facts[j].f.n.who ≠ x.who
    · rw [if_pos hw] at hst
      rw [hx] at hw
      repeat' (first | ((first | refine BrM.yes (by omega) ?_ | refine BrM.not (by omega) ?_ | refine BrM.t rfl ?_ | refine BrM.f rfl ?_ | refine BrM.dec (fun _ => ?_) (fun _ => ?_) | refine BrM.mk (fun _ => ?_) (fun _ => ?_) | refine Ar.i64 (by omega) (by omega) ?_ | refine gO rfl ?_ | refine gP rfl (by repeat constructor) ?_) <;> conv => whnf) | (refine atLoad ?_; refine Nx.load1 0 rfl rfl rfl rfl (b4) rfl ?_) | (refine atIdx ?_; refine Nx.idx 0 (j := j) rfl rfl rfl Try.underlying32 rfl rfl rfl RFaH.enc_len hF rfl (by omega) (by omega) fun b p hq => ?_) | (refine atLoad ?_; refine Nx.load 0 rfl rfl rfl rfl (RFaH.note hq) rfl rfl ?_) | (refine Nx.bind (l := 12) (fun _ => ?_) rfl; refine dN 6 [0] [0,5,8,12,16,21,24,28,32,37,40] rfl (by kernel_rfl) rfl (by kernel_rfl) rfl (by repeat constructor) rfl ?_) | (refine atHoIdx ?_; refine Nx.hoIdx 0 (j := k) rfl rfl rfl Try.underlying30 rfl rfl rfl RWrH.enc_len hW rfl (by omega) (by omega) fun _ _ _ => ?_) | (refine atHoLoad ?_; first | refine hL1 rfl rfl rfl rfl (SeesAt.sub (by assumption) _ rfl) (by repeat constructor) rfl ?_ | refine hL1 rfl rfl rfl rfl (by assumption) (by repeat constructor) rfl ?_ | refine hLm rfl rfl rfl rfl (by assumption) (by repeat constructor) rfl rfl ?_) | refine Nx.late ?_)
      refine (ih (j + 1) ⟨by omega, by rw [hst]; (try dsimp only); omega, by rw [hst]; exact hs0, by rw [hst]; (try dsimp only); omega, by rw [hst]; exact hf0, by rw [hst]; exact hf1⟩ (by omega)).weak ?_ ?_ ?_ ?_
      · rw [hst]
        repeat (first | exact subE.nil _ | refine subE.cons rfl rfl ?_ | refine subE.cons' rfl (fun _ => rfl) ?_)
      all_goals repeat (first | exact .nil _ | refine .cons rfl ?_ | refine .cons rfl rfl ?_ | refine .cons rfl rfl rfl ?_ | refine .cons' rfl (fun _ => rfl) ?_)
    rw [if_neg hw] at hst
    rw [hx] at hw
    by_cases h4 : M.facts[j].f.n.deed = 4
    · rw [if_pos h4] at hst
      repeat' (first | ((first | refine BrM.yes (by omega) ?_ | refine BrM.not (by omega) ?_ | refine BrM.t rfl ?_ | refine BrM.f rfl ?_ | refine BrM.dec (fun _ => ?_) (fun _ => ?_) | refine BrM.mk (fun _ => ?_) (fun _ => ?_) | refine Ar.i64 (by omega) (by omega) ?_ | refine gO rfl ?_ | refine gP rfl (by repeat constructor) ?_) <;> conv => whnf) | (refine atLoad ?_; refine Nx.load1 0 rfl rfl rfl rfl (b4) rfl ?_) | (refine atIdx ?_; refine Nx.idx 0 (j := j) rfl rfl rfl Try.underlying32 rfl rfl rfl RFaH.enc_len hF rfl (by omega) (by omega) fun b p hq => ?_) | (refine atLoad ?_; refine Nx.load 0 rfl rfl rfl rfl (RFaH.note hq) rfl rfl ?_) | (refine Nx.bind (l := 12) (fun _ => ?_) rfl; refine dN 6 [0] [0,5,8,12,16,21,24,28,32,37,40] rfl (by kernel_rfl) rfl (by kernel_rfl) rfl (by repeat constructor) rfl ?_) | (refine atHoIdx ?_; refine Nx.hoIdx 0 (j := k) rfl rfl rfl Try.underlying30 rfl rfl rfl RWrH.enc_len hW rfl (by omega) (by omega) fun _ _ _ => ?_) | (refine atHoLoad ?_; first | refine hL1 rfl rfl rfl rfl (SeesAt.sub (by assumption) _ rfl) (by repeat constructor) rfl ?_ | refine hL1 rfl rfl rfl rfl (by assumption) (by repeat constructor) rfl ?_ | refine hLm rfl rfl rfl rfl (by assumption) (by repeat constructor) rfl rfl ?_) | refine Nx.late ?_)
      refine (ih (j + 1) ⟨by omega, by rw [hst]; (try dsimp only); omega, by rw [hst]; exact (show (0:Int) ≤ 0 by decide), by rw [hst]; (try dsimp only); omega, by rw [hst]; exact (show (-1:Int) ≤ -1 by decide), by rw [hst]; exact (show (-1:Int) ≤ 4611686018427387904 by decide)⟩ (by omega)).weak ?_ ?_ ?_ ?_
      · rw [hst]
        repeat (first | exact subE.nil _ | refine subE.cons rfl rfl ?_ | refine subE.cons' rfl (fun _ => rfl) ?_)
      all_goals repeat (first | exact .nil _ | refine .cons rfl ?_ | refine .cons rfl rfl ?_ | refine .cons rfl rfl rfl ?_ | refine .cons' rfl (fun _ => rfl) ?_)
    rw [if_neg h4] at hst
    by_cases h1 : M.facts[j].f.n.deed = 1
    · rw [if_pos h1] at hst
      have hp := hm.pub (M.facts[j]).f (List.mem_map_of_mem (List.getElem_mem hlt)) h1
      by_cases hfi : s.first < 0
      · rw [if_pos hfi] at hst
        repeat' (first | ((first | refine BrM.yes (by omega) ?_ | refine BrM.not (by omega) ?_ | refine BrM.t rfl ?_ | refine BrM.f rfl ?_ | refine BrM.dec (fun _ => ?_) (fun _ => ?_) | refine BrM.mk (fun _ => ?_) (fun _ => ?_) | refine Ar.i64 (by omega) (by omega) ?_ | refine gO rfl ?_ | refine gP rfl (by repeat constructor) ?_) <;> conv => whnf) | (refine atLoad ?_; refine Nx.load1 0 rfl rfl rfl rfl (b4) rfl ?_) | (refine atIdx ?_; refine Nx.idx 0 (j := j) rfl rfl rfl Try.underlying32 rfl rfl rfl RFaH.enc_len hF rfl (by omega) (by omega) fun b p hq => ?_) | (refine atLoad ?_; refine Nx.load 0 rfl rfl rfl rfl (RFaH.note hq) rfl rfl ?_) | (refine Nx.bind (l := 12) (fun _ => ?_) rfl; refine dN 6 [0] [0,5,8,12,16,21,24,28,32,37,40] rfl (by kernel_rfl) rfl (by kernel_rfl) rfl (by repeat constructor) rfl ?_) | (refine atHoIdx ?_; refine Nx.hoIdx 0 (j := k) rfl rfl rfl Try.underlying30 rfl rfl rfl RWrH.enc_len hW rfl (by omega) (by omega) fun _ _ _ => ?_) | (refine atHoLoad ?_; first | refine hL1 rfl rfl rfl rfl (SeesAt.sub (by assumption) _ rfl) (by repeat constructor) rfl ?_ | refine hL1 rfl rfl rfl rfl (by assumption) (by repeat constructor) rfl ?_ | refine hLm rfl rfl rfl rfl (by assumption) (by repeat constructor) rfl rfl ?_) | refine Nx.late ?_)
        refine (ih (j + 1) ⟨by omega, by rw [hst]; (try dsimp only); omega, by rw [hst]; (try dsimp only); omega, by rw [hst]; (try dsimp only); omega, by rw [hst]; (try dsimp only); omega, by rw [hst]; (try dsimp only); omega⟩ (by omega)).weak ?_ ?_ ?_ ?_
        · rw [hst]
          repeat (first | exact subE.nil _ | refine subE.cons rfl rfl ?_ | refine subE.cons' rfl (fun _ => rfl) ?_)
        all_goals repeat (first | exact .nil _ | refine .cons rfl ?_ | refine .cons rfl rfl ?_ | refine .cons rfl rfl rfl ?_ | refine .cons' rfl (fun _ => rfl) ?_)
      · rw [if_neg hfi] at hst
        repeat' (first | ((first | refine BrM.yes (by omega) ?_ | refine BrM.not (by omega) ?_ | refine BrM.t rfl ?_ | refine BrM.f rfl ?_ | refine BrM.dec (fun _ => ?_) (fun _ => ?_) | refine BrM.mk (fun _ => ?_) (fun _ => ?_) | refine Ar.i64 (by omega) (by omega) ?_ | refine gO rfl ?_ | refine gP rfl (by repeat constructor) ?_) <;> conv => whnf) | (refine atLoad ?_; refine Nx.load1 0 rfl rfl rfl rfl (b4) rfl ?_) | (refine atIdx ?_; refine Nx.idx 0 (j := j) rfl rfl rfl Try.underlying32 rfl rfl rfl RFaH.enc_len hF rfl (by omega) (by omega) fun b p hq => ?_) | (refine atLoad ?_; refine Nx.load 0 rfl rfl rfl rfl (RFaH.note hq) rfl rfl ?_) | (refine Nx.bind (l := 12) (fun _ => ?_) rfl; refine dN 6 [0] [0,5,8,12,16,21,24,28,32,37,40] rfl (by kernel_rfl) rfl (by kernel_rfl) rfl (by repeat constructor) rfl ?_) | (refine atHoIdx ?_; refine Nx.hoIdx 0 (j := k) rfl rfl rfl Try.underlying30 rfl rfl rfl RWrH.enc_len hW rfl (by omega) (by omega) fun _ _ _ => ?_) | (refine atHoLoad ?_; first | refine hL1 rfl rfl rfl rfl (SeesAt.sub (by assumption) _ rfl) (by repeat constructor) rfl ?_ | refine hL1 rfl rfl rfl rfl (by assumption) (by repeat constructor) rfl ?_ | refine hLm rfl rfl rfl rfl (by assumption) (by repeat constructor) rfl rfl ?_) | refine Nx.late ?_)
        refine (ih (j + 1) ⟨by omega, by rw [hst]; (try dsimp only); omega, by rw [hst]; (try dsimp only); omega, by rw [hst]; (try dsimp only); omega, by rw [hst]; (try dsimp only); omega, by rw [hst]; (try dsimp only); omega⟩ (by omega)).weak ?_ ?_ ?_ ?_
        · rw [hst]
          repeat (first | exact subE.nil _ | refine subE.cons rfl rfl ?_ | refine subE.cons' rfl (fun _ => rfl) ?_)
        all_goals repeat (first | exact .nil _ | refine .cons rfl ?_ | refine .cons rfl rfl ?_ | refine .cons rfl rfl rfl ?_ | refine .cons' rfl (fun _ => rfl) ?_)
    · rw [if_neg h1] at hst
      repeat' (first | ((first | refine BrM.yes (by omega) ?_ | refine BrM.not (by omega) ?_ | refine BrM.t rfl ?_ | refine BrM.f rfl ?_ | refine BrM.dec (fun _ => ?_) (fun _ => ?_) | refine BrM.mk (fun _ => ?_) (fun _ => ?_) | refine Ar.i64 (by omega) (by omega) ?_ | refine gO rfl ?_ | refine gP rfl (by repeat constructor) ?_) <;> conv => whnf) | (refine atLoad ?_; refine Nx.load1 0 rfl rfl rfl rfl (b4) rfl ?_) | (refine atIdx ?_; refine Nx.idx 0 (j := j) rfl rfl rfl Try.underlying32 rfl rfl rfl RFaH.enc_len hF rfl (by omega) (by omega) fun b p hq => ?_) | (refine atLoad ?_; refine Nx.load 0 rfl rfl rfl rfl (RFaH.note hq) rfl rfl ?_) | (refine Nx.bind (l := 12) (fun _ => ?_) rfl; refine dN 6 [0] [0,5,8,12,16,21,24,28,32,37,40] rfl (by kernel_rfl) rfl (by kernel_rfl) rfl (by repeat constructor) rfl ?_) | (refine atHoIdx ?_; refine Nx.hoIdx 0 (j := k) rfl rfl rfl Try.underlying30 rfl rfl rfl RWrH.enc_len hW rfl (by omega) (by omega) fun _ _ _ => ?_) | (refine atHoLoad ?_; first | refine hL1 rfl rfl rfl rfl (SeesAt.sub (by assumption) _ rfl) (by repeat constructor) rfl ?_ | refine hL1 rfl rfl rfl rfl (by assumption) (by repeat constructor) rfl ?_ | refine hLm rfl rfl rfl rfl (by assumption) (by repeat constructor) rfl rfl ?_) | refine Nx.late ?_)
      refine (ih (j + 1) ⟨by omega, by rw [hst]; (try dsimp only); omega, by rw [hst]; exact hs0, by rw [hst]; (try dsimp only); omega, by rw [hst]; exact hf0, by rw [hst]; exact hf1⟩ (by omega)).weak ?_ ?_ ?_ ?_
      · rw [hst]
        repeat (first | exact subE.nil _ | refine subE.cons rfl rfl ?_ | refine subE.cons' rfl (fun _ => rfl) ?_)
      all_goals repeat (first | exact .nil _ | refine .cons rfl ?_ | refine .cons rfl rfl ?_ | refine .cons rfl rfl rfl ?_ | refine .cons' rfl (fun _ => rfl) ?_)
  · have e : M.p.facts.take j = M.p.facts := List.take_of_length_le (by rw [M.lf]; omega)
    rw [e] at hs0 hs1 hf0 hf1 he ⊢
    obtain ⟨s, hs⟩ : ∃ s, s = callF M.p.facts x.who := ⟨_, rfl⟩
    rw [← hs] at hs0 hs1 hf0 hf1 he eC ⊢
    have hkx : M.writers[k] = x := hx.symm
    by_cases hen : x.calls.length ≤ s.ended
    · rw [List.getElem?_eq_none (by simpa using hen)] at eC
      rw [← hkx] at hen
      repeat' (first | ((first | refine BrM.yes (by omega) ?_ | refine BrM.not (by omega) ?_ | refine BrM.t rfl ?_ | refine BrM.f rfl ?_ | refine BrM.dec (fun _ => ?_) (fun _ => ?_) | refine BrM.mk (fun _ => ?_) (fun _ => ?_) | refine Ar.i64 (by omega) (by omega) ?_ | refine gO rfl ?_ | refine gP rfl (by repeat constructor) ?_) <;> conv => whnf) | (refine atLoad ?_; refine Nx.load1 0 rfl rfl rfl rfl (b4) rfl ?_) | (refine atLoad ?_; refine Nx.load1 0 rfl rfl rfl rfl (b1) rfl ?_) | (refine atIdx ?_; refine Nx.idx 0 (j := k) rfl rfl rfl Try.underlying30 rfl rfl rfl RWrH.enc_len hW rfl (by omega) (by omega) fun _ _ _ => ?_) | (refine atLoad ?_; first | (refine Nx.load1 0 rfl rfl rfl rfl (SeesAt.sub (by assumption) _ rfl) rfl ?_) | (refine Nx.load1 0 rfl rfl rfl rfl (by assumption) rfl ?_) | (refine Nx.load 0 rfl rfl rfl rfl (by assumption) rfl rfl ?_)) | (refine atRet ?_; refine Nx.ret [0] Try.func62 rfl rfl ?_; (exact ⟨.inl ⟨eC, rfl⟩, rfl⟩)) | refine Nx.late ?_)
    · have hel : s.ended < x.calls.length := by omega
      rw [List.getElem?_eq_getElem (by simpa using hel)] at eC
      have hen' : ¬M.writers[k].calls.length ≤ s.ended := by rw [hkx]; exact hen
      repeat' (first | ((first | refine BrM.yes (by omega) ?_ | refine BrM.not (by omega) ?_ | refine BrM.t rfl ?_ | refine BrM.f rfl ?_ | refine BrM.dec (fun _ => ?_) (fun _ => ?_) | refine BrM.mk (fun _ => ?_) (fun _ => ?_) | refine Ar.i64 (by omega) (by omega) ?_ | refine gO rfl ?_ | refine gP rfl (by repeat constructor) ?_) <;> conv => whnf) | (refine atLoad ?_; refine Nx.load1 0 rfl rfl rfl rfl (b4) rfl ?_) | (refine atLoad ?_; refine Nx.load1 0 rfl rfl rfl rfl (b1) rfl ?_) | (refine atIdx ?_; refine Nx.idx 0 (j := k) rfl rfl rfl Try.underlying30 rfl rfl rfl RWrH.enc_len hW rfl rfl hk fun b p hqw => ?_; rw [hkx] at hqw) | (refine atLoad ?_; refine Nx.load1 0 rfl rfl rfl rfl (hqw.sub 2 rfl) rfl ?_) | (refine atIdx ?_; refine Nx.idx 0 (j := s.ended) rfl rfl rfl Try.underlying102 rfl rfl rfl CallH.enc_len hCl rfl rfl hel fun b p hqc => ?_) | (refine atLoad ?_; first | (refine Nx.load1 0 rfl rfl rfl rfl (SeesAt.sub (by assumption) _ rfl) rfl ?_) | (refine Nx.load1 0 rfl rfl rfl rfl (by assumption) rfl ?_) | (refine Nx.load 0 rfl rfl rfl rfl (by assumption) rfl rfl ?_)) | (refine atRet ?_; refine Nx.ret [0] Try.func62 rfl rfl ?_; (exact ⟨.inr ⟨x.calls[s.ended], List.getElem_mem hel, s.shown, s.first, by rw [eC]; simp, rfl⟩, rfl⟩)) | refine Nx.late ?_)
end Go.Proofs.Ytngfadijcpnblaa

/- The reference: shows, writes. -/
namespace Go.Proofs.Ytngfadijcpnblaa
open Go.RowKit
set_option maxRecDepth 20000
set_option maxHeartbeats 4000000
theorem un_em_le (a : PH) : (a.un PH.em).le a := PH.un_le (PH.le_refl a) (PH.em_le a)
theorem rd_nil (sz : Nat) (m : PH) : Rd m none 0 sz [] := ⟨by simp, fun h => absurd h (by decide)⟩
theorem rd_part {m : PH} {A : Option Addr} {n sz l h k : Nat} {cells : List Value} (hs : Rd m A n sz cells) (h1 : l ≤ h) (h2 : h ≤ n) (h3 : h ≤ k) : Rd m (resl A l k sz) (h - l) sz ((cells.drop (l * sz)).take ((h - l) * sz)) :=
  Rd.mono (Sees.part (rdS_sees A n sz cells) h1 h2 h3 m PH.em (PH.dj_em m) hs) (un_em_le m)
theorem anyEv_yes {fs : List Fact} {ring : Int} : ∀ {n : Nat} {lo : Int} {q : Nat}, q < n → (eventF fs ring (lo + q)).isSome = true → anyEv fs ring lo n = true
  | 0, _, _, h, _ => by omega
  | n + 1, lo, 0, _, h => by
    unfold anyEv
    rw [show lo + ((0 : Nat) : Int) = lo by omega] at h
    rw [h]; rfl
  | n + 1, lo, q + 1, hq, h => by
    unfold anyEv
    have := anyEv_yes (fs := fs) (ring := ring) (n := n) (lo := lo + 1) (q := q) (by omega) (by rw [show lo + 1 + (q : Int) = lo + ((q + 1 : Nat) : Int) by omega]; exact h)
    rw [this]; simp
theorem anyEv_nil {fs : List Fact} {ring : Int} : ∀ {n : Nat} {lo : Int}, (∀ q : Nat, q < n → (eventF fs ring (lo + q)).isSome = false) → anyEv fs ring lo n = false
  | 0, _, _ => rfl
  | n + 1, lo, h => by
    unfold anyEv
    have h0 := h 0 (by omega)
    rw [show lo + ((0 : Nat) : Int) = lo by omega] at h0
    rw [h0, anyEv_nil (n := n) (lo := lo + 1) fun q hq => by rw [show lo + 1 + (q : Int) = lo + ((q + 1 : Nat) : Int) by omega]; exact h (q + 1) (by omega)]
    rfl
theorem greatF_bnd {fs : List Fact} (ring : Int) (h : ∀ f ∈ fs, f.n.deed = 1 → f.n.seq ≤ 4611686018427387904) : -1 ≤ greatF fs ring ∧ greatF fs ring ≤ 4611686018427387904 := by
  unfold greatF
  have : ∀ (l : List Fact) (g : Int), (∀ f ∈ l, f.n.deed = 1 → f.n.seq ≤ 4611686018427387904) → -1 ≤ g → g ≤ 4611686018427387904 → -1 ≤ l.foldl (fun g f => if f.n.ring = ring ∧ f.n.deed = 1 ∧ g < f.n.seq then f.n.seq else g) g ∧ l.foldl (fun g f => if f.n.ring = ring ∧ f.n.deed = 1 ∧ g < f.n.seq then f.n.seq else g) g ≤ 4611686018427387904 := by
    intro l
    induction l with
    | nil => intro g _ a b; exact ⟨a, b⟩
    | cons f r ih =>
      intro g hl a b
      rw [List.foldl_cons]
      refine ih _ (fun f' hf' => hl f' (List.mem_cons_of_mem _ hf')) ?_ ?_
      · split <;> omega
      · split
        · exact hl f List.mem_cons_self (by omega)
        · exact b
  exact this fs (-1) h (by decide) (by decide)
theorem CallV.some {M : RefH} {k : Nat} {x : RWrH} {v : Value} {Q : List SP} {l : List Ev} {s f : Int} (h : CallV M k x v ∧ Q = [M.sp]) (hc : M.p.call k = some (l, s, f)) :
    (∃ c ∈ x.calls, c.l = l ∧ v = .tuple #[.slice c.A c.l.length c.c, .int .i64 s, .int .i64 f, .bool true]) ∧ Q = [M.sp] := by
  refine ⟨?_, h.2⟩
  rcases h.1 with ⟨e, _⟩ | ⟨c, hcm, s', f', e, ev⟩
  · rw [hc] at e; cases e
  · rw [hc] at e
    simp only [Option.some.injEq, Prod.mk.injEq] at e
    obtain ⟨rfl, rfl, rfl⟩ := e
    exact ⟨c, hcm, rfl, ev⟩
theorem CallV.none {M : RefH} {k : Nat} {x : RWrH} {v : Value} {Q : List SP} (h : CallV M k x v ∧ Q = [M.sp]) (hc : M.p.call k = none) :
    v = .tuple #[.slice none 0 0, .int .i64 0, .int .i64 0, .bool false] ∧ Q = [M.sp] := by
  refine ⟨?_, h.2⟩
  rcases h.1 with ⟨_, e⟩ | ⟨c, hcm, s', f', e, ev⟩
  · exact e
  · rw [hc] at e; cases e
/-- What a note of a writer comes to. -/
def ShQ (M : RefH) (r : List Ev × Int) (v : Value) (Q : List SP) : Prop := ∃ A c, v = .tuple #[.slice A r.1.length c, .int .i64 r.2] ∧ Q = [M.sp, rdS A r.1.length 2 (r.1.flatMap evC)]
attribute [local irreducible] Nx Ar BrM headC OneC HoC AftC planHead endF
theorem rShows_ok (M : RefH) (hm : MdV M.p) {k : Nat} (hk : k < M.writers.length) {q : Nat} (hql : q < M.logs.length) {l : List Ev} {sn : Nat} {f : Int} (hcall : M.p.call k = some (l, (sn : Int), f)) (hs : sn ≤ l.length) (h64 : l.length ≤ 64) (hf : -1 ≤ f ∧ f ≤ 4611686018427387904) (n : Nt) (hq : n.ring = q) :
    FnOk Try.prog 63 [ptr M.b, .int .i64 k, n.v] [M.sp] (ShQ M (M.p.showsR l sn f n)) := by
  obtain ⟨hl8, hl5, hl2⟩ := hm.lens
  have b0 := M.seeB.sub 0 rfl
  have hL := M.seeL
  have hwm := List.getElem_mem hk
  have hcl := (rCall_ok M hm hk).mono fun _ _ h => CallV.some h hcall
  have hgr := rGreat_ok M hm n.ring
  obtain ⟨gr1, gr2⟩ := greatF_bnd (fs := M.p.facts) n.ring fun f hf hd => (hm.pub f hf hd).2.2.1
  obtain ⟨sz, many, hg⟩ : ∃ sz many, M.logs[q] = (sz, many) := ⟨_, _, rfl⟩
  have eg : M.p.logs[n.ring.toNat]? = some (sz, many) := by
    rw [hq, Int.toNat_natCast, ← hg]; exact List.getElem?_eq_getElem hql
  unfold MdR.showsR
  rw [eg]
  simp only [Option.getD_some]
  unfold Nt.v
  refine FnOk.start Try.func63 rfl rfl rfl rfl fun F os tape output => ?_
  refine Nx.also 0 9 (rdS none 0 2 []) rfl (fun _ _ _ => rd_nil _ _) ?_
  refine go 200 ?_
  conv => whnf
  repeat' (first | ((first | refine BrM.t rfl ?_ | refine BrM.f rfl ?_ | refine BrM.dec (fun _ => ?_) (fun _ => ?_) | refine BrM.mk (fun _ => ?_) (fun _ => ?_) | refine Ar.i64 (by omega) (by omega) ?_ | refine gO rfl ?_ | refine gP rfl (by repeat constructor) ?_) <;> conv => whnf) | (refine (atCall 62) ?_; refine Nx.call [0] [0] rfl rfl rfl rfl rfl (hcl) rfl fun v Q hQ => ?_; obtain ⟨⟨c,hcm,rfl,rfl⟩,rfl⟩ := hQ) | (fail) | refine Nx.late ?_)
  refine Nx.bind (l := 5) (fun b5 => ?_) rfl
  refine Nx.joinR (E := [(0, .c (.v (ptr M.b))), (1, iv k), (5, .c (.loc 5 0)), (8, sl c.A c.l.length c.c), (9, iv sn), (10, iv f), (12, .c (.loc 12 0))]) (M := [(5, 42, [.v (.int .i64 n.who), .v (.int .i64 n.ring), .v (.int .i64 n.deed), .v (.int .i64 n.lo), .v (.int .i64 n.seq), .v (.int .i64 n.x.key), .v (.int .i64 n.x.val), .v (.int .i64 n.code)]), (12, 96, [.v (.int .i64 sz), .v (.bool many)])]) (B := []) (R := [(0, M.sp), (9, rdS none 0 2 [])]) (fun K => ?_) ?_
  · repeat' (first | (with_reducible refine Nx.weak K ?_ ?_ ?_ ?_) <;> (first | ((repeat (first | exact .nil _ | refine .cons rfl ?_ | refine .cons rfl rfl ?_ | refine .cons rfl rfl rfl ?_ | refine .cons' rfl (fun _ => rfl) ?_)); done) | omega | (dsimp only; omega) | (repeat (first | exact subE.nil _ | refine subE.cons rfl rfl ?_ | refine subE.cons' rfl (fun _ => rfl) ?_ | (refine subE.cons rfl ?_ ?_; · (simp; done))); done) | skip) | ((first | refine BrM.t rfl ?_ | refine BrM.f rfl ?_ | refine BrM.dec (fun _ => ?_) (fun _ => ?_) | refine BrM.mk (fun _ => ?_) (fun _ => ?_) | refine Ar.i64 (by omega) (by omega) ?_ | refine gR rfl ?_ | refine gP rfl (by repeat constructor) ?_) <;> conv => whnf) | (refine dN 2 [0] [0,4,8,13,16,21,24,29,34,39] rfl (by kernel_rfl) rfl (by kernel_rfl) rfl (by repeat constructor) rfl ?_) | (refine atAftK ?_; refine Nx.keepN [0] rfl (by repeat constructor) (by repeat constructor) rfl ?_) | (refine atHoIdx ?_; refine Nx.hoIdx 0 (j := q) rfl rfl rfl Try.underlying29 rfl rfl rfl rlC_len hL rfl (by omega) (by omega) fun b p hqq => ?_; rw [hg] at hqq) | (refine atHoLoad ?_; first | refine hL1 rfl rfl rfl rfl (SeesAt.sub (by assumption) _ rfl) (by repeat constructor) rfl ?_ | refine hL1 rfl rfl rfl rfl (by assumption) (by repeat constructor) rfl ?_ | refine hLm rfl rfl rfl rfl (by assumption) (by repeat constructor) rfl rfl ?_) | refine Nx.late ?_)
  refine go 1 ?_
  conv => whnf
  by_cases d1 : n.lo < 0 ∨ n.seq < n.lo ∨ 4611686018427387904 < n.seq
  · rw [if_pos d1]
    repeat' (first | ((first | refine BrM.yes (by omega) ?_ | refine BrM.not (by omega) ?_ | refine BrM.t rfl ?_ | refine BrM.f rfl ?_ | refine BrM.dec (fun _ => ?_) (fun _ => ?_) | refine BrM.mk (fun _ => ?_) (fun _ => ?_) | refine Ar.i64 (by omega) (by omega) ?_ | refine gO rfl ?_ | refine gP rfl (by repeat constructor) ?_) <;> conv => whnf) | (refine atRet ?_; refine Nx.ret [0,9] Try.func63 rfl rfl ?_; (exact ⟨none, 0, rfl, rfl⟩)) | refine Nx.late ?_)
  rw [if_neg d1]
  obtain ⟨cnt, hcnt⟩ : ∃ cnt : Nat, n.seq - n.lo + 1 = cnt := ⟨(n.seq - n.lo + 1).toNat, by omega⟩
  obtain ⟨lo, hlo⟩ : ∃ lo : Nat, n.lo = lo := ⟨n.lo.toNat, by omega⟩
  rw [hcnt]
  by_cases d2 : (0 < (sn : Int) ∧ n.lo ≠ f + sn) ∨ (c.l.length : Int) - sn < cnt ∨ (many = true ∧ (cnt : Int) ≠ 1) ∨ (many = false ∧ (cnt : Int) ≠ c.l.length)
  · rw [if_pos d2]
    cases many with
    | true =>
      have d2' : (0 < (sn : Int) ∧ n.lo ≠ f + sn) ∨ (c.l.length : Int) - sn < cnt ∨ (cnt : Int) ≠ 1 := by
        rcases d2 with d | d | d | d
        · exact .inl d
        · exact .inr (.inl d)
        · exact .inr (.inr d.2)
        · exact absurd d.1 (by decide)
      repeat' (first | (refine atAr ?_; refine Ar.to (k := .i64) ((cnt : Int)) (by omega) ⟨by omega, by omega⟩ ?_; conv => whnf) | ((first | refine BrM.yes (by omega) ?_ | refine BrM.not (by omega) ?_ | refine BrM.t rfl ?_ | refine BrM.f rfl ?_ | refine BrM.dec (fun _ => ?_) (fun _ => ?_) | refine BrM.mk (fun _ => ?_) (fun _ => ?_) | refine Ar.i64 (by omega) (by omega) ?_ | refine gO rfl ?_ | refine gP rfl (by repeat constructor) ?_) <;> conv => whnf) | (refine atRet ?_; refine Nx.ret [0,9] Try.func63 rfl rfl ?_; (exact ⟨none, 0, rfl, rfl⟩)) | refine Nx.late ?_)
    | false =>
      have d2' : (0 < (sn : Int) ∧ n.lo ≠ f + sn) ∨ (c.l.length : Int) - sn < cnt ∨ (cnt : Int) ≠ c.l.length := by
        rcases d2 with d | d | d | d
        · exact .inl d
        · exact .inr (.inl d)
        · exact absurd d.1 (by decide)
        · exact .inr (.inr d.2)
      repeat' (first | (refine atAr ?_; refine Ar.to (k := .i64) ((cnt : Int)) (by omega) ⟨by omega, by omega⟩ ?_; conv => whnf) | ((first | refine BrM.yes (by omega) ?_ | refine BrM.not (by omega) ?_ | refine BrM.t rfl ?_ | refine BrM.f rfl ?_ | refine BrM.dec (fun _ => ?_) (fun _ => ?_) | refine BrM.mk (fun _ => ?_) (fun _ => ?_) | refine Ar.i64 (by omega) (by omega) ?_ | refine gO rfl ?_ | refine gP rfl (by repeat constructor) ?_) <;> conv => whnf) | (refine atRet ?_; refine Nx.ret [0,9] Try.func63 rfl rfl ?_; (exact ⟨none, 0, rfl, rfl⟩)) | refine Nx.late ?_)
  rw [if_neg d2]
  have d2a : ¬(0 < (sn : Int) ∧ n.lo ≠ f + sn) := fun h => d2 (.inl h)
  have d2b : ¬((c.l.length : Int) - sn < cnt) := fun h => d2 (.inr (.inl h))
  have d2t : many = true → (cnt : Int) = 1 := fun h => Decidable.byContradiction fun e => d2 (.inr (.inr (.inl ⟨h, e⟩)))
  have d2f : many = false → (cnt : Int) = c.l.length := fun h => Decidable.byContradiction fun e => d2 (.inr (.inr (.inr ⟨h, e⟩)))
  by_cases d3 : (many = false ∧ n.lo ≠ greatF M.p.facts n.ring + 1) ∨ greatF M.p.facts n.ring + 8193 < n.lo
  · rw [if_pos d3]
    cases many with
    | true =>
      have d2t := d2t rfl
      have d3' : greatF M.p.facts n.ring + 8193 < n.lo := by
        rcases d3 with d | d
        · exact absurd d.1 (by decide)
        · exact d
      repeat' (first | (refine atAr ?_; refine Ar.to (k := .i64) ((cnt : Int)) (by omega) ⟨by omega, by omega⟩ ?_; conv => whnf) | ((first | refine BrM.yes (by omega) ?_ | refine BrM.not (by omega) ?_ | refine BrM.t rfl ?_ | refine BrM.f rfl ?_ | refine BrM.dec (fun _ => ?_) (fun _ => ?_) | refine BrM.mk (fun _ => ?_) (fun _ => ?_) | refine Ar.i64 (by omega) (by omega) ?_ | refine gO rfl ?_ | refine gP rfl (by repeat constructor) ?_) <;> conv => whnf) | (refine atCall 68 ?_; refine cE [0] [0] rfl rfl rfl rfl rfl (hgr) rfl ?_) | (refine atRet ?_; refine Nx.ret [0,9] Try.func63 rfl rfl ?_; (exact ⟨none, 0, rfl, rfl⟩)) | refine Nx.late ?_)
    | false =>
      have d2f := d2f rfl
      have d3' : n.lo ≠ greatF M.p.facts n.ring + 1 ∨ greatF M.p.facts n.ring + 8193 < n.lo := d3.imp (fun d => d.2) id
      repeat' (first | (refine atAr ?_; refine Ar.to (k := .i64) ((cnt : Int)) (by omega) ⟨by omega, by omega⟩ ?_; conv => whnf) | ((first | refine BrM.yes (by omega) ?_ | refine BrM.not (by omega) ?_ | refine BrM.t rfl ?_ | refine BrM.f rfl ?_ | refine BrM.dec (fun _ => ?_) (fun _ => ?_) | refine BrM.mk (fun _ => ?_) (fun _ => ?_) | refine Ar.i64 (by omega) (by omega) ?_ | refine gO rfl ?_ | refine gP rfl (by repeat constructor) ?_) <;> conv => whnf) | (refine atCall 68 ?_; refine cE [0] [0] rfl rfl rfl rfl rfl (hgr) rfl ?_) | (refine atRet ?_; refine Nx.ret [0,9] Try.func63 rfl rfl ?_; (exact ⟨none, 0, rfl, rfl⟩)) | refine Nx.late ?_)
  rw [if_neg d3]
  have d3a : many = false → n.lo = greatF M.p.facts n.ring + 1 := fun h => Decidable.byContradiction fun e => d3 (.inl ⟨h, e⟩)
  have d3b : ¬(greatF M.p.facts n.ring + 8193 < n.lo) := fun h => d3 (.inr h)
  have hheld := rHeld_ok M hm hql n.seq (by omega)
  rw [← hq] at hheld
  cases d4 : M.p.held n.ring n.seq with
  | true =>
    rw [if_pos rfl]
    rw [d4] at hheld
    cases many with
    | true =>
      have d2t := d2t rfl
      repeat' (first | (refine atAr ?_; refine Ar.to (k := .i64) ((cnt : Int)) (by omega) ⟨by omega, by omega⟩ ?_; conv => whnf) | ((first | refine BrM.yes (by omega) ?_ | refine BrM.not (by omega) ?_ | refine BrM.t rfl ?_ | refine BrM.f rfl ?_ | refine BrM.dec (fun _ => ?_) (fun _ => ?_) | refine BrM.mk (fun _ => ?_) (fun _ => ?_) | refine Ar.i64 (by omega) (by omega) ?_ | refine gO rfl ?_ | refine gP rfl (by repeat constructor) ?_) <;> conv => whnf) | (refine atCall 68 ?_; refine cE [0] [0] rfl rfl rfl rfl rfl (hgr) rfl ?_) | (refine atCall 15 ?_; refine cE [0] [0] rfl rfl rfl rfl rfl (hheld) rfl ?_) | (refine atRet ?_; refine Nx.ret [0,9] Try.func63 rfl rfl ?_; (exact ⟨none, 0, rfl, rfl⟩)) | refine Nx.late ?_)
    | false =>
      have d2f := d2f rfl
      have d3a := d3a rfl
      repeat' (first | (refine atAr ?_; refine Ar.to (k := .i64) ((cnt : Int)) (by omega) ⟨by omega, by omega⟩ ?_; conv => whnf) | ((first | refine BrM.yes (by omega) ?_ | refine BrM.not (by omega) ?_ | refine BrM.t rfl ?_ | refine BrM.f rfl ?_ | refine BrM.dec (fun _ => ?_) (fun _ => ?_) | refine BrM.mk (fun _ => ?_) (fun _ => ?_) | refine Ar.i64 (by omega) (by omega) ?_ | refine gO rfl ?_ | refine gP rfl (by repeat constructor) ?_) <;> conv => whnf) | (refine atCall 68 ?_; refine cE [0] [0] rfl rfl rfl rfl rfl (hgr) rfl ?_) | (refine atCall 15 ?_; refine cE [0] [0] rfl rfl rfl rfl rfl (hheld) rfl ?_) | (refine atRet ?_; refine Nx.ret [0,9] Try.func63 rfl rfl ?_; (exact ⟨none, 0, rfl, rfl⟩)) | refine Nx.late ?_)
  | false =>
  rw [if_neg (by decide)]
  rw [d4] at hheld
  have ecnt : ((cnt : Int)).toNat = cnt := by omega
  have esn : ((sn : Int)).toNat = sn := by omega
  rw [ecnt, esn]
  have e39 : oneV [Value.slice (resl c.A sn c.c Try.prog.types[39].size) cnt (c.c - sn), Value.int IntKind.i64 0] = Value.tuple #[Value.slice (resl c.A sn c.c 2) cnt (c.c - sn), Value.int IntKind.i64 0] := by rfl
  have hlen : ((c.l.drop sn).take cnt).length = cnt := by rw [List.length_take, List.length_drop]; omega
  refine Nx.fact (p := c.l.length ≤ c.c) 0 rfl (fun _ _ h => (RefH.wsq hwm hcm h).2) fun hfit => ?_
  have hpart : ∀ r h, M.sp r h → rdS (resl c.A sn c.c 2) cnt 2 (((c.l.drop sn).take cnt).flatMap evC) r PH.em := fun r h hs => by
    have := rd_part (l := sn) (h := sn + cnt) (k := c.c) (RefH.wsq hwm hcm hs).1 (by omega) (by omega) (by omega)
    rw [flat_part evC_len c.l sn (sn + cnt) (by omega), show sn + cnt - sn = cnt by omega] at this
    exact this
  refine Nx.also 0 8 (rdS (resl c.A sn c.c 2) cnt 2 (((c.l.drop sn).take cnt).flatMap evC)) rfl hpart ?_
  cases many with
  | true =>
    have d2t := d2t rfl
    by_cases hsn : 0 < sn
    · repeat' (first | (refine atAr ?_; refine Ar.to (k := .i64) ((cnt : Int)) (by omega) ⟨by omega, by omega⟩ ?_; conv => whnf) | ((first | refine BrM.yes (by omega) ?_ | refine BrM.not (by omega) ?_ | refine BrM.t rfl ?_ | refine BrM.f rfl ?_ | refine BrM.dec (fun _ => ?_) (fun _ => ?_) | refine BrM.mk (fun _ => ?_) (fun _ => ?_) | refine Ar.i64 (by omega) (by omega) ?_ | refine gO rfl ?_ | refine gP rfl (by repeat constructor) ?_) <;> conv => whnf) | (refine atCall 68 ?_; refine cE [0] [0] rfl rfl rfl rfl rfl (hgr) rfl ?_) | (refine atCall 15 ?_; refine cE [0] [0] rfl rfl rfl rfl rfl (hheld) rfl ?_) | refine Nx.late ?_)
      refine Nx.loop (X := Nat) (fun i => i ≤ cnt ∧ ∀ p : Nat, p < i → (eventF M.p.facts n.ring (n.lo + p)).isSome = false) (fun i => cnt - i)
        (fun i => [(0, .c (.v (ptr M.b))), (5, .c (.loc 5 0)), (8, sl c.A c.l.length c.c), (9, iv sn), (13, iv cnt), (15, iv (n.lo + i))]) (fun _ => [(5, 42, [.v (.int .i64 n.who), .v (.int .i64 n.ring), .v (.int .i64 n.deed), .v (.int .i64 n.lo), .v (.int .i64 n.seq), .v (.int .i64 n.x.key), .v (.int .i64 n.x.val), .v (.int .i64 n.code)])]) [] (fun _ => [(0, M.sp), (8, rdS (resl c.A sn c.c 2) cnt 2 (((c.l.drop sn).take cnt).flatMap evC)), (9, rdS none 0 2 [])]) 0 ⟨Nat.zero_le _, fun p hp => by omega⟩ ?_ ?_ ?_ ?_ ?_
      · exact .cons rfl rfl (.cons rfl rfl (.cons rfl rfl (.cons rfl rfl (.cons rfl rfl (.cons rfl (by simp) (.nil _))))))
      all_goals repeat (first | exact .nil _ | refine .cons rfl ?_ | refine .cons rfl rfl ?_ | refine .cons rfl rfl rfl ?_ | refine .cons' rfl (fun _ => rfl) ?_)
      intro i ⟨hi, hno⟩ ih
      by_cases hlt : i < cnt
      · have hE := rEvent_ok M hm n.ring (n.lo + i)
        cases hev : eventF M.p.facts n.ring (n.lo + i) with
        | some e =>
          rw [hev] at hE
          rw [anyEv_yes hlt (by rw [hev]; rfl), if_pos rfl]
          repeat' (first | ((first | refine BrM.yes (by omega) ?_ | refine BrM.t rfl ?_ | refine BrM.f rfl ?_ | refine BrM.dec (fun _ => ?_) (fun _ => ?_) | refine BrM.mk (fun _ => ?_) (fun _ => ?_) | refine Ar.i64 (by omega) (by omega) ?_ | refine gO rfl ?_ | refine gP rfl (by repeat constructor) ?_) <;> conv => whnf) | (refine atCall 13 ?_; refine cE [0] [0] rfl rfl rfl rfl rfl (hE) rfl ?_) | (refine atRet ?_; refine Nx.ret [0,9] Try.func63 rfl rfl ?_; (exact ⟨none, 0, rfl, rfl⟩)) | refine Nx.late ?_)
        | none =>
          rw [hev] at hE
          repeat' (first | ((first | refine BrM.yes (by omega) ?_ | refine BrM.t rfl ?_ | refine BrM.f rfl ?_ | refine BrM.dec (fun _ => ?_) (fun _ => ?_) | refine BrM.mk (fun _ => ?_) (fun _ => ?_) | refine Ar.i64 (by omega) (by omega) ?_ | refine gO rfl ?_ | refine gP rfl (by repeat constructor) ?_) <;> conv => whnf) | (refine atCall 13 ?_; refine cE [0] [0] rfl rfl rfl rfl rfl (hE) rfl ?_) | refine Nx.late ?_)
          refine (ih (i + 1) ⟨by omega, fun p hp => ?_⟩ (by omega)).weak ?_ ?_ ?_ ?_
          · by_cases e : p = i
            · subst e; rw [hev]; rfl
            · exact hno p (by omega)
          · exact .cons rfl rfl (.cons rfl rfl (.cons rfl rfl (.cons rfl rfl (.cons rfl rfl (.cons rfl (by simp; omega) (.nil _))))))
          all_goals repeat (first | exact .nil _ | refine .cons rfl ?_ | refine .cons rfl rfl ?_ | refine .cons rfl rfl rfl ?_ | refine .cons' rfl (fun _ => rfl) ?_)
      · rw [anyEv_nil (fun p hp => hno p (by omega)), if_neg (by decide)]
        repeat' (first | (refine atAr ?_; refine Ar.to (k := .i64) (((sn + cnt : Nat) : Int)) (by omega) ⟨by omega, by omega⟩ ?_; conv => whnf) | ((first | refine BrM.not (by omega) ?_ | refine BrM.t rfl ?_ | refine BrM.f rfl ?_ | refine BrM.dec (fun _ => ?_) (fun _ => ?_) | refine BrM.mk (fun _ => ?_) (fun _ => ?_) | refine Ar.i64 (by omega) (by omega) ?_ | refine gO rfl ?_ | refine gP rfl (by repeat constructor) ?_) <;> conv => whnf) | (refine atSlice ?_; refine Nx.reslice (l := sn) (h := (sn+cnt)) (m := c.c) rfl rfl Try.underlying36 rfl rfl (rfl) (rfl) (rfl) (by simp) (by omega) (by omega) (by omega) ?_) | (refine atRet ?_; refine Nx.ret [0,8] Try.func63 rfl rfl ?_; (exact ⟨resl c.A sn c.c 2, c.c - sn, by dsimp only; rw [hlen, show sn + cnt - sn = cnt by omega]; exact e39, by dsimp only; rw [hlen]⟩)) | refine Nx.late ?_)
    · repeat' (first | (refine atAr ?_; refine Ar.to (k := .i64) ((cnt : Int)) (by omega) ⟨by omega, by omega⟩ ?_; conv => whnf) | ((first | refine BrM.yes (by omega) ?_ | refine BrM.not (by omega) ?_ | refine BrM.t rfl ?_ | refine BrM.f rfl ?_ | refine BrM.dec (fun _ => ?_) (fun _ => ?_) | refine BrM.mk (fun _ => ?_) (fun _ => ?_) | refine Ar.i64 (by omega) (by omega) ?_ | refine gO rfl ?_ | refine gP rfl (by repeat constructor) ?_) <;> conv => whnf) | (refine atCall 68 ?_; refine cE [0] [0] rfl rfl rfl rfl rfl (hgr) rfl ?_) | (refine atCall 15 ?_; refine cE [0] [0] rfl rfl rfl rfl rfl (hheld) rfl ?_) | refine Nx.late ?_)
      refine Nx.loop (X := Nat) (fun i => i ≤ cnt ∧ ∀ p : Nat, p < i → (eventF M.p.facts n.ring (n.lo + p)).isSome = false) (fun i => cnt - i)
        (fun i => [(0, .c (.v (ptr M.b))), (5, .c (.loc 5 0)), (8, sl c.A c.l.length c.c), (9, iv sn), (13, iv cnt), (15, iv (n.lo + i))]) (fun _ => [(5, 42, [.v (.int .i64 n.who), .v (.int .i64 n.ring), .v (.int .i64 n.deed), .v (.int .i64 n.lo), .v (.int .i64 n.seq), .v (.int .i64 n.x.key), .v (.int .i64 n.x.val), .v (.int .i64 n.code)])]) [] (fun _ => [(0, M.sp), (8, rdS (resl c.A sn c.c 2) cnt 2 (((c.l.drop sn).take cnt).flatMap evC)), (9, rdS none 0 2 [])]) 0 ⟨Nat.zero_le _, fun p hp => by omega⟩ ?_ ?_ ?_ ?_ ?_
      · exact .cons rfl rfl (.cons rfl rfl (.cons rfl rfl (.cons rfl rfl (.cons rfl rfl (.cons rfl (by simp) (.nil _))))))
      all_goals repeat (first | exact .nil _ | refine .cons rfl ?_ | refine .cons rfl rfl ?_ | refine .cons rfl rfl rfl ?_ | refine .cons' rfl (fun _ => rfl) ?_)
      intro i ⟨hi, hno⟩ ih
      by_cases hlt : i < cnt
      · have hE := rEvent_ok M hm n.ring (n.lo + i)
        cases hev : eventF M.p.facts n.ring (n.lo + i) with
        | some e =>
          rw [hev] at hE
          rw [anyEv_yes hlt (by rw [hev]; rfl), if_pos rfl]
          repeat' (first | ((first | refine BrM.yes (by omega) ?_ | refine BrM.t rfl ?_ | refine BrM.f rfl ?_ | refine BrM.dec (fun _ => ?_) (fun _ => ?_) | refine BrM.mk (fun _ => ?_) (fun _ => ?_) | refine Ar.i64 (by omega) (by omega) ?_ | refine gO rfl ?_ | refine gP rfl (by repeat constructor) ?_) <;> conv => whnf) | (refine atCall 13 ?_; refine cE [0] [0] rfl rfl rfl rfl rfl (hE) rfl ?_) | (refine atRet ?_; refine Nx.ret [0,9] Try.func63 rfl rfl ?_; (exact ⟨none, 0, rfl, rfl⟩)) | refine Nx.late ?_)
        | none =>
          rw [hev] at hE
          repeat' (first | ((first | refine BrM.yes (by omega) ?_ | refine BrM.t rfl ?_ | refine BrM.f rfl ?_ | refine BrM.dec (fun _ => ?_) (fun _ => ?_) | refine BrM.mk (fun _ => ?_) (fun _ => ?_) | refine Ar.i64 (by omega) (by omega) ?_ | refine gO rfl ?_ | refine gP rfl (by repeat constructor) ?_) <;> conv => whnf) | (refine atCall 13 ?_; refine cE [0] [0] rfl rfl rfl rfl rfl (hE) rfl ?_) | refine Nx.late ?_)
          refine (ih (i + 1) ⟨by omega, fun p hp => ?_⟩ (by omega)).weak ?_ ?_ ?_ ?_
          · by_cases e : p = i
            · subst e; rw [hev]; rfl
            · exact hno p (by omega)
          · exact .cons rfl rfl (.cons rfl rfl (.cons rfl rfl (.cons rfl rfl (.cons rfl rfl (.cons rfl (by simp; omega) (.nil _))))))
          all_goals repeat (first | exact .nil _ | refine .cons rfl ?_ | refine .cons rfl rfl ?_ | refine .cons rfl rfl rfl ?_ | refine .cons' rfl (fun _ => rfl) ?_)
      · rw [anyEv_nil (fun p hp => hno p (by omega)), if_neg (by decide)]
        repeat' (first | (refine atAr ?_; refine Ar.to (k := .i64) (((sn + cnt : Nat) : Int)) (by omega) ⟨by omega, by omega⟩ ?_; conv => whnf) | ((first | refine BrM.not (by omega) ?_ | refine BrM.t rfl ?_ | refine BrM.f rfl ?_ | refine BrM.dec (fun _ => ?_) (fun _ => ?_) | refine BrM.mk (fun _ => ?_) (fun _ => ?_) | refine Ar.i64 (by omega) (by omega) ?_ | refine gO rfl ?_ | refine gP rfl (by repeat constructor) ?_) <;> conv => whnf) | (refine atSlice ?_; refine Nx.reslice (l := sn) (h := (sn+cnt)) (m := c.c) rfl rfl Try.underlying36 rfl rfl (rfl) (rfl) (rfl) (by simp) (by omega) (by omega) (by omega) ?_) | (refine atRet ?_; refine Nx.ret [0,8] Try.func63 rfl rfl ?_; (exact ⟨resl c.A sn c.c 2, c.c - sn, by dsimp only; rw [hlen, show sn + cnt - sn = cnt by omega]; exact e39, by dsimp only; rw [hlen]⟩)) | refine Nx.late ?_)
  | false =>
    have d2f := d2f rfl
    have d3a := d3a rfl
    repeat' (first | (refine atAr ?_; refine Ar.to (k := .i64) ((cnt : Int)) (by omega) ⟨by omega, by omega⟩ ?_; conv => whnf) | ((first | refine BrM.yes (by omega) ?_ | refine BrM.not (by omega) ?_ | refine BrM.t rfl ?_ | refine BrM.f rfl ?_ | refine BrM.dec (fun _ => ?_) (fun _ => ?_) | refine BrM.mk (fun _ => ?_) (fun _ => ?_) | refine Ar.i64 (by omega) (by omega) ?_ | refine gO rfl ?_ | refine gP rfl (by repeat constructor) ?_) <;> conv => whnf) | (refine atCall 68 ?_; refine cE [0] [0] rfl rfl rfl rfl rfl (hgr) rfl ?_) | (refine atCall 15 ?_; refine cE [0] [0] rfl rfl rfl rfl rfl (hheld) rfl ?_) | refine Nx.late ?_)
    refine Nx.loop (X := Nat) (fun i => i ≤ cnt ∧ ∀ p : Nat, p < i → (eventF M.p.facts n.ring (n.lo + p)).isSome = false) (fun i => cnt - i)
      (fun i => [(0, .c (.v (ptr M.b))), (5, .c (.loc 5 0)), (8, sl c.A c.l.length c.c), (9, iv sn), (13, iv cnt), (15, iv (n.lo + i))]) (fun _ => [(5, 42, [.v (.int .i64 n.who), .v (.int .i64 n.ring), .v (.int .i64 n.deed), .v (.int .i64 n.lo), .v (.int .i64 n.seq), .v (.int .i64 n.x.key), .v (.int .i64 n.x.val), .v (.int .i64 n.code)])]) [] (fun _ => [(0, M.sp), (8, rdS (resl c.A sn c.c 2) cnt 2 (((c.l.drop sn).take cnt).flatMap evC)), (9, rdS none 0 2 [])]) 0 ⟨Nat.zero_le _, fun p hp => by omega⟩ ?_ ?_ ?_ ?_ ?_
    · exact .cons rfl rfl (.cons rfl rfl (.cons rfl rfl (.cons rfl rfl (.cons rfl rfl (.cons rfl (by simp) (.nil _))))))
    all_goals repeat (first | exact .nil _ | refine .cons rfl ?_ | refine .cons rfl rfl ?_ | refine .cons rfl rfl rfl ?_ | refine .cons' rfl (fun _ => rfl) ?_)
    intro i ⟨hi, hno⟩ ih
    by_cases hlt : i < cnt
    · have hE := rEvent_ok M hm n.ring (n.lo + i)
      cases hev : eventF M.p.facts n.ring (n.lo + i) with
      | some e =>
        rw [hev] at hE
        rw [anyEv_yes hlt (by rw [hev]; rfl), if_pos rfl]
        repeat' (first | ((first | refine BrM.yes (by omega) ?_ | refine BrM.t rfl ?_ | refine BrM.f rfl ?_ | refine BrM.dec (fun _ => ?_) (fun _ => ?_) | refine BrM.mk (fun _ => ?_) (fun _ => ?_) | refine Ar.i64 (by omega) (by omega) ?_ | refine gO rfl ?_ | refine gP rfl (by repeat constructor) ?_) <;> conv => whnf) | (refine atCall 13 ?_; refine cE [0] [0] rfl rfl rfl rfl rfl (hE) rfl ?_) | (refine atRet ?_; refine Nx.ret [0,9] Try.func63 rfl rfl ?_; (exact ⟨none, 0, rfl, rfl⟩)) | refine Nx.late ?_)
      | none =>
        rw [hev] at hE
        repeat' (first | ((first | refine BrM.yes (by omega) ?_ | refine BrM.t rfl ?_ | refine BrM.f rfl ?_ | refine BrM.dec (fun _ => ?_) (fun _ => ?_) | refine BrM.mk (fun _ => ?_) (fun _ => ?_) | refine Ar.i64 (by omega) (by omega) ?_ | refine gO rfl ?_ | refine gP rfl (by repeat constructor) ?_) <;> conv => whnf) | (refine atCall 13 ?_; refine cE [0] [0] rfl rfl rfl rfl rfl (hE) rfl ?_) | refine Nx.late ?_)
        refine (ih (i + 1) ⟨by omega, fun p hp => ?_⟩ (by omega)).weak ?_ ?_ ?_ ?_
        · by_cases e : p = i
          · subst e; rw [hev]; rfl
          · exact hno p (by omega)
        · exact .cons rfl rfl (.cons rfl rfl (.cons rfl rfl (.cons rfl rfl (.cons rfl rfl (.cons rfl (by simp; omega) (.nil _))))))
        all_goals repeat (first | exact .nil _ | refine .cons rfl ?_ | refine .cons rfl rfl ?_ | refine .cons rfl rfl rfl ?_ | refine .cons' rfl (fun _ => rfl) ?_)
    · rw [anyEv_nil (fun p hp => hno p (by omega)), if_neg (by decide)]
      repeat' (first | (refine atAr ?_; refine Ar.to (k := .i64) (((sn + cnt : Nat) : Int)) (by omega) ⟨by omega, by omega⟩ ?_; conv => whnf) | ((first | refine BrM.not (by omega) ?_ | refine BrM.t rfl ?_ | refine BrM.f rfl ?_ | refine BrM.dec (fun _ => ?_) (fun _ => ?_) | refine BrM.mk (fun _ => ?_) (fun _ => ?_) | refine Ar.i64 (by omega) (by omega) ?_ | refine gO rfl ?_ | refine gP rfl (by repeat constructor) ?_) <;> conv => whnf) | (refine atSlice ?_; refine Nx.reslice (l := sn) (h := (sn+cnt)) (m := c.c) rfl rfl Try.underlying36 rfl rfl (rfl) (rfl) (rfl) (by simp) (by omega) (by omega) (by omega) ?_) | (refine atRet ?_; refine Nx.ret [0,8] Try.func63 rfl rfl ?_; (exact ⟨resl c.A sn c.c 2, c.c - sn, by dsimp only; rw [hlen, show sn + cnt - sn = cnt by omega]; exact e39, by dsimp only; rw [hlen]⟩)) | refine Nx.late ?_)
end Go.Proofs.Ytngfadijcpnblaa
