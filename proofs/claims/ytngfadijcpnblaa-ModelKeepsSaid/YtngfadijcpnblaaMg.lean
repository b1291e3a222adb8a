/- ModelPlays, walked. -/
import Derived.Test.YtngfadijcpnblaaMf
set_option linter.unusedSimpArgs false
set_option linter.unusedVariables false
/- ModelPlays and ModelKeeps: one operation in both. -/
namespace Go.Proofs.Ytngfadijcpnblaa
open Go.RowKit
set_option maxRecDepth 20000
set_option maxHeartbeats 8000000
theorem TkQ.c {b : Nat} {r : MdR × Int} {c : Int} {v : Value} {Q : List SP} (e : r.2 = c) (h : TkQ b r v Q) : ∃ W' : RefH, W'.b = b ∧ W'.p = r.1 ∧ v = .int .i64 c ∧ Q = [W'.sp] := by
  obtain ⟨W', a, d, rfl, hq⟩ := h
  exact ⟨W', a, d, by rw [e], hq⟩
theorem LogQ.z {b : Nat} {r : MdP × Int} {v : Value} {Q : List SP} (e : r.2 = 0) (h : LogQ b r v Q) : ∃ M' : MdH, M'.b = b ∧ M'.p = r.1 ∧ v = .tuple #[.int .i64 ((r.1.logs.length : Int) - 1), .nilIface] ∧ Q = [M'.sp] := by
  obtain ⟨v', rfl, h⟩ := h
  obtain ⟨M', a, c, rfl, hq⟩ := h.z e
  rw [if_pos e]
  exact ⟨M', a, c, rfl, hq⟩
theorem LogQ.nz {b : Nat} {r : MdP × Int} {v : Value} {Q : List SP} (e : r.2 ≠ 0) (h : LogQ b r v Q) : ∃ M' : MdH, ∃ b' q, M'.b = b ∧ M'.p = r.1 ∧ v = .tuple #[.int .i64 0, .iface 130 (.pointer (some ⟨b', 0, none⟩))] ∧ Q = [M'.sp, errB b' q r.2] := by
  obtain ⟨v', rfl, h⟩ := h
  obtain ⟨M', b', q, a, c, rfl, hq⟩ := h.nz e
  rw [if_neg e]
  exact ⟨M', b', q, a, c, rfl, hq⟩
/-- What an operation in both comes to. -/
def DoQ (M : MdH) (W : RefH) (o : Opn) (v : Value) (Q : List SP) : Prop := ∃ M' : MdH, ∃ W' : RefH, M'.b = M.b ∧ W'.b = W.b ∧ M'.p = (M.p.op o).1 ∧ W'.p = (W.p.op o).1 ∧ v = .bool true ∧ Q = [M'.sp, W'.sp]
attribute [local irreducible] Nx Ar BrM headC OneC HoC AftC planHead endF
theorem do_ok (m : PH) (M : MdH) (W : RefH) (hs : Sim M.p W.p) (hm : MdW M.p) (hv : MdV W.p) (x : OpH) (ok : OpOk m x) (sm : OpS x) : FnOk Try.prog 10 [ptr M.b, ptr W.b, x.v] [M.sp, W.sp, roAll m] (DoQ M W x.o) := by
  obtain ⟨s1, s2, s3⟩ := sm
  have hso := hs.op x.o
  unfold DoQ
  unfold OpH.v
  by_cases k0 : x.o.kind = 0
  · have eP : M.p.op x.o = M.p.addLog x.o.from' x.o.many := by unfold MdP.op; rw [if_pos k0]
    have eW : W.p.op x.o = W.p.addLog x.o.from' x.o.many := by unfold MdR.op; rw [if_pos k0]
    rw [eP, eW] at hso ⊢
    have hp := Log_ok M hm x.o.from' x.o.many
    have hr := rAddLog_ok W hv x.o.from' x.o.many
    obtain ⟨hc1, hS⟩ := hso
    have hlen := hS.len_l
    by_cases hc : (W.p.addLog x.o.from' x.o.many).2 = 0
    · have hp0 := hp.mono fun _ _ h => h.z (hc1.trans hc)
      have hr0 := hr.mono fun _ _ h => h.c hc
      refine FnOk.start Try.func10 rfl rfl rfl rfl fun F os tape output => ?_
      refine go 200 ?_
      conv => whnf
      repeat' (first | ((first | refine BrM.yes (by omega) ?_ | refine BrM.t rfl ?_ | refine BrM.f rfl ?_ | refine BrM.dec (fun _ => ?_) (fun _ => ?_) | refine BrM.mk (fun _ => ?_) (fun _ => ?_) | refine Ar.i64 (by omega) (by omega) ?_ | refine gO rfl ?_ | refine gP rfl (by repeat constructor) ?_) <;> conv => whnf) | (refine (atCall 19) ?_; refine Nx.call [0] [0] rfl rfl rfl rfl rfl (hp0) rfl fun v Q hQ => ?_; obtain ⟨M',eb,ep,rfl,rfl⟩ := hQ) | (refine (atCall 26) ?_; refine Nx.call [1] [1] rfl rfl rfl rfl rfl (hr0) rfl fun v Q hQ => ?_; obtain ⟨W',wb,wp,rfl,rfl⟩ := hQ) | (refine atCall 20 ?_; refine cE [] [] rfl rfl rfl rfl rfl ((Is_nil 0)) rfl ?_) | refine Nx.late ?_)
      have hW0 : SeesAt W'.sp W.b 0 W'.cells := wb ▸ W'.seeB
      have hw0 := hW0.sub 0 rfl
      have e1 : ((M.p.addLog x.o.from' x.o.many).1.logs.length : Int) = W'.logs.length := by
        rw [hlen, ← wp]; rfl
      have hw8 : W'.logs.length ≤ 512 := by
        have : W'.logs.length = W'.p.logs.length := rfl
        rw [this, wp]
        unfold MdR.addLog
        have := hv.nl
        split
        · dsimp only; omega
        split
        · dsimp only; omega
        · dsimp only; rw [List.length_append, List.length_singleton]; omega
      repeat' (first | ((first | refine BrM.yes (by omega) ?_ | refine BrM.not (by omega) ?_ | refine BrM.t rfl ?_ | refine BrM.f rfl ?_ | refine BrM.dec (fun _ => ?_) (fun _ => ?_) | refine BrM.mk (fun _ => ?_) (fun _ => ?_) | refine Ar.i64 (by omega) (by omega) ?_ | refine gO rfl ?_ | refine gP rfl (by repeat constructor) ?_) <;> conv => whnf) | (refine atLoad ?_; refine Nx.load1 1 rfl rfl rfl rfl (hw0) rfl ?_) | (refine atRet ?_; refine Nx.ret [0,1] Try.func10 rfl rfl ?_; (exact ⟨M', W', eb, wb, ep, wp, by simp [oneV, e1], rfl⟩)) | refine Nx.late ?_)
    · have hp0 := hp.mono fun _ _ h => h.nz (fun e => hc (hc1.symm.trans e))
      have hr0 := hr.mono fun _ _ h => h.c rfl
      rw [hc1] at hp0
      refine FnOk.start Try.func10 rfl rfl rfl rfl fun F os tape output => ?_
      refine go 200 ?_
      conv => whnf
      repeat' (first | ((first | refine BrM.yes (by omega) ?_ | refine BrM.not (by omega) ?_ | refine BrM.t rfl ?_ | refine BrM.f rfl ?_ | refine BrM.dec (fun _ => ?_) (fun _ => ?_) | refine BrM.mk (fun _ => ?_) (fun _ => ?_) | refine Ar.i64 (by omega) (by omega) ?_ | refine gO rfl ?_ | refine gP rfl (by repeat constructor) ?_) <;> conv => whnf) | (refine (atCall 19) ?_; refine Nx.call [0] [0,9] rfl rfl rfl rfl rfl (hp0) rfl fun v Q hQ => ?_; obtain ⟨M',b',q',eb,ep,rfl,rfl⟩ := hQ) | (refine (atCall 26) ?_; refine Nx.call [1] [1] rfl rfl rfl rfl rfl (hr0) rfl fun v Q hQ => ?_; obtain ⟨W',wb,wp,rfl,rfl⟩ := hQ) | (refine atCall 20 ?_; refine cE [9] [9] rfl rfl rfl rfl rfl ((Is_err _ _ _ _ hc)) rfl ?_) | (refine atBr ?_; refine BrM.t (by simp) ?_; conv => whnf) | (refine atRet ?_; refine Nx.ret [0,1] Try.func10 rfl rfl ?_; (exact ⟨M', W', eb, wb, ep, wp, rfl, rfl⟩)) | refine Nx.late ?_)
  by_cases k1 : x.o.kind = 1
  · have eP : M.p.op x.o = M.p.addWriter x.o.who x.o.ring := by unfold MdP.op; rw [if_neg k0, if_pos k1]
    have eW : W.p.op x.o = W.p.addWriter x.o.who x.o.ring := by unfold MdR.op; rw [if_neg k0, if_pos k1]
    rw [eP, eW] at hso ⊢
    have hp := Writer_ok M hm x.o.who x.o.ring
    have hr := rAddWriter_ok W hv x.o.who x.o.ring
    obtain ⟨hc1, hS⟩ := hso
    by_cases hc : (W.p.addWriter x.o.who x.o.ring).2 = 0
    · have hp0 := hp.mono fun _ _ h => h.z (hc1.trans hc)
      have hr0 := hr.mono fun _ _ h => h.c hc
      refine FnOk.start Try.func10 rfl rfl rfl rfl fun F os tape output => ?_
      refine go 200 ?_
      conv => whnf
      repeat' (first | ((first | refine BrM.yes (by omega) ?_ | refine BrM.not (by omega) ?_ | refine BrM.t rfl ?_ | refine BrM.f rfl ?_ | refine BrM.dec (fun _ => ?_) (fun _ => ?_) | refine BrM.mk (fun _ => ?_) (fun _ => ?_) | refine Ar.i64 (by omega) (by omega) ?_ | refine gO rfl ?_ | refine gP rfl (by repeat constructor) ?_) <;> conv => whnf) | (fail) | refine Nx.late ?_)
      refine Nx.bind (l := 5) (fun b5 => ?_) rfl
      repeat' (first | ((first | refine BrM.yes (by omega) ?_ | refine BrM.not (by omega) ?_ | refine BrM.t rfl ?_ | refine BrM.f rfl ?_ | refine BrM.dec (fun _ => ?_) (fun _ => ?_) | refine BrM.mk (fun _ => ?_) (fun _ => ?_) | refine Ar.i64 (by omega) (by omega) ?_ | refine gO rfl ?_ | refine gP rfl (by repeat constructor) ?_) <;> conv => whnf) | (refine dN 7 [] [0,4,9,12,17,24,28,33,36,41,22,46,50,52] rfl (by kernel_rfl) rfl (by kernel_rfl) rfl (by repeat constructor) rfl ?_) | (refine atHoLoad ?_; first | refine hL1 rfl rfl rfl rfl (SeesAt.sub (by assumption) _ rfl) (by repeat constructor) rfl ?_ | refine hL1 rfl rfl rfl rfl (by assumption) (by repeat constructor) rfl ?_ | refine hLm rfl rfl rfl rfl (by assumption) (by repeat constructor) rfl rfl ?_) | (refine (atCall 21) ?_; refine Nx.call [0] [0] rfl rfl rfl rfl rfl (hp0) rfl fun v Q hQ => ?_; obtain ⟨M',eb,ep,rfl,rfl⟩ := hQ) | (refine (atCall 27) ?_; refine Nx.call [1] [1] rfl rfl rfl rfl rfl (hr0) rfl fun v Q hQ => ?_; obtain ⟨W',wb,wp,rfl,rfl⟩ := hQ) | (refine atAftK ?_; refine Nx.keepN [] rfl (by repeat constructor) (by repeat constructor) rfl ?_) | (refine atCall 20 ?_; refine cE [] [] rfl rfl rfl rfl rfl ((Is_nil 0)) rfl ?_) | (refine atRet ?_; refine Nx.ret [0,1] Try.func10 rfl rfl ?_; (exact ⟨M', W', eb, wb, ep, wp, rfl, rfl⟩)) | refine Nx.late ?_)
    · have hp0 := hp.mono fun _ _ h => h.nz (fun e => hc (hc1.symm.trans e))
      have hr0 := hr.mono fun _ _ h => h.c rfl
      rw [hc1] at hp0
      refine FnOk.start Try.func10 rfl rfl rfl rfl fun F os tape output => ?_
      refine go 200 ?_
      conv => whnf
      repeat' (first | ((first | refine BrM.yes (by omega) ?_ | refine BrM.not (by omega) ?_ | refine BrM.t rfl ?_ | refine BrM.f rfl ?_ | refine BrM.dec (fun _ => ?_) (fun _ => ?_) | refine BrM.mk (fun _ => ?_) (fun _ => ?_) | refine Ar.i64 (by omega) (by omega) ?_ | refine gO rfl ?_ | refine gP rfl (by repeat constructor) ?_) <;> conv => whnf) | (fail) | refine Nx.late ?_)
      refine Nx.bind (l := 5) (fun b5 => ?_) rfl
      repeat' (first | ((first | refine BrM.yes (by omega) ?_ | refine BrM.not (by omega) ?_ | refine BrM.t rfl ?_ | refine BrM.f rfl ?_ | refine BrM.dec (fun _ => ?_) (fun _ => ?_) | refine BrM.mk (fun _ => ?_) (fun _ => ?_) | refine Ar.i64 (by omega) (by omega) ?_ | refine gO rfl ?_ | refine gP rfl (by repeat constructor) ?_) <;> conv => whnf) | (refine dN 7 [] [0,4,9,12,17,24,28,33,36,41,22,46,50,52] rfl (by kernel_rfl) rfl (by kernel_rfl) rfl (by repeat constructor) rfl ?_) | (refine atHoLoad ?_; first | refine hL1 rfl rfl rfl rfl (SeesAt.sub (by assumption) _ rfl) (by repeat constructor) rfl ?_ | refine hL1 rfl rfl rfl rfl (by assumption) (by repeat constructor) rfl ?_ | refine hLm rfl rfl rfl rfl (by assumption) (by repeat constructor) rfl rfl ?_) | (refine (atCall 21) ?_; refine Nx.call [0] [0,9] rfl rfl rfl rfl rfl (hp0) rfl fun v Q hQ => ?_; obtain ⟨M',b',q',eb,ep,rfl,rfl⟩ := hQ) | (refine (atCall 27) ?_; refine Nx.call [1] [1] rfl rfl rfl rfl rfl (hr0) rfl fun v Q hQ => ?_; obtain ⟨W',wb,wp,rfl,rfl⟩ := hQ) | (refine atAftK ?_; refine Nx.keepN [] rfl (by repeat constructor) (by repeat constructor) rfl ?_) | (refine atCall 20 ?_; refine cE [9] [9] rfl rfl rfl rfl rfl ((Is_err _ _ _ _ hc)) rfl ?_) | (refine atRet ?_; refine Nx.ret [0,1] Try.func10 rfl rfl ?_; (exact ⟨M', W', eb, wb, ep, wp, by simp [oneV], rfl⟩)) | refine Nx.late ?_)
  by_cases k2 : x.o.kind = 2
  · have eP : M.p.op x.o = M.p.addReader x.o.who x.o.ring x.o.from' x.o.ahead := by unfold MdP.op; rw [if_neg k0, if_neg k1, if_pos k2]
    have eW : W.p.op x.o = W.p.addReader x.o.who x.o.ring x.o.from' x.o.ahead := by unfold MdR.op; rw [if_neg k0, if_neg k1, if_pos k2]
    rw [eP, eW] at hso ⊢
    have hp := Reader_ok M hm x.o.who x.o.ring x.o.from' x.o.ahead x.hA x.hC (by omega)
    have hr := rAddReader_ok W hv x.o.who x.o.ring x.o.from' x.o.ahead x.hA x.hC (by omega)
    obtain ⟨hc1, hS⟩ := hso
    by_cases hc : (W.p.addReader x.o.who x.o.ring x.o.from' x.o.ahead).2 = 0
    · have hp0 := hp.mono fun _ _ h => h.z (hc1.trans hc)
      have hr0 := hr.mono fun _ _ h => h.c hc
      refine FnOk.start Try.func10 rfl rfl rfl rfl fun F os tape output => ?_
      refine Nx.also 2 5 (rdS x.hA x.o.ahead.length 1 (x.o.ahead.flatMap inC)) rfl (ro_rdS ok.rh) ?_
      refine Nx.also 2 6 (rdS x.hA x.o.ahead.length 1 (x.o.ahead.flatMap inC)) rfl (ro_rdS ok.rh) ?_
      refine go 200 ?_
      conv => whnf
      repeat' (first | ((first | refine BrM.yes (by omega) ?_ | refine BrM.not (by omega) ?_ | refine BrM.t rfl ?_ | refine BrM.f rfl ?_ | refine BrM.dec (fun _ => ?_) (fun _ => ?_) | refine BrM.mk (fun _ => ?_) (fun _ => ?_) | refine Ar.i64 (by omega) (by omega) ?_ | refine gO rfl ?_ | refine gP rfl (by repeat constructor) ?_) <;> conv => whnf) | (fail) | refine Nx.late ?_)
      refine Nx.bind (l := 5) (fun b5 => ?_) rfl
      repeat' (first | ((first | refine BrM.yes (by omega) ?_ | refine BrM.not (by omega) ?_ | refine BrM.t rfl ?_ | refine BrM.f rfl ?_ | refine BrM.dec (fun _ => ?_) (fun _ => ?_) | refine BrM.mk (fun _ => ?_) (fun _ => ?_) | refine Ar.i64 (by omega) (by omega) ?_ | refine gO rfl ?_ | refine gP rfl (by repeat constructor) ?_) <;> conv => whnf) | (refine dN 9 [] [0,4,9,12,17,20,25,28,33,40,44,49,52,57,60,65,68,73,38,78,82,84] rfl (by kernel_rfl) rfl (by kernel_rfl) rfl (by repeat constructor) rfl ?_) | (refine atHoLoad ?_; first | refine hL1 rfl rfl rfl rfl (SeesAt.sub (by assumption) _ rfl) (by repeat constructor) rfl ?_ | refine hL1 rfl rfl rfl rfl (by assumption) (by repeat constructor) rfl ?_ | refine hLm rfl rfl rfl rfl (by assumption) (by repeat constructor) rfl rfl ?_) | (refine (atCall 22) ?_; refine Nx.call [0,5] [0] rfl rfl rfl rfl rfl (hp0) rfl fun v Q hQ => ?_; obtain ⟨M',eb,ep,rfl,rfl⟩ := hQ) | (refine (atCall 28) ?_; refine Nx.call [1,6] [1] rfl rfl rfl rfl rfl (hr0) rfl fun v Q hQ => ?_; obtain ⟨W',wb,wp,rfl,rfl⟩ := hQ) | (refine atAftK ?_; refine Nx.keepN [] rfl (by repeat constructor) (by repeat constructor) rfl ?_) | (refine atCall 20 ?_; refine cE [] [] rfl rfl rfl rfl rfl ((Is_nil 0)) rfl ?_) | (refine atRet ?_; refine Nx.ret [0,1] Try.func10 rfl rfl ?_; (exact ⟨M', W', eb, wb, ep, wp, rfl, rfl⟩)) | refine Nx.late ?_)
    · have hp0 := hp.mono fun _ _ h => h.nz (fun e => hc (hc1.symm.trans e))
      have hr0 := hr.mono fun _ _ h => h.c rfl
      rw [hc1] at hp0
      refine FnOk.start Try.func10 rfl rfl rfl rfl fun F os tape output => ?_
      refine Nx.also 2 5 (rdS x.hA x.o.ahead.length 1 (x.o.ahead.flatMap inC)) rfl (ro_rdS ok.rh) ?_
      refine Nx.also 2 6 (rdS x.hA x.o.ahead.length 1 (x.o.ahead.flatMap inC)) rfl (ro_rdS ok.rh) ?_
      refine go 200 ?_
      conv => whnf
      repeat' (first | ((first | refine BrM.yes (by omega) ?_ | refine BrM.not (by omega) ?_ | refine BrM.t rfl ?_ | refine BrM.f rfl ?_ | refine BrM.dec (fun _ => ?_) (fun _ => ?_) | refine BrM.mk (fun _ => ?_) (fun _ => ?_) | refine Ar.i64 (by omega) (by omega) ?_ | refine gO rfl ?_ | refine gP rfl (by repeat constructor) ?_) <;> conv => whnf) | (fail) | refine Nx.late ?_)
      refine Nx.bind (l := 5) (fun b5 => ?_) rfl
      repeat' (first | ((first | refine BrM.yes (by omega) ?_ | refine BrM.not (by omega) ?_ | refine BrM.t rfl ?_ | refine BrM.f rfl ?_ | refine BrM.dec (fun _ => ?_) (fun _ => ?_) | refine BrM.mk (fun _ => ?_) (fun _ => ?_) | refine Ar.i64 (by omega) (by omega) ?_ | refine gO rfl ?_ | refine gP rfl (by repeat constructor) ?_) <;> conv => whnf) | (refine dN 9 [] [0,4,9,12,17,20,25,28,33,40,44,49,52,57,60,65,68,73,38,78,82,84] rfl (by kernel_rfl) rfl (by kernel_rfl) rfl (by repeat constructor) rfl ?_) | (refine atHoLoad ?_; first | refine hL1 rfl rfl rfl rfl (SeesAt.sub (by assumption) _ rfl) (by repeat constructor) rfl ?_ | refine hL1 rfl rfl rfl rfl (by assumption) (by repeat constructor) rfl ?_ | refine hLm rfl rfl rfl rfl (by assumption) (by repeat constructor) rfl rfl ?_) | (refine (atCall 22) ?_; refine Nx.call [0,5] [0,9] rfl rfl rfl rfl rfl (hp0) rfl fun v Q hQ => ?_; obtain ⟨M',b',q',eb,ep,rfl,rfl⟩ := hQ) | (refine (atCall 28) ?_; refine Nx.call [1,6] [1] rfl rfl rfl rfl rfl (hr0) rfl fun v Q hQ => ?_; obtain ⟨W',wb,wp,rfl,rfl⟩ := hQ) | (refine atAftK ?_; refine Nx.keepN [] rfl (by repeat constructor) (by repeat constructor) rfl ?_) | (refine atCall 20 ?_; refine cE [9] [9] rfl rfl rfl rfl rfl ((Is_err _ _ _ _ hc)) rfl ?_) | (refine atRet ?_; refine Nx.ret [0,1] Try.func10 rfl rfl ?_; (exact ⟨M', W', eb, wb, ep, wp, by simp [oneV], rfl⟩)) | refine Nx.late ?_)
  by_cases k3 : x.o.kind = 3
  · have eP : M.p.op x.o = M.p.addPool x.o.ring x.o.from' x.o.all x.o.ahead := by unfold MdP.op; rw [if_neg k0, if_neg k1, if_neg k2, if_pos k3]
    have eW : W.p.op x.o = W.p.addPool x.o.ring x.o.from' x.o.all x.o.ahead := by unfold MdR.op; rw [if_neg k0, if_neg k1, if_neg k2, if_pos k3]
    rw [eP, eW] at hso ⊢
    have hp := Pool_ok M hm x.o.ring x.o.from' x.o.all x.o.ahead x.aA x.aC x.hA x.hC (by omega) ok.ca (by omega)
    have hr := rAddPool_ok W hv x.o.ring x.o.from' x.o.all x.o.ahead x.aA x.aC x.hA x.hC (by omega) (by omega)
    obtain ⟨hc1, hS⟩ := hso
    by_cases hc : (W.p.addPool x.o.ring x.o.from' x.o.all x.o.ahead).2 = 0
    · have hp0 := hp.mono fun _ _ h => h.z (hc1.trans hc)
      have hr0 := hr.mono fun _ _ h => h.c hc
      refine FnOk.start Try.func10 rfl rfl rfl rfl fun F os tape output => ?_
      refine Nx.also 2 5 (rdS x.aA x.o.all.length 1 (x.o.all.flatMap inC)) rfl (ro_rdS ok.ra) ?_
      refine Nx.also 2 6 (rdS x.aA x.o.all.length 1 (x.o.all.flatMap inC)) rfl (ro_rdS ok.ra) ?_
      refine Nx.also 2 7 (rdS x.hA x.o.ahead.length 1 (x.o.ahead.flatMap inC)) rfl (ro_rdS ok.rh) ?_
      refine Nx.also 2 8 (rdS x.hA x.o.ahead.length 1 (x.o.ahead.flatMap inC)) rfl (ro_rdS ok.rh) ?_
      refine go 200 ?_
      conv => whnf
      repeat' (first | ((first | refine BrM.yes (by omega) ?_ | refine BrM.not (by omega) ?_ | refine BrM.t rfl ?_ | refine BrM.f rfl ?_ | refine BrM.dec (fun _ => ?_) (fun _ => ?_) | refine BrM.mk (fun _ => ?_) (fun _ => ?_) | refine Ar.i64 (by omega) (by omega) ?_ | refine gO rfl ?_ | refine gP rfl (by repeat constructor) ?_) <;> conv => whnf) | (fail) | refine Nx.late ?_)
      refine Nx.bind (l := 5) (fun b5 => ?_) rfl
      repeat' (first | ((first | refine BrM.yes (by omega) ?_ | refine BrM.not (by omega) ?_ | refine BrM.t rfl ?_ | refine BrM.f rfl ?_ | refine BrM.dec (fun _ => ?_) (fun _ => ?_) | refine BrM.mk (fun _ => ?_) (fun _ => ?_) | refine Ar.i64 (by omega) (by omega) ?_ | refine gO rfl ?_ | refine gP rfl (by repeat constructor) ?_) <;> conv => whnf) | (refine dN 11 [] [0,4,9,12,17,20,25,28,33,40,44,49,52,57,60,65,68,73,38,78,82,84] rfl (by kernel_rfl) rfl (by kernel_rfl) rfl (by repeat constructor) rfl ?_) | (refine atHoLoad ?_; first | refine hL1 rfl rfl rfl rfl (SeesAt.sub (by assumption) _ rfl) (by repeat constructor) rfl ?_ | refine hL1 rfl rfl rfl rfl (by assumption) (by repeat constructor) rfl ?_ | refine hLm rfl rfl rfl rfl (by assumption) (by repeat constructor) rfl rfl ?_) | (refine (atCall 23) ?_; refine Nx.call [0,5,7] [0] rfl rfl rfl rfl rfl (hp0) rfl fun v Q hQ => ?_; obtain ⟨M',eb,ep,rfl,rfl⟩ := hQ) | (refine (atCall 29) ?_; refine Nx.call [1,6,8] [1] rfl rfl rfl rfl rfl (hr0) rfl fun v Q hQ => ?_; obtain ⟨W',wb,wp,rfl,rfl⟩ := hQ) | (refine atAftK ?_; refine Nx.keepN [] rfl (by repeat constructor) (by repeat constructor) rfl ?_) | (refine atCall 20 ?_; refine cE [] [] rfl rfl rfl rfl rfl ((Is_nil 0)) rfl ?_) | (refine atRet ?_; refine Nx.ret [0,1] Try.func10 rfl rfl ?_; (exact ⟨M', W', eb, wb, ep, wp, rfl, rfl⟩)) | refine Nx.late ?_)
    · have hp0 := hp.mono fun _ _ h => h.nz (fun e => hc (hc1.symm.trans e))
      have hr0 := hr.mono fun _ _ h => h.c rfl
      rw [hc1] at hp0
      refine FnOk.start Try.func10 rfl rfl rfl rfl fun F os tape output => ?_
      refine Nx.also 2 5 (rdS x.aA x.o.all.length 1 (x.o.all.flatMap inC)) rfl (ro_rdS ok.ra) ?_
      refine Nx.also 2 6 (rdS x.aA x.o.all.length 1 (x.o.all.flatMap inC)) rfl (ro_rdS ok.ra) ?_
      refine Nx.also 2 7 (rdS x.hA x.o.ahead.length 1 (x.o.ahead.flatMap inC)) rfl (ro_rdS ok.rh) ?_
      refine Nx.also 2 8 (rdS x.hA x.o.ahead.length 1 (x.o.ahead.flatMap inC)) rfl (ro_rdS ok.rh) ?_
      refine go 200 ?_
      conv => whnf
      repeat' (first | ((first | refine BrM.yes (by omega) ?_ | refine BrM.not (by omega) ?_ | refine BrM.t rfl ?_ | refine BrM.f rfl ?_ | refine BrM.dec (fun _ => ?_) (fun _ => ?_) | refine BrM.mk (fun _ => ?_) (fun _ => ?_) | refine Ar.i64 (by omega) (by omega) ?_ | refine gO rfl ?_ | refine gP rfl (by repeat constructor) ?_) <;> conv => whnf) | (fail) | refine Nx.late ?_)
      refine Nx.bind (l := 5) (fun b5 => ?_) rfl
      repeat' (first | ((first | refine BrM.yes (by omega) ?_ | refine BrM.not (by omega) ?_ | refine BrM.t rfl ?_ | refine BrM.f rfl ?_ | refine BrM.dec (fun _ => ?_) (fun _ => ?_) | refine BrM.mk (fun _ => ?_) (fun _ => ?_) | refine Ar.i64 (by omega) (by omega) ?_ | refine gO rfl ?_ | refine gP rfl (by repeat constructor) ?_) <;> conv => whnf) | (refine dN 11 [] [0,4,9,12,17,20,25,28,33,40,44,49,52,57,60,65,68,73,38,78,82,84] rfl (by kernel_rfl) rfl (by kernel_rfl) rfl (by repeat constructor) rfl ?_) | (refine atHoLoad ?_; first | refine hL1 rfl rfl rfl rfl (SeesAt.sub (by assumption) _ rfl) (by repeat constructor) rfl ?_ | refine hL1 rfl rfl rfl rfl (by assumption) (by repeat constructor) rfl ?_ | refine hLm rfl rfl rfl rfl (by assumption) (by repeat constructor) rfl rfl ?_) | (refine (atCall 23) ?_; refine Nx.call [0,5,7] [0,9] rfl rfl rfl rfl rfl (hp0) rfl fun v Q hQ => ?_; obtain ⟨M',b',q',eb,ep,rfl,rfl⟩ := hQ) | (refine (atCall 29) ?_; refine Nx.call [1,6,8] [1] rfl rfl rfl rfl rfl (hr0) rfl fun v Q hQ => ?_; obtain ⟨W',wb,wp,rfl,rfl⟩ := hQ) | (refine atAftK ?_; refine Nx.keepN [] rfl (by repeat constructor) (by repeat constructor) rfl ?_) | (refine atCall 20 ?_; refine cE [9] [9] rfl rfl rfl rfl rfl ((Is_err _ _ _ _ hc)) rfl ?_) | (refine atRet ?_; refine Nx.ret [0,1] Try.func10 rfl rfl ?_; (exact ⟨M', W', eb, wb, ep, wp, by simp [oneV], rfl⟩)) | refine Nx.late ?_)
  by_cases k4 : x.o.kind = 4
  · have eP : M.p.op x.o = M.p.send x.o.who x.o.l := by unfold MdP.op; rw [if_neg k0, if_neg k1, if_neg k2, if_neg k3, if_pos k4]
    have eW : W.p.op x.o = W.p.send x.o.who x.o.l := by unfold MdR.op; rw [if_neg k0, if_neg k1, if_neg k2, if_neg k3, if_pos k4]
    rw [eP, eW] at hso ⊢
    have hp := Send_ok M hm x.o.who x.o.l x.lA x.lC (by omega)
    have hr := rSend_ok W hv x.o.who x.o.l x.lA x.lC (by omega)
    obtain ⟨hc1, hS⟩ := hso
    by_cases hc : (W.p.send x.o.who x.o.l).2 = 0
    · have hp0 := hp.mono fun _ _ h => h.z (hc1.trans hc)
      have hr0 := hr.mono fun _ _ h => h.c hc
      refine FnOk.start Try.func10 rfl rfl rfl rfl fun F os tape output => ?_
      refine Nx.also 2 5 (rdS x.lA x.o.l.length 2 (x.o.l.flatMap evC)) rfl (ro_rdS ok.rl) ?_
      refine Nx.also 2 6 (rdS x.lA x.o.l.length 2 (x.o.l.flatMap evC)) rfl (ro_rdS ok.rl) ?_
      refine go 200 ?_
      conv => whnf
      repeat' (first | ((first | refine BrM.yes (by omega) ?_ | refine BrM.not (by omega) ?_ | refine BrM.t rfl ?_ | refine BrM.f rfl ?_ | refine BrM.dec (fun _ => ?_) (fun _ => ?_) | refine BrM.mk (fun _ => ?_) (fun _ => ?_) | refine Ar.i64 (by omega) (by omega) ?_ | refine gO rfl ?_ | refine gP rfl (by repeat constructor) ?_) <;> conv => whnf) | (fail) | refine Nx.late ?_)
      refine Nx.bind (l := 5) (fun b5 => ?_) rfl
      repeat' (first | ((first | refine BrM.yes (by omega) ?_ | refine BrM.not (by omega) ?_ | refine BrM.t rfl ?_ | refine BrM.f rfl ?_ | refine BrM.dec (fun _ => ?_) (fun _ => ?_) | refine BrM.mk (fun _ => ?_) (fun _ => ?_) | refine Ar.i64 (by omega) (by omega) ?_ | refine gO rfl ?_ | refine gP rfl (by repeat constructor) ?_) <;> conv => whnf) | (refine dN 13 [] [0,4,9,12,17,24,28,33,36,41,22,46,50,52] rfl (by kernel_rfl) rfl (by kernel_rfl) rfl (by repeat constructor) rfl ?_) | (refine atHoLoad ?_; first | refine hL1 rfl rfl rfl rfl (SeesAt.sub (by assumption) _ rfl) (by repeat constructor) rfl ?_ | refine hL1 rfl rfl rfl rfl (by assumption) (by repeat constructor) rfl ?_ | refine hLm rfl rfl rfl rfl (by assumption) (by repeat constructor) rfl rfl ?_) | (refine (atCall 24) ?_; refine Nx.call [0,5] [0] rfl rfl rfl rfl rfl (hp0) rfl fun v Q hQ => ?_; obtain ⟨M',eb,ep,rfl,rfl⟩ := hQ) | (refine (atCall 30) ?_; refine Nx.call [1,6] [1] rfl rfl rfl rfl rfl (hr0) rfl fun v Q hQ => ?_; obtain ⟨W',wb,wp,rfl,rfl⟩ := hQ) | (refine atAftK ?_; refine Nx.keepN [] rfl (by repeat constructor) (by repeat constructor) rfl ?_) | (refine atCall 20 ?_; refine cE [] [] rfl rfl rfl rfl rfl ((Is_nil 0)) rfl ?_) | (refine atRet ?_; refine Nx.ret [0,1] Try.func10 rfl rfl ?_; (exact ⟨M', W', eb, wb, ep, wp, rfl, rfl⟩)) | refine Nx.late ?_)
    · have hp0 := hp.mono fun _ _ h => h.nz (fun e => hc (hc1.symm.trans e))
      have hr0 := hr.mono fun _ _ h => h.c rfl
      rw [hc1] at hp0
      refine FnOk.start Try.func10 rfl rfl rfl rfl fun F os tape output => ?_
      refine Nx.also 2 5 (rdS x.lA x.o.l.length 2 (x.o.l.flatMap evC)) rfl (ro_rdS ok.rl) ?_
      refine Nx.also 2 6 (rdS x.lA x.o.l.length 2 (x.o.l.flatMap evC)) rfl (ro_rdS ok.rl) ?_
      refine go 200 ?_
      conv => whnf
      repeat' (first | ((first | refine BrM.yes (by omega) ?_ | refine BrM.not (by omega) ?_ | refine BrM.t rfl ?_ | refine BrM.f rfl ?_ | refine BrM.dec (fun _ => ?_) (fun _ => ?_) | refine BrM.mk (fun _ => ?_) (fun _ => ?_) | refine Ar.i64 (by omega) (by omega) ?_ | refine gO rfl ?_ | refine gP rfl (by repeat constructor) ?_) <;> conv => whnf) | (fail) | refine Nx.late ?_)
      refine Nx.bind (l := 5) (fun b5 => ?_) rfl
      repeat' (first | ((first | refine BrM.yes (by omega) ?_ | refine BrM.not (by omega) ?_ | refine BrM.t rfl ?_ | refine BrM.f rfl ?_ | refine BrM.dec (fun _ => ?_) (fun _ => ?_) | refine BrM.mk (fun _ => ?_) (fun _ => ?_) | refine Ar.i64 (by omega) (by omega) ?_ | refine gO rfl ?_ | refine gP rfl (by repeat constructor) ?_) <;> conv => whnf) | (refine dN 13 [] [0,4,9,12,17,24,28,33,36,41,22,46,50,52] rfl (by kernel_rfl) rfl (by kernel_rfl) rfl (by repeat constructor) rfl ?_) | (refine atHoLoad ?_; first | refine hL1 rfl rfl rfl rfl (SeesAt.sub (by assumption) _ rfl) (by repeat constructor) rfl ?_ | refine hL1 rfl rfl rfl rfl (by assumption) (by repeat constructor) rfl ?_ | refine hLm rfl rfl rfl rfl (by assumption) (by repeat constructor) rfl rfl ?_) | (refine (atCall 24) ?_; refine Nx.call [0,5] [0,9] rfl rfl rfl rfl rfl (hp0) rfl fun v Q hQ => ?_; obtain ⟨M',b',q',eb,ep,rfl,rfl⟩ := hQ) | (refine (atCall 30) ?_; refine Nx.call [1,6] [1] rfl rfl rfl rfl rfl (hr0) rfl fun v Q hQ => ?_; obtain ⟨W',wb,wp,rfl,rfl⟩ := hQ) | (refine atAftK ?_; refine Nx.keepN [] rfl (by repeat constructor) (by repeat constructor) rfl ?_) | (refine atCall 20 ?_; refine cE [9] [9] rfl rfl rfl rfl rfl ((Is_err _ _ _ _ hc)) rfl ?_) | (refine atRet ?_; refine Nx.ret [0,1] Try.func10 rfl rfl ?_; (exact ⟨M', W', eb, wb, ep, wp, by simp [oneV], rfl⟩)) | refine Nx.late ?_)
  by_cases k5 : x.o.kind = 5
  · have eP : M.p.op x.o = M.p.take x.o.n := by unfold MdP.op; rw [if_neg k0, if_neg k1, if_neg k2, if_neg k3, if_neg k4, if_pos k5]
    have eW : W.p.op x.o = W.p.take x.o.n := by unfold MdR.op; rw [if_neg k0, if_neg k1, if_neg k2, if_neg k3, if_neg k4, if_pos k5]
    rw [eP, eW] at hso ⊢
    have hp := Take_ok M hm x.o.n
    have hr := rTake_ok W hv x.o.n
    obtain ⟨hc1, hS⟩ := hso
    unfold Nt.v at hp hr
    by_cases hc : (W.p.take x.o.n).2 = 0
    · have hp0 := hp.mono fun _ _ h => h.z (hc1.trans hc)
      have hr0 := hr.mono fun _ _ h => h.c hc
      refine FnOk.start Try.func10 rfl rfl rfl rfl fun F os tape output => ?_
      refine go 200 ?_
      conv => whnf
      repeat' (first | ((first | refine BrM.yes (by omega) ?_ | refine BrM.not (by omega) ?_ | refine BrM.t rfl ?_ | refine BrM.f rfl ?_ | refine BrM.dec (fun _ => ?_) (fun _ => ?_) | refine BrM.mk (fun _ => ?_) (fun _ => ?_) | refine Ar.i64 (by omega) (by omega) ?_ | refine gO rfl ?_ | refine gP rfl (by repeat constructor) ?_) <;> conv => whnf) | (fail) | refine Nx.late ?_)
      refine Nx.bind (l := 5) (fun b5 => ?_) rfl
      repeat' (first | ((first | refine BrM.yes (by omega) ?_ | refine BrM.not (by omega) ?_ | refine BrM.t rfl ?_ | refine BrM.f rfl ?_ | refine BrM.dec (fun _ => ?_) (fun _ => ?_) | refine BrM.mk (fun _ => ?_) (fun _ => ?_) | refine Ar.i64 (by omega) (by omega) ?_ | refine gO rfl ?_ | refine gP rfl (by repeat constructor) ?_) <;> conv => whnf) | (refine dN 15 [] [0,4,9,16,20,25,14,30,34,36] rfl (by kernel_rfl) rfl (by kernel_rfl) rfl (by repeat constructor) rfl ?_) | (refine atHoLoad ?_; first | refine hL1 rfl rfl rfl rfl (SeesAt.sub (by assumption) _ rfl) (by repeat constructor) rfl ?_ | refine hL1 rfl rfl rfl rfl (by assumption) (by repeat constructor) rfl ?_ | refine hLm rfl rfl rfl rfl (by assumption) (by repeat constructor) rfl rfl ?_) | (refine (atCall 25) ?_; refine Nx.call [0] [0] rfl rfl rfl rfl rfl (hp0) rfl fun v Q hQ => ?_; obtain ⟨M',eb,ep,rfl,rfl⟩ := hQ) | (refine (atCall 31) ?_; refine Nx.call [1] [1] rfl rfl rfl rfl rfl (hr0) rfl fun v Q hQ => ?_; obtain ⟨W',wb,wp,rfl,rfl⟩ := hQ) | (refine atAftK ?_; refine Nx.keepN [] rfl (by repeat constructor) (by repeat constructor) rfl ?_) | (refine atCall 20 ?_; refine cE [] [] rfl rfl rfl rfl rfl ((Is_nil 0)) rfl ?_) | (refine atRet ?_; refine Nx.ret [0,1] Try.func10 rfl rfl ?_; (exact ⟨M', W', eb, wb, ep, wp, rfl, rfl⟩)) | refine Nx.late ?_)
    · have hp0 := hp.mono fun _ _ h => h.nz (fun e => hc (hc1.symm.trans e))
      have hr0 := hr.mono fun _ _ h => h.c rfl
      rw [hc1] at hp0
      refine FnOk.start Try.func10 rfl rfl rfl rfl fun F os tape output => ?_
      refine go 200 ?_
      conv => whnf
      repeat' (first | ((first | refine BrM.yes (by omega) ?_ | refine BrM.not (by omega) ?_ | refine BrM.t rfl ?_ | refine BrM.f rfl ?_ | refine BrM.dec (fun _ => ?_) (fun _ => ?_) | refine BrM.mk (fun _ => ?_) (fun _ => ?_) | refine Ar.i64 (by omega) (by omega) ?_ | refine gO rfl ?_ | refine gP rfl (by repeat constructor) ?_) <;> conv => whnf) | (fail) | refine Nx.late ?_)
      refine Nx.bind (l := 5) (fun b5 => ?_) rfl
      repeat' (first | ((first | refine BrM.yes (by omega) ?_ | refine BrM.not (by omega) ?_ | refine BrM.t rfl ?_ | refine BrM.f rfl ?_ | refine BrM.dec (fun _ => ?_) (fun _ => ?_) | refine BrM.mk (fun _ => ?_) (fun _ => ?_) | refine Ar.i64 (by omega) (by omega) ?_ | refine gO rfl ?_ | refine gP rfl (by repeat constructor) ?_) <;> conv => whnf) | (refine dN 15 [] [0,4,9,16,20,25,14,30,34,36] rfl (by kernel_rfl) rfl (by kernel_rfl) rfl (by repeat constructor) rfl ?_) | (refine atHoLoad ?_; first | refine hL1 rfl rfl rfl rfl (SeesAt.sub (by assumption) _ rfl) (by repeat constructor) rfl ?_ | refine hL1 rfl rfl rfl rfl (by assumption) (by repeat constructor) rfl ?_ | refine hLm rfl rfl rfl rfl (by assumption) (by repeat constructor) rfl rfl ?_) | (refine (atCall 25) ?_; refine Nx.call [0] [0,9] rfl rfl rfl rfl rfl (hp0) rfl fun v Q hQ => ?_; obtain ⟨M',b',q',eb,ep,rfl,rfl⟩ := hQ) | (refine (atCall 31) ?_; refine Nx.call [1] [1] rfl rfl rfl rfl rfl (hr0) rfl fun v Q hQ => ?_; obtain ⟨W',wb,wp,rfl,rfl⟩ := hQ) | (refine atAftK ?_; refine Nx.keepN [] rfl (by repeat constructor) (by repeat constructor) rfl ?_) | (refine atCall 20 ?_; refine cE [9] [9] rfl rfl rfl rfl rfl ((Is_err _ _ _ _ hc)) rfl ?_) | (refine atRet ?_; refine Nx.ret [0,1] Try.func10 rfl rfl ?_; (exact ⟨M', W', eb, wb, ep, wp, by simp [oneV], rfl⟩)) | refine Nx.late ?_)
  have eP : M.p.op x.o = (M.p, 0) := by unfold MdP.op; rw [if_neg k0, if_neg k1, if_neg k2, if_neg k3, if_neg k4, if_neg k5]
  have eW : W.p.op x.o = (W.p, 0) := by unfold MdR.op; rw [if_neg k0, if_neg k1, if_neg k2, if_neg k3, if_neg k4, if_neg k5]
  rw [eP, eW]
  refine FnOk.start Try.func10 rfl rfl rfl rfl fun F os tape output => ?_
  refine go 200 ?_
  conv => whnf
  repeat' (first | ((first | refine BrM.yes (by omega) ?_ | refine BrM.not (by omega) ?_ | refine BrM.t rfl ?_ | refine BrM.f rfl ?_ | refine BrM.dec (fun _ => ?_) (fun _ => ?_) | refine BrM.mk (fun _ => ?_) (fun _ => ?_) | refine Ar.i64 (by omega) (by omega) ?_ | refine gO rfl ?_ | refine gP rfl (by repeat constructor) ?_) <;> conv => whnf) | (refine atRet ?_; refine Nx.ret [0,1] Try.func10 rfl rfl ?_; (exact ⟨M, W, rfl, rfl, rfl, rfl, rfl, rfl⟩)) | refine Nx.late ?_)
end Go.Proofs.Ytngfadijcpnblaa

/- ModelPlays, walked. -/
namespace Go.Proofs.Ytngfadijcpnblaa
open Go.RowKit
set_option maxRecDepth 20000
set_option maxHeartbeats 8000000
def RefH.new (b : Nat) : RefH := ⟨b, [], none, 0, [], none, 0, [], none, 0, 0, [], none, 0⟩
theorem sat_ownT (e sz : Nat) {L : List SP} {r h : PH} (H : Sat L r h) : Sat (ownT e none 0 0 sz [] :: L) r h :=
  ⟨r, PH.em, h, PH.le_refl _, PH.em_le _, PH.le_refl _, PH.em_dj _, ownT_nil _ _ _ _ _, H⟩
theorem RefH.new_sp (b : Nat) : ∀ r h, blk b (.cells (RefH.new b).cells.toArray 34 (0, 0)) r h → (RefH.new b).sp r h := by
  intro r h hb
  refine ⟨r, h, PH.em, PH.le_refl _, PH.le_refl _, PH.em_le _, PH.dj_em _, hb, ?_⟩
  exact sat_ownT _ _ (sat_ownT _ _ (sat_ownT _ _ (sat_ownT _ _ (sat_emp (sat_emp (sat_emp trivial))))))
section
variable {g : Cx} {β : Nat → Nat} {env : Env} {mem : Mem} {bnd : Bnd} {L : Res} {a : Act} {w : World} {N : Act → World → Prop}
/-- A place whose block's number is known. -/
theorem Nx.realP (s : Nat) {l o b : Nat} (hl : look env s = some (.c (.loc l o))) (hb : lookB bnd l = some b) (h : Nx g ((s, .c (.v (.pointer (some ⟨b, o, none⟩)))) :: env) mem bnd L N) : Nx g env mem bnd L N := by
  intro β a w hr
  refine h β a w ⟨hr.defers, hr.size, fun k x hx => ?_, hr.bnd, hr.os, hr.tape, hr.output, hr.sat⟩
  rw [look_cons] at hx
  split at hx
  · rename_i e
    subst e
    cases hx
    have := hr.env _ _ hl
    rw [this]
    simp only [SV.den, Ce.den, hr.bnd l b hb]
  · exact hr.env k x hx
end
theorem RefH.new_p (b : Nat) : (RefH.new b).p = ⟨[], [], [], 0, []⟩ := rfl
theorem op_bnd {P : MdP} {M : MdR} {T : Nat} (hB : Bnd8 P T) (hG : Sim P M) (o : Opn) (ha : o.ahead.length ≤ 1000) : Bnd8 (P.op o).1 (T + 1) := by
  by_cases h : o.kind = 0 ∨ o.kind = 1 ∨ o.kind = 2 ∨ o.kind = 3 ∨ o.kind = 4 ∨ o.kind = 5
  · have e : P.op o = P.apply o := by
      unfold MdP.op MdP.apply
      rcases h with h | h | h | h | h | h <;> simp [h]
    rw [e]
    exact hB.apply hG o ha
  · have e : P.op o = (P, 0) := by
      unfold MdP.op
      rw [if_neg (fun x => h (.inl x)), if_neg (fun x => h (.inr (.inl x))), if_neg (fun x => h (.inr (.inr (.inl x)))), if_neg (fun x => h (.inr (.inr (.inr (.inl x))))), if_neg (fun x => h (.inr (.inr (.inr (.inr (.inl x)))))), if_neg (fun x => h (.inr (.inr (.inr (.inr (.inr x))))))]
    rw [e]
    exact hB.more
attribute [local irreducible] Nx Ar BrM headC OneC HoC AftC planHead endF
theorem alike_ok (M : MdH) (W : RefH) (hs : Sim M.p W.p) (hm : MdW M.p) (hv : MdV W.p) : FnOk Try.prog 11 [ptr M.b, ptr W.b] [M.sp, W.sp] (fun v Q => v = .bool true ∧ Q = [M.sp, W.sp]) := by
  obtain ⟨hl8, hl5, hl2⟩ := hv.lens
  have w0 := W.seeB.sub 0 rfl
  have w2 := W.seeB.sub 2 rfl
  have hR := W.seeR
  have eln : M.p.logs.length = W.logs.length := hs.len_l
  refine FnOk.start Try.func11 rfl rfl rfl rfl fun F os tape output => ?_
  refine go 200 ?_
  conv => whnf
  repeat' (first | ((first | refine BrM.t rfl ?_ | refine BrM.f rfl ?_ | refine BrM.dec (fun _ => ?_) (fun _ => ?_) | refine BrM.mk (fun _ => ?_) (fun _ => ?_) | refine Ar.i64 (by omega) (by omega) ?_ | refine gO rfl ?_ | refine gP rfl (by repeat constructor) ?_) <;> conv => whnf) | (refine atLoad ?_; refine Nx.load1 1 rfl rfl rfl rfl (w0) rfl ?_) | refine Nx.late ?_)
  refine Nx.loop (X := Nat) (fun j => j ≤ W.logs.length) (fun j => W.logs.length - j)
    (fun j => [(0, .c (.v (ptr M.b))), (1, .c (.v (ptr W.b))), (14, iv W.logs.length), (15, iv j)]) (fun _ => []) [] (fun _ => [(0, M.sp), (1, W.sp)]) 0 (Nat.zero_le _) ?_ ?_ ?_ ?_ ?_
  all_goals repeat (first | exact .nil _ | refine .cons rfl ?_ | refine .cons rfl rfl ?_ | refine .cons rfl rfl rfl ?_ | refine .cons' rfl (fun _ => rfl) ?_)
  intro j hj ih
  by_cases hlt : j < W.logs.length
  · have hL := Length_ok M hm j
    have hev : ∀ i : Int, M.p.event j i = eventF W.p.facts j i := fun i => hs.eventE j i (by omega) (by omega)
    have hjk : j < M.p.logs.length := by omega
    obtain ⟨N, hN, hN2⟩ : ∃ N : Nat, eventF W.p.facts j N = none ∧ N ≤ 4611686018427387904 := by
      refine ⟨M.p.logs[j].there.length, ?_, ?_⟩
      · rw [← hev]
        unfold MdP.event
        rw [if_neg (by omega), Int.toNat_natCast, List.getElem?_eq_getElem hjk]
        dsimp only
        rw [if_neg]
        unfold LogP.pub
        simp
      · have := hm.gl _ (List.getElem_mem hjk)
        omega
    have hL2 := rLength_ok W hv j hN hN2
    repeat' (first | ((first | refine BrM.yes (by omega) ?_ | refine BrM.t rfl ?_ | refine BrM.f rfl ?_ | refine BrM.dec (fun _ => ?_) (fun _ => ?_) | refine BrM.mk (fun _ => ?_) (fun _ => ?_) | refine Ar.i64 (by omega) (by omega) ?_ | refine gO rfl ?_ | refine gP rfl (by repeat constructor) ?_) <;> conv => whnf) | (refine (atCall 17) ?_; refine Nx.call [0] [0] rfl rfl rfl rfl rfl (hL) rfl fun v Q hQ => ?_; obtain ⟨n1,rfl,q1,rfl⟩ := hQ) | refine Nx.late ?_)
    refine Nx.call [1] [1] rfl rfl rfl rfl rfl hL2 rfl fun v Q hQ => ?_
    obtain ⟨n2, rfl, q2, rfl⟩ := hQ
    have e12 : n1 = n2 := by
      refine q1.one ⟨fun i hi => ?_, ?_⟩
      · rw [hev]; exact q2.1 i hi
      · rw [hev]; exact q2.2
    subst e12
    repeat' (first | ((first | refine BrM.not (by omega) ?_ | refine BrM.t rfl ?_ | refine BrM.f rfl ?_ | refine BrM.dec (fun _ => ?_) (fun _ => ?_) | refine BrM.mk (fun _ => ?_) (fun _ => ?_) | refine Ar.i64 (by omega) (by omega) ?_ | refine gO rfl ?_ | refine gP rfl (by repeat constructor) ?_) <;> conv => whnf) | refine Nx.late ?_)
    refine (ih (j + 1) (by omega) (by omega)).weak ?_ ?_ ?_ ?_
    all_goals repeat (first | exact .nil _ | refine .cons rfl ?_ | refine .cons rfl rfl ?_ | refine .cons rfl rfl rfl ?_ | refine .cons' rfl (fun _ => rfl) ?_)
  clear ih
  repeat' (first | ((first | refine BrM.not (by omega) ?_ | refine BrM.t rfl ?_ | refine BrM.f rfl ?_ | refine BrM.dec (fun _ => ?_) (fun _ => ?_) | refine BrM.mk (fun _ => ?_) (fun _ => ?_) | refine Ar.i64 (by omega) (by omega) ?_ | refine gO rfl ?_ | refine gP rfl (by repeat constructor) ?_) <;> conv => whnf) | (refine atLoad ?_; refine Nx.load1 1 rfl rfl rfl rfl (w2) rfl ?_) | refine Nx.late ?_)
  refine Nx.loop (X := Nat) (fun i => i ≤ W.readers.length) (fun i => W.readers.length - i)
    (fun i => [(0, .c (.v (ptr M.b))), (1, .c (.v (ptr W.b))), (29, sl W.rA W.readers.length W.rc), (30, iv W.readers.length), (31, iv i)]) (fun _ => []) [] (fun _ => [(0, M.sp), (1, W.sp)]) 0 (Nat.zero_le _) ?_ ?_ ?_ ?_ ?_
  all_goals repeat (first | exact .nil _ | refine .cons rfl ?_ | refine .cons rfl rfl ?_ | refine .cons rfl rfl rfl ?_ | refine .cons' rfl (fun _ => rfl) ?_)
  intro i hi ih
  by_cases hlt : i < W.readers.length
  · have hC := Cursor_ok M hm W.readers[i].r.who W.readers[i].r.ring
    rw [hs.cursorE (RefH.gr hlt)] at hC
    have hC2 := rCursor_ok W hv hlt
    repeat' (first | ((first | refine BrM.yes (by omega) ?_ | refine BrM.not (by omega) ?_ | refine BrM.t rfl ?_ | refine BrM.f rfl ?_ | refine BrM.dec (fun _ => ?_) (fun _ => ?_) | refine BrM.mk (fun _ => ?_) (fun _ => ?_) | refine Ar.i64 (by omega) (by omega) ?_ | refine gO rfl ?_ | refine gP rfl (by repeat constructor) ?_) <;> conv => whnf) | (refine atIdx ?_; refine Nx.idx 1 (j := i) rfl rfl rfl Try.underlying31 rfl rfl rfl RRdH.enc_len hR rfl (by omega) (by omega) fun _ _ _ => ?_) | (refine atLoad ?_; first | (refine Nx.load1 1 rfl rfl rfl rfl (SeesAt.sub (by assumption) _ rfl) rfl ?_) | (refine Nx.load1 1 rfl rfl rfl rfl (by assumption) rfl ?_) | (refine Nx.load 1 rfl rfl rfl rfl (by assumption) rfl rfl ?_)) | (refine atCall 16 ?_; refine cE [0] [0] rfl rfl rfl rfl rfl (hC) rfl ?_) | (refine atCall 33 ?_; refine cE [1] [1] rfl rfl rfl rfl rfl (hC2) rfl ?_) | refine Nx.late ?_)
    refine (ih (i + 1) (by omega) (by omega)).weak ?_ ?_ ?_ ?_
    all_goals repeat (first | exact .nil _ | refine .cons rfl ?_ | refine .cons rfl rfl ?_ | refine .cons rfl rfl rfl ?_ | refine .cons' rfl (fun _ => rfl) ?_)
  · repeat' (first | ((first | refine BrM.not (by omega) ?_ | refine BrM.t rfl ?_ | refine BrM.f rfl ?_ | refine BrM.dec (fun _ => ?_) (fun _ => ?_) | refine BrM.mk (fun _ => ?_) (fun _ => ?_) | refine Ar.i64 (by omega) (by omega) ?_ | refine gO rfl ?_ | refine gP rfl (by repeat constructor) ?_) <;> conv => whnf) | (refine atRet ?_; refine Nx.ret [0,1] Try.func11 rfl rfl ?_; (exact ⟨rfl, rfl⟩)) | refine Nx.late ?_)
structure PyX where
  M : MdH
  W : RefH
  i : Nat
theorem plays_ok (m : PH) (l : List OpH) (A : Option Addr) (c : Nat) (hl : l.length ≤ 9223372036854775807) (hs : Rd m A l.length 16 (l.flatMap OpH.enc)) (hok : ∀ x ∈ l, OpOk m x)
    (ask : List Int) (aA : Option Addr) (ac : Nat) (hal : ask.length ≤ 9223372036854775807) (hask : Rd m aA ask.length 1 (ask.flatMap inC)) (hai : ∀ a ∈ ask, a ≤ 9223372036854775807) :
    FnOk Try.prog 3 [.slice A l.length c, .slice aA ask.length ac] [roAll m] (fun v _ => v = .bool true) := by
  have hS := roAll_sees hs
  have hA := roAll_sees hask
  have hsm := small7_ok m l A c hl hs hok
  by_cases sm : (∀ x ∈ l, OpS x) ∧ l.length ≤ 120
  case neg =>
    rw [decide_eq_false sm] at hsm
    refine FnOk.start Try.func3 rfl rfl rfl rfl fun F os tape output => ?_
    refine go 200 ?_
    conv => whnf
    repeat' (first | ((first | refine BrM.t rfl ?_ | refine BrM.f rfl ?_ | refine BrM.dec (fun _ => ?_) (fun _ => ?_) | refine BrM.mk (fun _ => ?_) (fun _ => ?_) | refine Ar.i64 (by omega) (by omega) ?_ | refine gO rfl ?_ | refine gP rfl (by repeat constructor) ?_) <;> conv => whnf) | (refine atCall 7 ?_; refine cE [0] [0] rfl rfl rfl rfl rfl (hsm) rfl ?_) | (refine (atCall 8) ?_; refine Nx.call [] [] rfl rfl rfl rfl rfl (awake_ok) rfl fun v Q hQ => ?_; obtain rfl := hQ) | (refine atRet ?_; refine Nx.ret [] Try.func3 rfl rfl ?_; (exact rfl)) | refine Nx.late ?_)
  rw [decide_eq_true sm] at hsm
  by_cases h20 : 20 < ask.length
  · refine FnOk.start Try.func3 rfl rfl rfl rfl fun F os tape output => ?_
    refine go 200 ?_
    conv => whnf
    repeat' (first | ((first | refine BrM.yes (by omega) ?_ | refine BrM.not (by omega) ?_ | refine BrM.t rfl ?_ | refine BrM.f rfl ?_ | refine BrM.dec (fun _ => ?_) (fun _ => ?_) | refine BrM.mk (fun _ => ?_) (fun _ => ?_) | refine Ar.i64 (by omega) (by omega) ?_ | refine gO rfl ?_ | refine gP rfl (by repeat constructor) ?_) <;> conv => whnf) | (refine atCall 7 ?_; refine cE [0] [0] rfl rfl rfl rfl rfl (hsm) rfl ?_) | (refine (atCall 8) ?_; refine Nx.call [] [] rfl rfl rfl rfl rfl (awake_ok) rfl fun v Q hQ => ?_; obtain rfl := hQ) | (refine atRet ?_; refine Nx.ret [] Try.func3 rfl rfl ?_; (exact rfl)) | refine Nx.late ?_)
  have hl120 := sm.2
  refine FnOk.start Try.func3 rfl rfl rfl rfl fun F os tape output => ?_
  refine go 200 ?_
  conv => whnf
  repeat' (first | ((first | refine BrM.not (by omega) ?_ | refine BrM.t rfl ?_ | refine BrM.f rfl ?_ | refine BrM.dec (fun _ => ?_) (fun _ => ?_) | refine BrM.mk (fun _ => ?_) (fun _ => ?_) | refine Ar.i64 (by omega) (by omega) ?_ | refine gO rfl ?_ | refine gP rfl (by repeat constructor) ?_) <;> conv => whnf) | (refine atCall 7 ?_; refine cE [0] [9] rfl rfl rfl rfl rfl (hsm) rfl ?_) | (fail) | refine Nx.late ?_)
  refine Nx.call [] [1] rfl rfl rfl rfl rfl New_ok rfl fun v Q hQ => ?_
  obtain ⟨M0, rfl, eM, rfl⟩ := hQ
  repeat' (first | ((first | refine BrM.t rfl ?_ | refine BrM.f rfl ?_ | refine BrM.dec (fun _ => ?_) (fun _ => ?_) | refine BrM.mk (fun _ => ?_) (fun _ => ?_) | refine Ar.i64 (by omega) (by omega) ?_ | refine gO rfl ?_ | refine gP rfl (by repeat constructor) ?_) <;> conv => whnf) | (fail) | refine Nx.late ?_)
  refine Nx.bind (l := 27) (fun b => ?_) rfl
  refine Nx.realP 6 (l := 27) rfl rfl ?_
  refine Nx.out 27 rfl rfl rfl rfl ?_
  refine Nx.turn [27] [2] [(RefH.new b).sp] rfl (fun r h hs => ?_) ?_
  · obtain ⟨r1, h1, h2, a1, a2, a3, a4, a5, a6⟩ := hs
    exact ⟨r1, h1, h2, a1, a2, a3, a4, RefH.new_sp b _ _ a5, a6⟩
  obtain ⟨W0, hW0⟩ : ∃ W0, W0 = RefH.new b := ⟨_, rfl⟩
  have eW : W0.p = ⟨[], [], [], 0, []⟩ := by rw [hW0]; rfl
  have eWb : b = W0.b := by rw [hW0]; rfl
  rw [← hW0, eWb]
  refine Nx.loop (X := PyX) (fun x => x.i ≤ l.length ∧ x.M.b = M0.b ∧ x.W.b = W0.b ∧ Bnd8 x.M.p x.i ∧ BndR x.W.p x.i ∧ Sim x.M.p x.W.p) (fun x => l.length - x.i)
    (fun x => [(1, sl aA ask.length ac), (5, .c (.v (ptr M0.b))), (6, .c (.v (ptr W0.b))), (28, sl A l.length c), (29, iv l.length), (30, iv x.i)]) (fun _ => []) [] (fun x => [(1, x.M.sp), (2, x.W.sp), (9, roAll m)]) ⟨M0, W0, 0⟩ ⟨Nat.zero_le _, rfl, rfl, by dsimp only; rw [eM]; exact Bnd8.nil, by dsimp only; rw [eW]; exact BndR.nil, by dsimp only; rw [eM, eW]; exact Sim.nil⟩ ?_ ?_ ?_ ?_ ?_
  all_goals repeat (first | exact .nil _ | refine .cons rfl ?_ | refine .cons rfl rfl ?_ | refine .cons rfl rfl rfl ?_ | refine .cons' rfl (fun _ => rfl) ?_)
  intro ⟨M, W, i⟩ ⟨hi, hMb, hWb, hB, hBR, hG⟩ ih
  dsimp only at hi hMb hWb hB hBR hG ih ⊢
  have hm : MdW M.p := hG.mdw hB (by omega)
  have hv : MdV W.p := hG.mdv hBR (by omega)
  by_cases hlt : i < l.length
  · have hxm := List.getElem_mem hlt
    have smx := sm.1 _ hxm
    have hdo := do_ok m M W hG hm hv l[i] (hok _ hxm) smx
    rw [hMb, hWb] at hdo
    unfold OpH.v at hdo
    have hah : (l[i]).o.ahead.length ≤ 1000 := by have := smx.2.1; omega
    have hB2 := op_bnd hB hG (l[i]).o hah
    have hR2 := hBR.op hG (l[i]).o hah
    have hG2 := (hG.op (l[i]).o).2
    repeat' (first | ((first | refine BrM.yes (by omega) ?_ | refine BrM.t rfl ?_ | refine BrM.f rfl ?_ | refine BrM.dec (fun _ => ?_) (fun _ => ?_) | refine BrM.mk (fun _ => ?_) (fun _ => ?_) | refine Ar.i64 (by omega) (by omega) ?_ | refine gO rfl ?_ | refine gP rfl (by repeat constructor) ?_) <;> conv => whnf) | (refine atIdx ?_; refine Nx.idx 9 (j := i) rfl rfl rfl Try.underlying22 rfl rfl rfl OpH.enc_len hS rfl (by omega) (by omega) fun _ _ _ => ?_) | (refine atLoad ?_; first | (refine Nx.load1 9 rfl rfl rfl rfl (SeesAt.sub (by assumption) _ rfl) rfl ?_) | (refine Nx.load1 9 rfl rfl rfl rfl (by assumption) rfl ?_) | (refine Nx.load 9 rfl rfl rfl rfl (by assumption) rfl rfl ?_)) | refine Nx.late ?_)
    refine Nx.also 9 8 (roAll m) rfl (fun _ _ h => h) ?_
    refine Nx.call [1, 2, 8] [1, 2] rfl rfl rfl rfl rfl hdo rfl fun v Q hQ => ?_
    obtain ⟨M', W', e1, e2, e3, e4, rfl, rfl⟩ := hQ
    rw [← e3] at hB2 hG2
    rw [← e4] at hR2 hG2
    have hal := alike_ok M' W' hG2 (hG2.mdw hB2 (by omega)) (hG2.mdv hR2 (by omega))
    rw [e1, e2, hMb, hWb] at hal
    repeat' (first | ((first | refine BrM.t rfl ?_ | refine BrM.f rfl ?_ | refine BrM.dec (fun _ => ?_) (fun _ => ?_) | refine BrM.mk (fun _ => ?_) (fun _ => ?_) | refine Ar.i64 (by omega) (by omega) ?_ | refine gO rfl ?_ | refine gP rfl (by repeat constructor) ?_) <;> conv => whnf) | (refine atRem ?_; refine Nx.divI rfl (.inl ⟨rfl, rfl⟩) rfl rfl (by decide) rfl ?_) | (refine atCall 11 ?_; refine cE [1,2] [1,2] rfl rfl rfl rfl rfl (hal) rfl ?_) | refine Nx.late ?_)
    all_goals
      refine (ih ⟨M', W', i + 1⟩ ⟨by dsimp only; omega, e1.trans hMb, e2.trans hWb, hB2, hR2, hG2⟩ (by dsimp only; omega)).weak ?_ ?_ ?_ ?_
      all_goals repeat (first | exact .nil _ | refine .cons rfl ?_ | refine .cons rfl rfl ?_ | refine .cons rfl rfl rfl ?_ | refine .cons' rfl (fun _ => rfl) ?_)
  clear ih
  obtain ⟨hl8, hl5, hl2⟩ := hv.lens
  have w0 : SeesAt W.sp W0.b (addN 0 0) [.slice W.lA W.logs.length W.lc] := by rw [← hWb]; exact W.seeB.sub 0 rfl
  have hal := alike_ok M W hG hm hv
  rw [hMb, hWb] at hal
  have eln : M.p.logs.length = W.logs.length := hG.len_l
  repeat' (first | ((first | refine BrM.not (by omega) ?_ | refine BrM.t rfl ?_ | refine BrM.f rfl ?_ | refine BrM.dec (fun _ => ?_) (fun _ => ?_) | refine BrM.mk (fun _ => ?_) (fun _ => ?_) | refine Ar.i64 (by omega) (by omega) ?_ | refine gO rfl ?_ | refine gP rfl (by repeat constructor) ?_) <;> conv => whnf) | (refine atLoad ?_; refine Nx.load1 2 rfl rfl rfl rfl (w0) rfl ?_) | refine Nx.late ?_)
  refine Nx.loop (X := Nat) (fun j => j ≤ W.logs.length) (fun j => W.logs.length - j)
    (fun j => [(1, sl aA ask.length ac), (5, .c (.v (ptr M0.b))), (6, .c (.v (ptr W0.b))), (56, iv W.logs.length), (57, iv j)]) (fun _ => []) [] (fun _ => [(1, M.sp), (2, W.sp), (9, roAll m)]) 0 (Nat.zero_le _) ?_ ?_ ?_ ?_ ?_
  all_goals repeat (first | exact .nil _ | refine .cons rfl ?_ | refine .cons rfl rfl ?_ | refine .cons rfl rfl rfl ?_ | refine .cons' rfl (fun _ => rfl) ?_)
  intro j hj ih
  by_cases hj8 : j < W.logs.length
  case neg =>
    repeat' (first | ((first | refine BrM.not (by omega) ?_ | refine BrM.t rfl ?_ | refine BrM.f rfl ?_ | refine BrM.dec (fun _ => ?_) (fun _ => ?_) | refine BrM.mk (fun _ => ?_) (fun _ => ?_) | refine Ar.i64 (by omega) (by omega) ?_ | refine gO rfl ?_ | refine gP rfl (by repeat constructor) ?_) <;> conv => whnf) | (refine (atCall 8) ?_; refine Nx.call [] [] rfl rfl rfl rfl rfl (awake_ok) rfl fun v Q hQ => ?_; obtain rfl := hQ) | (refine atCall 11 ?_; refine cE [1,2] [1,2] rfl rfl rfl rfl rfl (hal) rfl ?_) | (refine atRet ?_; refine Nx.ret [] Try.func3 rfl rfl ?_; (exact rfl)) | refine Nx.late ?_)
  repeat' (first | ((first | refine BrM.yes (by omega) ?_ | refine BrM.t rfl ?_ | refine BrM.f rfl ?_ | refine BrM.dec (fun _ => ?_) (fun _ => ?_) | refine BrM.mk (fun _ => ?_) (fun _ => ?_) | refine Ar.i64 (by omega) (by omega) ?_ | refine gO rfl ?_ | refine gP rfl (by repeat constructor) ?_) <;> conv => whnf) | refine Nx.late ?_)
  refine Nx.bind (l := 60) (fun b60 => ?_) rfl
  refine Nx.realS 60 (l := 60) rfl rfl ?_
  refine Nx.out 60 rfl rfl rfl rfl ?_
  refine Nx.turn [60] [7] [ownS 2 (some ⟨b60, 0, none⟩) 5 5 1 [.int .i64 0, .int .i64 1, .int .i64 2, .int .i64 3, .int .i64 4]] rfl (fun r h hs => ?_) ?_
  · obtain ⟨r1, g1, g2, a1, a2, a3, a4, a5, a6⟩ := hs
    exact ⟨r1, g1, g2, a1, a2, a3, a4, own_blk (cells := [.int .i64 0, .int .i64 1, .int .i64 2, .int .i64 3, .int .i64 4]) (by show 5 ≤ maxLen; decide) _ _ a5, a6⟩
  repeat' (first | ((first | refine BrM.t rfl ?_ | refine BrM.f rfl ?_ | refine BrM.dec (fun _ => ?_) (fun _ => ?_) | refine BrM.mk (fun _ => ?_) (fun _ => ?_) | refine Ar.i64 (by omega) (by omega) ?_ | refine gO rfl ?_ | refine gP rfl (by repeat constructor) ?_) <;> conv => whnf) | (fail) | refine Nx.late ?_)
  refine Nx.appendS 7 9 (sz := 1) (by_ := 8) rfl rfl rfl Try.underlying23 rfl rfl rfl rfl hA (inC_one _) (by unfold maxLen; omega) (by omega) fun B bc => ?_
  obtain ⟨ws, hws⟩ : ∃ ws : List Int, ws = 0 :: 1 :: 2 :: 3 :: 4 :: ask := ⟨_, rfl⟩
  have hwl : 5 + ask.length = ws.length := by rw [hws]; simp; omega
  have hwc : [Value.int .i64 0, .int .i64 1, .int .i64 2, .int .i64 3, .int .i64 4] ++ ask.flatMap inC = ws.flatMap inC := by rw [hws]; rfl
  rw [hwl, hwc]
  have hW := ownS_sees 2 B ws.length bc 1 (ws.flatMap inC)
  have hws32 : ws.length ≤ 32 := by omega
  have hwi : ∀ a ∈ ws, a ≤ 9223372036854775807 := fun a ha => by
    rw [hws] at ha
    simp only [List.mem_cons] at ha
    rcases ha with rfl | rfl | rfl | rfl | rfl | ha
    · decide
    · decide
    · decide
    · decide
    · decide
    · exact hai a ha
  repeat' (first | ((first | refine BrM.t rfl ?_ | refine BrM.f rfl ?_ | refine BrM.dec (fun _ => ?_) (fun _ => ?_) | refine BrM.mk (fun _ => ?_) (fun _ => ?_) | refine Ar.i64 (by omega) (by omega) ?_ | refine gO rfl ?_ | refine gP rfl (by repeat constructor) ?_) <;> conv => whnf) | (fail) | refine Nx.late ?_)
  refine Nx.loop (X := Nat) (fun q => q ≤ ws.length) (fun q => ws.length - q)
    (fun q => [(1, sl aA ask.length ac), (5, .c (.v (ptr M0.b))), (6, .c (.v (ptr W0.b))), (56, iv W.logs.length), (57, iv j), (9, iv j), (62, sl B ws.length bc), (63, iv ws.length), (64, iv q)]) (fun _ => []) [] (fun _ => [(1, M.sp), (2, W.sp), (9, roAll m), (7, ownS 2 B ws.length bc 1 (ws.flatMap inC))]) 0 (Nat.zero_le _) ?_ ?_ ?_ ?_ ?_
  all_goals repeat (first | exact .nil _ | refine .cons rfl ?_ | refine .cons rfl rfl ?_ | refine .cons rfl rfl rfl ?_ | refine .cons' rfl (fun _ => rfl) ?_)
  intro q hq ih2
  by_cases hql : q < ws.length
  · have hwq := hwi _ (List.getElem_mem hql)
    have hE := Event_ok M hm j ws[q]
    have hE2 := rEvent_ok W hv j ws[q]
    have hH := Held_ok M hm j ws[q] hwq
    have hH2 := rHeld_ok W hv hj8 ws[q] hwq
    rw [hG.eventE j ws[q] (by omega) (by omega)] at hE
    rw [hG.heldE j ws[q] (by omega) (by omega)] at hH
    rw [hMb] at hE hH
    rw [hWb] at hE2 hH2
    generalize eventF W.p.facts j ws[q] = ev at hE hE2
    generalize W.p.held j ws[q] = hd at hH hH2
    have key : ∀ e : Ev, (if BinOp.neq = BinOp.eql then decide (e = e) else !decide (e = e)) = false := fun e => by simp
    cases ev with
    | none =>
      cases hd with
      | true =>
        repeat' (first | (refine atBr ?_; refine BrM.f ((key (⟨0, 0⟩ : Ev))) ?_; conv => whnf) | ((first | refine BrM.yes (by omega) ?_ | refine BrM.not (by omega) ?_ | refine BrM.t rfl ?_ | refine BrM.f rfl ?_ | refine BrM.dec (fun _ => ?_) (fun _ => ?_) | refine BrM.mk (fun _ => ?_) (fun _ => ?_) | refine Ar.i64 (by omega) (by omega) ?_ | refine gO rfl ?_ | refine gP rfl (by repeat constructor) ?_) <;> conv => whnf) | (refine atOne ?_; refine Nx.eqS rfl (.inr rfl) rfl rfl rfl rfl (by kernel_rfl) (eq39 (⟨0, 0⟩ : Ev) (⟨0, 0⟩ : Ev)) rfl ?_) | (refine atIdx ?_; refine Nx.idx 7 (j := q) rfl rfl rfl Try.underlying23 rfl rfl rfl inC_len hW rfl (by omega) (by omega) fun _ _ _ => ?_) | (refine atLoad ?_; first | (refine Nx.load1 7 rfl rfl rfl rfl (SeesAt.sub (by assumption) _ rfl) rfl ?_) | (refine Nx.load1 7 rfl rfl rfl rfl (by assumption) rfl ?_) | (refine Nx.load 7 rfl rfl rfl rfl (by assumption) rfl rfl ?_)) | (refine atCall 12 ?_; refine cE [1] [1] rfl rfl rfl rfl rfl (hE) rfl ?_) | (refine atCall 13 ?_; refine cE [2] [2] rfl rfl rfl rfl rfl (hE2) rfl ?_) | (refine atCall 14 ?_; refine cE [1] [1] rfl rfl rfl rfl rfl (hH) rfl ?_) | (refine atCall 15 ?_; refine cE [2] [2] rfl rfl rfl rfl rfl (hH2) rfl ?_) | refine Nx.late ?_)
        refine (ih2 (q + 1) (by omega) (by omega)).weak ?_ ?_ ?_ ?_
        all_goals repeat (first | exact .nil _ | refine .cons rfl ?_ | refine .cons rfl rfl ?_ | refine .cons rfl rfl rfl ?_ | refine .cons' rfl (fun _ => rfl) ?_)
      | false =>
        repeat' (first | (refine atBr ?_; refine BrM.f ((key (⟨0, 0⟩ : Ev))) ?_; conv => whnf) | ((first | refine BrM.yes (by omega) ?_ | refine BrM.not (by omega) ?_ | refine BrM.t rfl ?_ | refine BrM.f rfl ?_ | refine BrM.dec (fun _ => ?_) (fun _ => ?_) | refine BrM.mk (fun _ => ?_) (fun _ => ?_) | refine Ar.i64 (by omega) (by omega) ?_ | refine gO rfl ?_ | refine gP rfl (by repeat constructor) ?_) <;> conv => whnf) | (refine atOne ?_; refine Nx.eqS rfl (.inr rfl) rfl rfl rfl rfl (by kernel_rfl) (eq39 (⟨0, 0⟩ : Ev) (⟨0, 0⟩ : Ev)) rfl ?_) | (refine atIdx ?_; refine Nx.idx 7 (j := q) rfl rfl rfl Try.underlying23 rfl rfl rfl inC_len hW rfl (by omega) (by omega) fun _ _ _ => ?_) | (refine atLoad ?_; first | (refine Nx.load1 7 rfl rfl rfl rfl (SeesAt.sub (by assumption) _ rfl) rfl ?_) | (refine Nx.load1 7 rfl rfl rfl rfl (by assumption) rfl ?_) | (refine Nx.load 7 rfl rfl rfl rfl (by assumption) rfl rfl ?_)) | (refine atCall 12 ?_; refine cE [1] [1] rfl rfl rfl rfl rfl (hE) rfl ?_) | (refine atCall 13 ?_; refine cE [2] [2] rfl rfl rfl rfl rfl (hE2) rfl ?_) | (refine atCall 14 ?_; refine cE [1] [1] rfl rfl rfl rfl rfl (hH) rfl ?_) | (refine atCall 15 ?_; refine cE [2] [2] rfl rfl rfl rfl rfl (hH2) rfl ?_) | refine Nx.late ?_)
        refine (ih2 (q + 1) (by omega) (by omega)).weak ?_ ?_ ?_ ?_
        all_goals repeat (first | exact .nil _ | refine .cons rfl ?_ | refine .cons rfl rfl ?_ | refine .cons rfl rfl rfl ?_ | refine .cons' rfl (fun _ => rfl) ?_)
    | some e =>
      cases hd with
      | true =>
        repeat' (first | (refine atBr ?_; refine BrM.f ((key e)) ?_; conv => whnf) | ((first | refine BrM.yes (by omega) ?_ | refine BrM.not (by omega) ?_ | refine BrM.t rfl ?_ | refine BrM.f rfl ?_ | refine BrM.dec (fun _ => ?_) (fun _ => ?_) | refine BrM.mk (fun _ => ?_) (fun _ => ?_) | refine Ar.i64 (by omega) (by omega) ?_ | refine gO rfl ?_ | refine gP rfl (by repeat constructor) ?_) <;> conv => whnf) | (refine atOne ?_; refine Nx.eqS rfl (.inr rfl) rfl rfl rfl rfl (by kernel_rfl) (eq39 e e) rfl ?_) | (refine atIdx ?_; refine Nx.idx 7 (j := q) rfl rfl rfl Try.underlying23 rfl rfl rfl inC_len hW rfl (by omega) (by omega) fun _ _ _ => ?_) | (refine atLoad ?_; first | (refine Nx.load1 7 rfl rfl rfl rfl (SeesAt.sub (by assumption) _ rfl) rfl ?_) | (refine Nx.load1 7 rfl rfl rfl rfl (by assumption) rfl ?_) | (refine Nx.load 7 rfl rfl rfl rfl (by assumption) rfl rfl ?_)) | (refine atCall 12 ?_; refine cE [1] [1] rfl rfl rfl rfl rfl (hE) rfl ?_) | (refine atCall 13 ?_; refine cE [2] [2] rfl rfl rfl rfl rfl (hE2) rfl ?_) | (refine atCall 14 ?_; refine cE [1] [1] rfl rfl rfl rfl rfl (hH) rfl ?_) | (refine atCall 15 ?_; refine cE [2] [2] rfl rfl rfl rfl rfl (hH2) rfl ?_) | refine Nx.late ?_)
        refine (ih2 (q + 1) (by omega) (by omega)).weak ?_ ?_ ?_ ?_
        all_goals repeat (first | exact .nil _ | refine .cons rfl ?_ | refine .cons rfl rfl ?_ | refine .cons rfl rfl rfl ?_ | refine .cons' rfl (fun _ => rfl) ?_)
      | false =>
        repeat' (first | (refine atBr ?_; refine BrM.f ((key e)) ?_; conv => whnf) | ((first | refine BrM.yes (by omega) ?_ | refine BrM.not (by omega) ?_ | refine BrM.t rfl ?_ | refine BrM.f rfl ?_ | refine BrM.dec (fun _ => ?_) (fun _ => ?_) | refine BrM.mk (fun _ => ?_) (fun _ => ?_) | refine Ar.i64 (by omega) (by omega) ?_ | refine gO rfl ?_ | refine gP rfl (by repeat constructor) ?_) <;> conv => whnf) | (refine atOne ?_; refine Nx.eqS rfl (.inr rfl) rfl rfl rfl rfl (by kernel_rfl) (eq39 e e) rfl ?_) | (refine atIdx ?_; refine Nx.idx 7 (j := q) rfl rfl rfl Try.underlying23 rfl rfl rfl inC_len hW rfl (by omega) (by omega) fun _ _ _ => ?_) | (refine atLoad ?_; first | (refine Nx.load1 7 rfl rfl rfl rfl (SeesAt.sub (by assumption) _ rfl) rfl ?_) | (refine Nx.load1 7 rfl rfl rfl rfl (by assumption) rfl ?_) | (refine Nx.load 7 rfl rfl rfl rfl (by assumption) rfl rfl ?_)) | (refine atCall 12 ?_; refine cE [1] [1] rfl rfl rfl rfl rfl (hE) rfl ?_) | (refine atCall 13 ?_; refine cE [2] [2] rfl rfl rfl rfl rfl (hE2) rfl ?_) | (refine atCall 14 ?_; refine cE [1] [1] rfl rfl rfl rfl rfl (hH) rfl ?_) | (refine atCall 15 ?_; refine cE [2] [2] rfl rfl rfl rfl rfl (hH2) rfl ?_) | refine Nx.late ?_)
        refine (ih2 (q + 1) (by omega) (by omega)).weak ?_ ?_ ?_ ?_
        all_goals repeat (first | exact .nil _ | refine .cons rfl ?_ | refine .cons rfl rfl ?_ | refine .cons rfl rfl rfl ?_ | refine .cons' rfl (fun _ => rfl) ?_)
  · repeat' (first | ((first | refine BrM.not (by omega) ?_ | refine BrM.t rfl ?_ | refine BrM.f rfl ?_ | refine BrM.dec (fun _ => ?_) (fun _ => ?_) | refine BrM.mk (fun _ => ?_) (fun _ => ?_) | refine Ar.i64 (by omega) (by omega) ?_ | refine gO rfl ?_ | refine gP rfl (by repeat constructor) ?_) <;> conv => whnf) | refine Nx.late ?_)
    refine (ih (j + 1) (by omega) (by omega)).weak ?_ ?_ ?_ ?_
    all_goals repeat (first | exact .nil _ | refine .cons rfl ?_ | refine .cons rfl rfl ?_ | refine .cons rfl rfl rfl ?_ | refine .cons' rfl (fun _ => rfl) ?_)
end Go.Proofs.Ytngfadijcpnblaa
