/- The program's model: handles. -/
import Derived.Test.YtngfadijcpnblaaMc
set_option linter.unusedSimpArgs false
set_option linter.unusedVariables false
/- The program's model: more functions that only look. -/
namespace Go.Proofs.Ytngfadijcpnblaa
open Go.RowKit
set_option maxRecDepth 20000
set_option maxHeartbeats 2000000
attribute [local irreducible] Nx Ar BrM headC OneC HoC AftC planHead endF
theorem MdW.rn {M : MdH} (hm : MdW M.p) : M.readers.length ≤ 512 ∧ M.writers.length ≤ 512 ∧ M.writers.length + M.readers.length ≤ 512 := by have := hm.nw; simp only [MdH.p, List.length_map] at this; omega
theorem at_ok (M : MdH) (hm : MdW M.p) (who ring : Int) : FnOk Try.prog 36 [ptr M.b, .int .i64 who, .int .i64 ring] [M.sp] (fun v Q => v = M.rp (M.p.at who ring) ∧ Q = [M.sp]) := by
  have hM := M.seeM
  have hW := M.seeR
  have hn := (hm.rn).1
  refine FnOk.start Try.func36 rfl rfl rfl rfl fun F os tape output => ?_
  refine go 200 ?_
  conv => whnf
  repeat' (first | ((first | refine BrM.t rfl ?_ | refine BrM.f rfl ?_ | refine BrM.dec (fun _ => ?_) (fun _ => ?_) | refine BrM.mk (fun _ => ?_) (fun _ => ?_) | refine Ar.i64 (by omega) (by omega) ?_ | refine gO rfl ?_ | refine gP rfl (by repeat constructor) ?_) <;> conv => whnf) | (refine atLoad ?_; refine Nx.load1 0 rfl rfl rfl rfl ((hM.sub 2 rfl)) rfl ?_) | refine Nx.late ?_)
  refine Nx.loop (X := Nat) (fun k => k ≤ M.readers.length ∧ ∀ i, (hi : i < k) → (hl : i < M.readers.length) → ¬(M.readers[i].r.who = who ∧ M.readers[i].r.ring = ring)) (fun k => M.readers.length - k)
    (fun k => [(0, .c (.v (ptr M.b))), (1, iv who), (2, iv ring), (12, sl M.rA M.readers.length M.rc), (13, iv M.readers.length), (14, iv k)]) (fun _ => []) [] (fun _ => [(0, M.sp)]) 0 ⟨Nat.zero_le _, fun i hi => by omega⟩ ?_ ?_ ?_ ?_ ?_
  all_goals repeat (first | exact .nil _ | refine .cons rfl ?_ | refine .cons rfl rfl ?_ | refine .cons rfl rfl rfl ?_ | refine .cons' rfl (fun _ => rfl) ?_)
  intro k ⟨hk, hno⟩ ih
  by_cases hlt : k < M.readers.length
  · have hx := MdH.rat (M := M) (List.getElem_mem hlt)
    have next : ¬(M.readers[k].r.who = who ∧ M.readers[k].r.ring = ring) → ∀ i, (hi : i < k + 1) → (hl : i < M.readers.length) → ¬(M.readers[i].r.who = who ∧ M.readers[i].r.ring = ring) := fun hw i hi hl => by
      by_cases e : i = k
      · subst e; exact hw
      · exact hno i (by omega) hl
    by_cases hw : M.readers[k].r.who = who
    · by_cases hr : M.readers[k].r.ring = ring
      · have e : M.rp (M.p.at who ring) = ptr M.readers[k].b := by
          have : M.p.at who ring = some k := findI_some (by simpa [MdH.p] using hlt) (by simp [MdH.p, hw, hr]) fun i hi => by simpa [MdH.p] using hno i hi (by omega)
          rw [this]
          simp [MdH.rp, List.getElem?_eq_getElem hlt]
        rw [e]
        repeat' (first | ((first | refine BrM.yes (by omega) ?_ | refine BrM.t rfl ?_ | refine BrM.f rfl ?_ | refine BrM.dec (fun _ => ?_) (fun _ => ?_) | refine BrM.mk (fun _ => ?_) (fun _ => ?_) | refine Ar.i64 (by omega) (by omega) ?_ | refine gO rfl ?_ | refine gP rfl (by repeat constructor) ?_) <;> conv => whnf) | (refine atIdx ?_; refine Nx.idx 0 (j := k) rfl rfl rfl Try.underlying75 rfl rfl rfl RdH.pt_len hW rfl (by omega) (by omega) fun _ _ _ => ?_) | (refine atLoad ?_; refine Nx.load1 0 rfl rfl rfl rfl ((hx.sub 0 rfl)) rfl ?_) | (refine atLoad ?_; refine Nx.load1 0 rfl rfl rfl rfl ((hx.sub 1 rfl)) rfl ?_) | (refine atLoad ?_; first | (refine Nx.load1 0 rfl rfl rfl rfl (SeesAt.sub (by assumption) _ rfl) rfl ?_) | (refine Nx.load1 0 rfl rfl rfl rfl (by assumption) rfl ?_) | (refine Nx.load 0 rfl rfl rfl rfl (by assumption) rfl rfl ?_)) | (refine atRet ?_; refine Nx.ret [0] Try.func36 rfl rfl ?_; (exact ⟨rfl, rfl⟩)) | refine Nx.late ?_)
      · repeat' (first | (refine atBr ?_; refine BrM.not (hr) ?_; conv => whnf) | ((first | refine BrM.yes (by omega) ?_ | refine BrM.t rfl ?_ | refine BrM.f rfl ?_ | refine BrM.dec (fun _ => ?_) (fun _ => ?_) | refine BrM.mk (fun _ => ?_) (fun _ => ?_) | refine Ar.i64 (by omega) (by omega) ?_ | refine gO rfl ?_ | refine gP rfl (by repeat constructor) ?_) <;> conv => whnf) | (refine atIdx ?_; refine Nx.idx 0 (j := k) rfl rfl rfl Try.underlying75 rfl rfl rfl RdH.pt_len hW rfl (by omega) (by omega) fun _ _ _ => ?_) | (refine atLoad ?_; refine Nx.load1 0 rfl rfl rfl rfl ((hx.sub 0 rfl)) rfl ?_) | (refine atLoad ?_; refine Nx.load1 0 rfl rfl rfl rfl ((hx.sub 1 rfl)) rfl ?_) | (refine atLoad ?_; first | (refine Nx.load1 0 rfl rfl rfl rfl (SeesAt.sub (by assumption) _ rfl) rfl ?_) | (refine Nx.load1 0 rfl rfl rfl rfl (by assumption) rfl ?_) | (refine Nx.load 0 rfl rfl rfl rfl (by assumption) rfl rfl ?_)) | refine Nx.late ?_)
        refine (ih (k + 1) ⟨by omega, next (fun h => hr h.2)⟩ (by omega)).weak ?_ ?_ ?_ ?_
        · exact .cons rfl rfl (.cons rfl rfl (.cons rfl rfl (.cons rfl rfl (.cons rfl rfl (.cons rfl (by simp) (.nil _))))))
        all_goals repeat (first | exact .nil _ | refine .cons rfl ?_ | refine .cons rfl rfl ?_ | refine .cons rfl rfl rfl ?_ | refine .cons' rfl (fun _ => rfl) ?_)
    · repeat' (first | (refine atBr ?_; refine BrM.not (hw) ?_; conv => whnf) | ((first | refine BrM.yes (by omega) ?_ | refine BrM.t rfl ?_ | refine BrM.f rfl ?_ | refine BrM.dec (fun _ => ?_) (fun _ => ?_) | refine BrM.mk (fun _ => ?_) (fun _ => ?_) | refine Ar.i64 (by omega) (by omega) ?_ | refine gO rfl ?_ | refine gP rfl (by repeat constructor) ?_) <;> conv => whnf) | (refine atIdx ?_; refine Nx.idx 0 (j := k) rfl rfl rfl Try.underlying75 rfl rfl rfl RdH.pt_len hW rfl (by omega) (by omega) fun _ _ _ => ?_) | (refine atLoad ?_; refine Nx.load1 0 rfl rfl rfl rfl ((hx.sub 0 rfl)) rfl ?_) | (refine atLoad ?_; refine Nx.load1 0 rfl rfl rfl rfl ((hx.sub 1 rfl)) rfl ?_) | (refine atLoad ?_; first | (refine Nx.load1 0 rfl rfl rfl rfl (SeesAt.sub (by assumption) _ rfl) rfl ?_) | (refine Nx.load1 0 rfl rfl rfl rfl (by assumption) rfl ?_) | (refine Nx.load 0 rfl rfl rfl rfl (by assumption) rfl rfl ?_)) | refine Nx.late ?_)
      refine (ih (k + 1) ⟨by omega, next (fun h => hw h.1)⟩ (by omega)).weak ?_ ?_ ?_ ?_
      · exact .cons rfl rfl (.cons rfl rfl (.cons rfl rfl (.cons rfl rfl (.cons rfl rfl (.cons rfl (by simp) (.nil _))))))
      all_goals repeat (first | exact .nil _ | refine .cons rfl ?_ | refine .cons rfl rfl ?_ | refine .cons rfl rfl rfl ?_ | refine .cons' rfl (fun _ => rfl) ?_)
  · have e : M.rp (M.p.at who ring) = .pointer none := by
      have : M.p.at who ring = none := findI_none fun i hi => by
        have hl : i < M.readers.length := by simpa [MdH.p] using hi
        have := hno i (by omega) hl
        simpa [MdH.p] using this
      rw [this]; rfl
    rw [e]
    repeat' (first | ((first | refine BrM.not (by omega) ?_ | refine BrM.t rfl ?_ | refine BrM.f rfl ?_ | refine BrM.dec (fun _ => ?_) (fun _ => ?_) | refine BrM.mk (fun _ => ?_) (fun _ => ?_) | refine Ar.i64 (by omega) (by omega) ?_ | refine gO rfl ?_ | refine gP rfl (by repeat constructor) ?_) <;> conv => whnf) | (refine atRet ?_; refine Nx.ret [0] Try.func36 rfl rfl ?_; (exact ⟨rfl, rfl⟩)) | refine Nx.late ?_)
theorem stopped_ok (M : MdH) (hm : MdW M.p) (who : Int) : FnOk Try.prog 44 [ptr M.b, .int .i64 who] [M.sp] (fun v Q => v = .bool (M.p.stopped who) ∧ Q = [M.sp]) := by
  have hM := M.seeM
  have hW := M.seeR
  have hn := (hm.rn).1
  refine FnOk.start Try.func44 rfl rfl rfl rfl fun F os tape output => ?_
  refine go 200 ?_
  conv => whnf
  repeat' (first | ((first | refine BrM.t rfl ?_ | refine BrM.f rfl ?_ | refine BrM.dec (fun _ => ?_) (fun _ => ?_) | refine BrM.mk (fun _ => ?_) (fun _ => ?_) | refine Ar.i64 (by omega) (by omega) ?_ | refine gO rfl ?_ | refine gP rfl (by repeat constructor) ?_) <;> conv => whnf) | (refine atLoad ?_; refine Nx.load1 0 rfl rfl rfl rfl ((hM.sub 2 rfl)) rfl ?_) | refine Nx.late ?_)
  refine Nx.loop (X := Nat) (fun k => k ≤ M.readers.length ∧ ∀ i, (hi : i < k) → (hl : i < M.readers.length) → ¬(M.readers[i].r.who = who ∧ M.readers[i].r.over = true)) (fun k => M.readers.length - k)
    (fun k => [(0, .c (.v (ptr M.b))), (1, iv who), (10, sl M.rA M.readers.length M.rc), (11, iv M.readers.length), (12, iv k)]) (fun _ => []) [] (fun _ => [(0, M.sp)]) 0 ⟨Nat.zero_le _, fun i hi => by omega⟩ ?_ ?_ ?_ ?_ ?_
  all_goals repeat (first | exact .nil _ | refine .cons rfl ?_ | refine .cons rfl rfl ?_ | refine .cons rfl rfl rfl ?_ | refine .cons' rfl (fun _ => rfl) ?_)
  intro k ⟨hk, hno⟩ ih
  by_cases hlt : k < M.readers.length
  · have hx := MdH.rat (M := M) (List.getElem_mem hlt)
    have next : ¬(M.readers[k].r.who = who ∧ M.readers[k].r.over = true) → ∀ i, (hi : i < k + 1) → (hl : i < M.readers.length) → ¬(M.readers[i].r.who = who ∧ M.readers[i].r.over = true) := fun hw i hi hl => by
      by_cases e : i = k
      · subst e; exact hw
      · exact hno i (by omega) hl
    by_cases hw : M.readers[k].r.who = who
    · by_cases hr : M.readers[k].r.over = true
      · have e : M.p.stopped who = true := by
          unfold MdP.stopped
          rw [List.any_eq_true]
          exact ⟨M.readers[k].r, List.mem_map_of_mem (List.getElem_mem hlt), by simp [hw, hr]⟩
        rw [e]
        repeat' (first | (refine atBr ?_; refine BrM.t (hr) ?_; conv => whnf) | ((first | refine BrM.yes (by omega) ?_ | refine BrM.t rfl ?_ | refine BrM.f rfl ?_ | refine BrM.dec (fun _ => ?_) (fun _ => ?_) | refine BrM.mk (fun _ => ?_) (fun _ => ?_) | refine Ar.i64 (by omega) (by omega) ?_ | refine gO rfl ?_ | refine gP rfl (by repeat constructor) ?_) <;> conv => whnf) | (refine atIdx ?_; refine Nx.idx 0 (j := k) rfl rfl rfl Try.underlying75 rfl rfl rfl RdH.pt_len hW rfl (by omega) (by omega) fun _ _ _ => ?_) | (refine atLoad ?_; refine Nx.load1 0 rfl rfl rfl rfl ((hx.sub 0 rfl)) rfl ?_) | (refine atLoad ?_; refine Nx.load1 0 rfl rfl rfl rfl ((hx.sub 8 rfl)) rfl ?_) | (refine atLoad ?_; first | (refine Nx.load1 0 rfl rfl rfl rfl (SeesAt.sub (by assumption) _ rfl) rfl ?_) | (refine Nx.load1 0 rfl rfl rfl rfl (by assumption) rfl ?_) | (refine Nx.load 0 rfl rfl rfl rfl (by assumption) rfl rfl ?_)) | (refine atRet ?_; refine Nx.ret [0] Try.func44 rfl rfl ?_; (exact ⟨rfl, rfl⟩)) | refine Nx.late ?_)
      · repeat' (first | (refine atBr ?_; refine BrM.f ((by simpa using hr)) ?_; conv => whnf) | ((first | refine BrM.yes (by omega) ?_ | refine BrM.t rfl ?_ | refine BrM.f rfl ?_ | refine BrM.dec (fun _ => ?_) (fun _ => ?_) | refine BrM.mk (fun _ => ?_) (fun _ => ?_) | refine Ar.i64 (by omega) (by omega) ?_ | refine gO rfl ?_ | refine gP rfl (by repeat constructor) ?_) <;> conv => whnf) | (refine atIdx ?_; refine Nx.idx 0 (j := k) rfl rfl rfl Try.underlying75 rfl rfl rfl RdH.pt_len hW rfl (by omega) (by omega) fun _ _ _ => ?_) | (refine atLoad ?_; refine Nx.load1 0 rfl rfl rfl rfl ((hx.sub 0 rfl)) rfl ?_) | (refine atLoad ?_; refine Nx.load1 0 rfl rfl rfl rfl ((hx.sub 8 rfl)) rfl ?_) | (refine atLoad ?_; first | (refine Nx.load1 0 rfl rfl rfl rfl (SeesAt.sub (by assumption) _ rfl) rfl ?_) | (refine Nx.load1 0 rfl rfl rfl rfl (by assumption) rfl ?_) | (refine Nx.load 0 rfl rfl rfl rfl (by assumption) rfl rfl ?_)) | refine Nx.late ?_)
        refine (ih (k + 1) ⟨by omega, next (fun h => hr h.2)⟩ (by omega)).weak ?_ ?_ ?_ ?_
        · exact .cons rfl rfl (.cons rfl rfl (.cons rfl rfl (.cons rfl rfl (.cons rfl (by simp) (.nil _)))))
        all_goals repeat (first | exact .nil _ | refine .cons rfl ?_ | refine .cons rfl rfl ?_ | refine .cons rfl rfl rfl ?_ | refine .cons' rfl (fun _ => rfl) ?_)
    · repeat' (first | (refine atBr ?_; refine BrM.not (hw) ?_; conv => whnf) | ((first | refine BrM.yes (by omega) ?_ | refine BrM.t rfl ?_ | refine BrM.f rfl ?_ | refine BrM.dec (fun _ => ?_) (fun _ => ?_) | refine BrM.mk (fun _ => ?_) (fun _ => ?_) | refine Ar.i64 (by omega) (by omega) ?_ | refine gO rfl ?_ | refine gP rfl (by repeat constructor) ?_) <;> conv => whnf) | (refine atIdx ?_; refine Nx.idx 0 (j := k) rfl rfl rfl Try.underlying75 rfl rfl rfl RdH.pt_len hW rfl (by omega) (by omega) fun _ _ _ => ?_) | (refine atLoad ?_; refine Nx.load1 0 rfl rfl rfl rfl ((hx.sub 0 rfl)) rfl ?_) | (refine atLoad ?_; refine Nx.load1 0 rfl rfl rfl rfl ((hx.sub 8 rfl)) rfl ?_) | (refine atLoad ?_; first | (refine Nx.load1 0 rfl rfl rfl rfl (SeesAt.sub (by assumption) _ rfl) rfl ?_) | (refine Nx.load1 0 rfl rfl rfl rfl (by assumption) rfl ?_) | (refine Nx.load 0 rfl rfl rfl rfl (by assumption) rfl rfl ?_)) | refine Nx.late ?_)
      refine (ih (k + 1) ⟨by omega, next (fun h => hw h.1)⟩ (by omega)).weak ?_ ?_ ?_ ?_
      · exact .cons rfl rfl (.cons rfl rfl (.cons rfl rfl (.cons rfl rfl (.cons rfl (by simp) (.nil _)))))
      all_goals repeat (first | exact .nil _ | refine .cons rfl ?_ | refine .cons rfl rfl ?_ | refine .cons rfl rfl rfl ?_ | refine .cons' rfl (fun _ => rfl) ?_)
  · have e : M.p.stopped who = false := by
      unfold MdP.stopped
      rw [List.any_eq_false]
      intro r hr
      obtain ⟨x, hx, rfl⟩ := List.mem_map.1 hr
      obtain ⟨i, hi, rfl⟩ := List.getElem_of_mem hx
      have := hno i (by omega) hi
      simpa using this
    rw [e]
    repeat' (first | ((first | refine BrM.not (by omega) ?_ | refine BrM.t rfl ?_ | refine BrM.f rfl ?_ | refine BrM.dec (fun _ => ?_) (fun _ => ?_) | refine BrM.mk (fun _ => ?_) (fun _ => ?_) | refine Ar.i64 (by omega) (by omega) ?_ | refine gO rfl ?_ | refine gP rfl (by repeat constructor) ?_) <;> conv => whnf) | (refine atRet ?_; refine Nx.ret [0] Try.func44 rfl rfl ?_; (exact ⟨rfl, rfl⟩)) | refine Nx.late ?_)
theorem named_ok (M : MdH) (hm : MdW M.p) (who : Int) : FnOk Try.prog 40 [ptr M.b, .int .i64 who] [M.sp] (fun v Q => v = .bool (M.p.named who) ∧ Q = [M.sp]) := by
  have hM := M.seeM
  have hW := M.seeW
  have hR := M.seeR
  have hn := hm.rn
  refine FnOk.start Try.func40 rfl rfl rfl rfl fun F os tape output => ?_
  refine go 200 ?_
  conv => whnf
  repeat' (first | ((first | refine BrM.t rfl ?_ | refine BrM.f rfl ?_ | refine BrM.dec (fun _ => ?_) (fun _ => ?_) | refine BrM.mk (fun _ => ?_) (fun _ => ?_) | refine Ar.i64 (by omega) (by omega) ?_ | refine gO rfl ?_ | refine gP rfl (by repeat constructor) ?_) <;> conv => whnf) | (refine atLoad ?_; refine Nx.load1 0 rfl rfl rfl rfl ((hM.sub 1 rfl)) rfl ?_) | refine Nx.late ?_)
  refine Nx.loop (X := Nat) (fun k => k ≤ M.writers.length ∧ ∀ i, (hi : i < k) → (hl : i < M.writers.length) → M.writers[i].who ≠ who) (fun k => M.writers.length - k)
    (fun k => [(0, .c (.v (ptr M.b))), (1, iv who), (12, sl M.wA M.writers.length M.wc), (13, iv M.writers.length), (14, iv k)]) (fun _ => []) [] (fun _ => [(0, M.sp)]) 0 ⟨Nat.zero_le _, fun i hi => by omega⟩ ?_ ?_ ?_ ?_ ?_
  all_goals repeat (first | exact .nil _ | refine .cons rfl ?_ | refine .cons rfl rfl ?_ | refine .cons rfl rfl rfl ?_ | refine .cons' rfl (fun _ => rfl) ?_)
  intro k ⟨hk, hno⟩ ih
  by_cases hlt : k < M.writers.length
  · have hx := MdH.wat (M := M) (List.getElem_mem hlt)
    by_cases hw : M.writers[k].who = who
    · have e : M.p.named who = true := by
        unfold MdP.named
        rw [Bool.or_eq_true]
        left
        rw [List.any_eq_true]
        exact ⟨M.writers[k].p, List.mem_map_of_mem (List.getElem_mem hlt), by simp [WrH.p, hw]⟩
      rw [e]
      repeat' (first | ((first | refine BrM.yes (by omega) ?_ | refine BrM.t rfl ?_ | refine BrM.f rfl ?_ | refine BrM.dec (fun _ => ?_) (fun _ => ?_) | refine BrM.mk (fun _ => ?_) (fun _ => ?_) | refine Ar.i64 (by omega) (by omega) ?_ | refine gO rfl ?_ | refine gP rfl (by repeat constructor) ?_) <;> conv => whnf) | (refine atIdx ?_; refine Nx.idx 0 (j := k) rfl rfl rfl Try.underlying74 rfl rfl rfl WrH.pt_len hW rfl (by omega) (by omega) fun _ _ _ => ?_) | (refine atLoad ?_; refine Nx.load1 0 rfl rfl rfl rfl ((hx.sub 0 rfl)) rfl ?_) | (refine atLoad ?_; first | (refine Nx.load1 0 rfl rfl rfl rfl (SeesAt.sub (by assumption) _ rfl) rfl ?_) | (refine Nx.load1 0 rfl rfl rfl rfl (by assumption) rfl ?_) | (refine Nx.load 0 rfl rfl rfl rfl (by assumption) rfl rfl ?_)) | (refine atRet ?_; refine Nx.ret [0] Try.func40 rfl rfl ?_; (exact ⟨rfl, rfl⟩)) | refine Nx.late ?_)
    · repeat' (first | (refine atBr ?_; refine BrM.not (hw) ?_; conv => whnf) | ((first | refine BrM.yes (by omega) ?_ | refine BrM.t rfl ?_ | refine BrM.f rfl ?_ | refine BrM.dec (fun _ => ?_) (fun _ => ?_) | refine BrM.mk (fun _ => ?_) (fun _ => ?_) | refine Ar.i64 (by omega) (by omega) ?_ | refine gO rfl ?_ | refine gP rfl (by repeat constructor) ?_) <;> conv => whnf) | (refine atIdx ?_; refine Nx.idx 0 (j := k) rfl rfl rfl Try.underlying74 rfl rfl rfl WrH.pt_len hW rfl (by omega) (by omega) fun _ _ _ => ?_) | (refine atLoad ?_; refine Nx.load1 0 rfl rfl rfl rfl ((hx.sub 0 rfl)) rfl ?_) | (refine atLoad ?_; first | (refine Nx.load1 0 rfl rfl rfl rfl (SeesAt.sub (by assumption) _ rfl) rfl ?_) | (refine Nx.load1 0 rfl rfl rfl rfl (by assumption) rfl ?_) | (refine Nx.load 0 rfl rfl rfl rfl (by assumption) rfl rfl ?_)) | refine Nx.late ?_)
      refine (ih (k + 1) ⟨by omega, fun i hi hl => ?_⟩ (by omega)).weak ?_ ?_ ?_ ?_
      · by_cases e : i = k
        · subst e; exact hw
        · exact hno i (by omega) hl
      · exact .cons rfl rfl (.cons rfl rfl (.cons rfl rfl (.cons rfl rfl (.cons rfl (by simp) (.nil _)))))
      all_goals repeat (first | exact .nil _ | refine .cons rfl ?_ | refine .cons rfl rfl ?_ | refine .cons rfl rfl rfl ?_ | refine .cons' rfl (fun _ => rfl) ?_)
  · have e0 : (M.p.writers.any fun w => decide (w.who = who)) = false := by
      rw [List.any_eq_false]
      intro r hr
      obtain ⟨x, hx, rfl⟩ := List.mem_map.1 hr
      obtain ⟨i, hi, rfl⟩ := List.getElem_of_mem hx
      have := hno i (by omega) hi
      simp [WrH.p, this]
    unfold MdP.named
    rw [e0, Bool.false_or]
    clear ih hno
    repeat' (first | ((first | refine BrM.not (by omega) ?_ | refine BrM.t rfl ?_ | refine BrM.f rfl ?_ | refine BrM.dec (fun _ => ?_) (fun _ => ?_) | refine BrM.mk (fun _ => ?_) (fun _ => ?_) | refine Ar.i64 (by omega) (by omega) ?_ | refine gO rfl ?_ | refine gP rfl (by repeat constructor) ?_) <;> conv => whnf) | (refine atLoad ?_; refine Nx.load1 0 rfl rfl rfl rfl ((hM.sub 2 rfl)) rfl ?_) | refine Nx.late ?_)
    refine Nx.loop (X := Nat) (fun k => k ≤ M.readers.length ∧ ∀ i, (hi : i < k) → (hl : i < M.readers.length) → M.readers[i].r.who ≠ who) (fun k => M.readers.length - k)
      (fun k => [(0, .c (.v (ptr M.b))), (1, iv who), (28, sl M.rA M.readers.length M.rc), (29, iv M.readers.length), (30, iv k)]) (fun _ => []) [] (fun _ => [(0, M.sp)]) 0 ⟨Nat.zero_le _, fun i hi => by omega⟩ ?_ ?_ ?_ ?_ ?_
    all_goals repeat (first | exact .nil _ | refine .cons rfl ?_ | refine .cons rfl rfl ?_ | refine .cons rfl rfl rfl ?_ | refine .cons' rfl (fun _ => rfl) ?_)
    intro k ⟨hk, hno⟩ ih
    by_cases hlt : k < M.readers.length
    · have hx := MdH.rat (M := M) (List.getElem_mem hlt)
      by_cases hw : M.readers[k].r.who = who
      · have e : (M.p.readers.any fun w => decide (w.who = who)) = true := by
          rw [List.any_eq_true]
          exact ⟨M.readers[k].r, List.mem_map_of_mem (List.getElem_mem hlt), by simp [hw]⟩
        rw [e]
        repeat' (first | ((first | refine BrM.yes (by omega) ?_ | refine BrM.t rfl ?_ | refine BrM.f rfl ?_ | refine BrM.dec (fun _ => ?_) (fun _ => ?_) | refine BrM.mk (fun _ => ?_) (fun _ => ?_) | refine Ar.i64 (by omega) (by omega) ?_ | refine gO rfl ?_ | refine gP rfl (by repeat constructor) ?_) <;> conv => whnf) | (refine atIdx ?_; refine Nx.idx 0 (j := k) rfl rfl rfl Try.underlying75 rfl rfl rfl RdH.pt_len hR rfl (by omega) (by omega) fun _ _ _ => ?_) | (refine atLoad ?_; refine Nx.load1 0 rfl rfl rfl rfl ((hx.sub 0 rfl)) rfl ?_) | (refine atLoad ?_; first | (refine Nx.load1 0 rfl rfl rfl rfl (SeesAt.sub (by assumption) _ rfl) rfl ?_) | (refine Nx.load1 0 rfl rfl rfl rfl (by assumption) rfl ?_) | (refine Nx.load 0 rfl rfl rfl rfl (by assumption) rfl rfl ?_)) | (refine atRet ?_; refine Nx.ret [0] Try.func40 rfl rfl ?_; (exact ⟨rfl, rfl⟩)) | refine Nx.late ?_)
      · repeat' (first | (refine atBr ?_; refine BrM.not (hw) ?_; conv => whnf) | ((first | refine BrM.yes (by omega) ?_ | refine BrM.t rfl ?_ | refine BrM.f rfl ?_ | refine BrM.dec (fun _ => ?_) (fun _ => ?_) | refine BrM.mk (fun _ => ?_) (fun _ => ?_) | refine Ar.i64 (by omega) (by omega) ?_ | refine gO rfl ?_ | refine gP rfl (by repeat constructor) ?_) <;> conv => whnf) | (refine atIdx ?_; refine Nx.idx 0 (j := k) rfl rfl rfl Try.underlying75 rfl rfl rfl RdH.pt_len hR rfl (by omega) (by omega) fun _ _ _ => ?_) | (refine atLoad ?_; refine Nx.load1 0 rfl rfl rfl rfl ((hx.sub 0 rfl)) rfl ?_) | (refine atLoad ?_; first | (refine Nx.load1 0 rfl rfl rfl rfl (SeesAt.sub (by assumption) _ rfl) rfl ?_) | (refine Nx.load1 0 rfl rfl rfl rfl (by assumption) rfl ?_) | (refine Nx.load 0 rfl rfl rfl rfl (by assumption) rfl rfl ?_)) | refine Nx.late ?_)
        refine (ih (k + 1) ⟨by omega, fun i hi hl => ?_⟩ (by omega)).weak ?_ ?_ ?_ ?_
        · by_cases e : i = k
          · subst e; exact hw
          · exact hno i (by omega) hl
        · exact .cons rfl rfl (.cons rfl rfl (.cons rfl rfl (.cons rfl rfl (.cons rfl (by simp) (.nil _)))))
        all_goals repeat (first | exact .nil _ | refine .cons rfl ?_ | refine .cons rfl rfl ?_ | refine .cons rfl rfl rfl ?_ | refine .cons' rfl (fun _ => rfl) ?_)
    · have e0 : (M.p.readers.any fun w => decide (w.who = who)) = false := by
        rw [List.any_eq_false]
        intro r hr
        obtain ⟨x, hx, rfl⟩ := List.mem_map.1 hr
        obtain ⟨i, hi, rfl⟩ := List.getElem_of_mem hx
        have := hno i (by omega) hi
        simp [this]
      rw [e0]
      repeat' (first | ((first | refine BrM.not (by omega) ?_ | refine BrM.t rfl ?_ | refine BrM.f rfl ?_ | refine BrM.dec (fun _ => ?_) (fun _ => ?_) | refine BrM.mk (fun _ => ?_) (fun _ => ?_) | refine Ar.i64 (by omega) (by omega) ?_ | refine gO rfl ?_ | refine gP rfl (by repeat constructor) ?_) <;> conv => whnf) | (refine atRet ?_; refine Nx.ret [0] Try.func40 rfl rfl ?_; (exact ⟨rfl, rfl⟩)) | refine Nx.late ?_)
theorem published_ok (M : MdH) {x : LogH} (hx : x ∈ M.logs) (hl : x.g.there.length = x.g.l.length ∧ x.g.l.length ≤ 2000000) (i : Int) : FnOk Try.prog 34 [ptr x.b, .int .i64 i] [M.sp] (fun v Q => v = .bool (x.g.pub i) ∧ Q = [M.sp]) := by
  have h1 := MdH.lat hx
  have h2 := MdH.lbo hx
  by_cases h0 : 0 ≤ i
  · by_cases hi : i < x.g.there.length
    · have hk : i.toNat < x.g.there.length := by omega
      have e : x.g.pub i = x.g.there[i.toNat] := by
        unfold LogP.pub
        rw [List.getD_eq_getElem?_getD, List.getElem?_eq_getElem hk]
        simp [h0]
      rw [e]
      refine FnOk.start Try.func34 rfl rfl rfl rfl fun F os tape output => ?_
      refine go 200 ?_
      conv => whnf
      repeat' (first | ((first | refine BrM.yes (by omega) ?_ | refine BrM.t rfl ?_ | refine BrM.f rfl ?_ | refine BrM.dec (fun _ => ?_) (fun _ => ?_) | refine BrM.mk (fun _ => ?_) (fun _ => ?_) | refine Ar.i64 (by omega) (by omega) ?_ | refine gO rfl ?_ | refine gP rfl (by repeat constructor) ?_) <;> conv => whnf) | (refine atIdx ?_; refine Nx.idx 0 (j := i.toNat) rfl rfl rfl Try.underlying88 rfl rfl rfl boC_len h2 rfl (by omega) (by omega) fun _ _ _ => ?_) | (refine atLoad ?_; refine Nx.load1 0 rfl rfl rfl rfl ((h1.sub 3 rfl)) rfl ?_) | (refine atLoad ?_; first | (refine Nx.load1 0 rfl rfl rfl rfl (SeesAt.sub (by assumption) _ rfl) rfl ?_) | (refine Nx.load1 0 rfl rfl rfl rfl (by assumption) rfl ?_) | (refine Nx.load 0 rfl rfl rfl rfl (by assumption) rfl rfl ?_)) | (refine atRet ?_; refine Nx.ret [0] Try.func34 rfl rfl ?_; (exact ⟨rfl, rfl⟩)) | refine Nx.late ?_)
    · have e : x.g.pub i = false := by
        unfold LogP.pub
        rw [List.getD_eq_getElem?_getD, List.getElem?_eq_none (by omega)]
        simp
      rw [e]
      refine FnOk.start Try.func34 rfl rfl rfl rfl fun F os tape output => ?_
      refine go 200 ?_
      conv => whnf
      repeat' (first | ((first | refine BrM.yes (by omega) ?_ | refine BrM.not (by omega) ?_ | refine BrM.t rfl ?_ | refine BrM.f rfl ?_ | refine BrM.dec (fun _ => ?_) (fun _ => ?_) | refine BrM.mk (fun _ => ?_) (fun _ => ?_) | refine Ar.i64 (by omega) (by omega) ?_ | refine gO rfl ?_ | refine gP rfl (by repeat constructor) ?_) <;> conv => whnf) | (refine atLoad ?_; refine Nx.load1 0 rfl rfl rfl rfl ((h1.sub 3 rfl)) rfl ?_) | (refine atRet ?_; refine Nx.ret [0] Try.func34 rfl rfl ?_; (exact ⟨rfl, rfl⟩)) | refine Nx.late ?_)
  · have e : x.g.pub i = false := by
      unfold LogP.pub
      simp [h0]
    rw [e]
    refine FnOk.start Try.func34 rfl rfl rfl rfl fun F os tape output => ?_
    refine go 200 ?_
    conv => whnf
    repeat' (first | ((first | refine BrM.not (by omega) ?_ | refine BrM.t rfl ?_ | refine BrM.f rfl ?_ | refine BrM.dec (fun _ => ?_) (fun _ => ?_) | refine BrM.mk (fun _ => ?_) (fun _ => ?_) | refine Ar.i64 (by omega) (by omega) ?_ | refine gO rfl ?_ | refine gP rfl (by repeat constructor) ?_) <;> conv => whnf) | (refine atRet ?_; refine Nx.ret [0] Try.func34 rfl rfl ?_; (exact ⟨rfl, rfl⟩)) | refine Nx.late ?_)
theorem has_ok (M : MdH) {x : PlH} (hx : x ∈ M.pools) (hl : 0 ≤ x.p.start ∧ x.p.start ≤ 4611686018427387904 ∧ x.p.taken.length ≤ 2000000) (i : Int) (hi63 : i ≤ 9223372036854775807) : FnOk Try.prog 61 [ptr x.b, .int .i64 i] [M.sp] (fun v Q => v = .bool (x.p.has i) ∧ Q = [M.sp]) := by
  have h1 := MdH.pat hx
  have h2 := MdH.pbo hx
  have s0 := h1.sub 0 rfl
  have s1 := h1.sub 1 rfl
  by_cases h0 : i < x.p.start
  · have e : x.p.has i = true := by unfold PlP.has; simp [h0]
    rw [e]
    refine FnOk.start Try.func61 rfl rfl rfl rfl fun F os tape output => ?_
    refine go 200 ?_
    conv => whnf
    repeat' (first | ((first | refine BrM.yes (by omega) ?_ | refine BrM.t rfl ?_ | refine BrM.f rfl ?_ | refine BrM.dec (fun _ => ?_) (fun _ => ?_) | refine BrM.mk (fun _ => ?_) (fun _ => ?_) | refine Ar.i64 (by omega) (by omega) ?_ | refine gO rfl ?_ | refine gP rfl (by repeat constructor) ?_) <;> conv => whnf) | (refine dN 1 [0] [0,4,8,12,17,20,24,28,32,36,40,45,48,52,56,60,65,68,72,76,80,84,88,93,96,100,104,108,113,116,120,125,128,132,136] rfl (by kernel_rfl) rfl (by kernel_rfl) rfl (by repeat constructor) rfl ?_) | (refine atHoLoad ?_; first | refine hL1 rfl rfl rfl rfl (SeesAt.sub (by assumption) _ rfl) (by repeat constructor) rfl ?_ | refine hL1 rfl rfl rfl rfl (by assumption) (by repeat constructor) rfl ?_ | refine hLm rfl rfl rfl rfl (by assumption) (by repeat constructor) rfl rfl ?_) | (refine atRet ?_; refine Nx.ret [0] Try.func61 rfl rfl ?_; (exact ⟨rfl, rfl⟩)) | refine Nx.late ?_)
  · by_cases hi : i - x.p.start < x.p.taken.length
    · have hk : (i - x.p.start).toNat < x.p.taken.length := by omega
      have e : x.p.has i = x.p.taken[(i - x.p.start).toNat] := by
        unfold PlP.has
        rw [List.getD_eq_getElem?_getD, List.getElem?_eq_getElem hk]
        simp [h0]
      rw [e]
      refine FnOk.start Try.func61 rfl rfl rfl rfl fun F os tape output => ?_
      refine go 200 ?_
      conv => whnf
      repeat' (first | ((first | refine BrM.yes (by omega) ?_ | refine BrM.not (by omega) ?_ | refine BrM.t rfl ?_ | refine BrM.f rfl ?_ | refine BrM.dec (fun _ => ?_) (fun _ => ?_) | refine BrM.mk (fun _ => ?_) (fun _ => ?_) | refine Ar.i64 (by omega) (by omega) ?_ | refine gO rfl ?_ | refine gP rfl (by repeat constructor) ?_) <;> conv => whnf) | (refine dN 1 [0] [0,4,8,12,17,20,24,28,32,36,40,45,48,52,56,60,65,68,72,76,80,84,88,93,96,100,104,108,113,116,120,125,128,132,136] rfl (by kernel_rfl) rfl (by kernel_rfl) rfl (by repeat constructor) rfl ?_) | (refine atHoIdx ?_; refine Nx.hoIdx 0 (j := (i - x.p.start).toNat) rfl rfl rfl Try.underlying88 rfl rfl rfl boC_len h2 rfl (by omega) (by omega) fun _ _ _ => ?_) | (refine atHoLoad ?_; first | refine hL1 rfl rfl rfl rfl (SeesAt.sub (by assumption) _ rfl) (by repeat constructor) rfl ?_ | refine hL1 rfl rfl rfl rfl (by assumption) (by repeat constructor) rfl ?_ | refine hLm rfl rfl rfl rfl (by assumption) (by repeat constructor) rfl rfl ?_) | (refine atRet ?_; refine Nx.ret [0] Try.func61 rfl rfl ?_; (exact ⟨rfl, rfl⟩)) | refine Nx.late ?_)
    · have e : x.p.has i = false := by
        unfold PlP.has
        rw [List.getD_eq_getElem?_getD, List.getElem?_eq_none (by omega)]
        simp [h0]
      rw [e]
      refine FnOk.start Try.func61 rfl rfl rfl rfl fun F os tape output => ?_
      refine go 200 ?_
      conv => whnf
      repeat' (first | ((first | refine BrM.not (by omega) ?_ | refine BrM.t rfl ?_ | refine BrM.f rfl ?_ | refine BrM.dec (fun _ => ?_) (fun _ => ?_) | refine BrM.mk (fun _ => ?_) (fun _ => ?_) | refine Ar.i64 (by omega) (by omega) ?_ | refine gO rfl ?_ | refine gP rfl (by repeat constructor) ?_) <;> conv => whnf) | (refine dN 1 [0] [0,4,8,12,17,20,24,28,32,36,40,45,48,52,56,60,65,68,72,76,80,84,88,93,96,100,104,108,113,116,120,125,128,132,136] rfl (by kernel_rfl) rfl (by kernel_rfl) rfl (by repeat constructor) rfl ?_) | (refine atHoLoad ?_; first | refine hL1 rfl rfl rfl rfl (SeesAt.sub (by assumption) _ rfl) (by repeat constructor) rfl ?_ | refine hL1 rfl rfl rfl rfl (by assumption) (by repeat constructor) rfl ?_ | refine hLm rfl rfl rfl rfl (by assumption) (by repeat constructor) rfl rfl ?_) | (refine atRet ?_; refine Nx.ret [0] Try.func61 rfl rfl ?_; (exact ⟨rfl, rfl⟩)) | refine Nx.late ?_)
end Go.Proofs.Ytngfadijcpnblaa

/- The program's model: what may be asked. -/
namespace Go.Proofs.Ytngfadijcpnblaa
open Go.RowKit
set_option maxRecDepth 20000
set_option maxHeartbeats 2000000
attribute [local irreducible] Nx Ar BrM headC OneC HoC AftC planHead endF
theorem MdW.lg {M : MdH} (hm : MdW M.p) {x : LogH} (hx : x ∈ M.logs) : x.g.there.length = x.g.l.length ∧ x.g.l.length ≤ 2000000 ∧ 1 ≤ x.g.size ∧ x.g.size ≤ 1048576 := hm.gl _ (List.mem_map_of_mem hx)
theorem MdW.ln {M : MdH} (hm : MdW M.p) : M.logs.length ≤ 8 := by have := hm.nl; simpa [MdH.p] using this
def evT (x : Option Ev) : Value := match x with | none => .tuple #[.agg #[.int .i64 0, .int .i64 0], .bool false] | some x => .tuple #[.agg #[.int .i64 x.key, .int .i64 x.val], .bool true]
theorem event_none {M : MdH} {ring i : Int} (h : ring < 0 ∨ (M.logs.length : Int) ≤ ring) : M.p.event ring i = none := by
  unfold MdP.event
  by_cases h0 : ring < 0
  · rw [if_pos h0]
  · rw [if_neg h0, List.getElem?_eq_none (by simp [MdH.p]; omega)]
theorem event_at {M : MdH} {ring i : Int} (h0 : 0 ≤ ring) (hk : ring.toNat < M.logs.length) : M.p.event ring i = if (M.logs[ring.toNat]).g.pub i then some ((M.logs[ring.toNat]).g.l.getD i.toNat ⟨0, 0⟩) else none := by
  unfold MdP.event
  rw [if_neg (by omega)]
  have : M.p.logs[ring.toNat]? = some (M.logs[ring.toNat]).g := by simp [MdH.p, List.getElem?_eq_getElem hk]
  rw [this]
theorem Event_ok (M : MdH) (hm : MdW M.p) (ring i : Int) : FnOk Try.prog 12 [ptr M.b, .int .i64 ring, .int .i64 i] [M.sp] (fun v Q => v = evT (M.p.event ring i) ∧ Q = [M.sp]) := by
  have hM := M.seeM
  have hL := M.seeL
  have hn := hm.ln
  have m0 := hM.sub 0 rfl
  by_cases h0 : 0 ≤ ring
  · by_cases h1 : ring < M.logs.length
    · obtain ⟨k, rfl⟩ : ∃ k : Nat, ring = k := ⟨ring.toNat, by omega⟩
      have hk : k < M.logs.length := by omega
      have hx := List.getElem_mem hk
      rw [event_at h0 (by simpa using hk)]
      simp only [Int.toNat_natCast]
      have hl := hm.lg hx
      have hp := published_ok M hx ⟨hl.1, hl.2.1⟩ i
      have hat := MdH.lat hx
      have hev := MdH.lev hx
      have a2 := hat.sub 2 rfl
      cases hpub : (M.logs[k]).g.pub i with
      | false =>
        rw [if_neg (by simp)]
        rw [hpub] at hp
        refine FnOk.start Try.func12 rfl rfl rfl rfl fun F os tape output => ?_
        refine go 200 ?_
        conv => whnf
        repeat' (first | ((first | refine BrM.yes (by omega) ?_ | refine BrM.not (by omega) ?_ | refine BrM.t rfl ?_ | refine BrM.f rfl ?_ | refine BrM.dec (fun _ => ?_) (fun _ => ?_) | refine BrM.mk (fun _ => ?_) (fun _ => ?_) | refine Ar.i64 (by omega) (by omega) ?_ | refine gO rfl ?_ | refine gP rfl (by repeat constructor) ?_) <;> conv => whnf) | (refine atIdx ?_; refine Nx.idx 0 (j := k) rfl rfl rfl Try.underlying73 rfl rfl rfl LogH.pt_len hL rfl (by omega) (by omega) fun _ _ _ => ?_) | (refine atLoad ?_; refine Nx.load1 0 rfl rfl rfl rfl (m0) rfl ?_) | (refine atLoad ?_; first | (refine Nx.load1 0 rfl rfl rfl rfl (SeesAt.sub (by assumption) _ rfl) rfl ?_) | (refine Nx.load1 0 rfl rfl rfl rfl (by assumption) rfl ?_) | (refine Nx.load 0 rfl rfl rfl rfl (by assumption) rfl rfl ?_)) | (refine atCall 34 ?_; refine cE [0] [0] rfl rfl rfl rfl rfl (hp) rfl ?_) | (refine atRet ?_; refine Nx.ret [0] Try.func12 rfl rfl ?_; (exact ⟨rfl, rfl⟩)) | refine Nx.late ?_)
      | true =>
        rw [if_pos rfl]
        rw [hpub] at hp
        have hil := pub_lt hl.1 hpub
        have hik : i.toNat < (M.logs[k]).g.l.length := by omega
        have e : (M.logs[k]).g.l.getD i.toNat ⟨0, 0⟩ = (M.logs[k]).g.l[i.toNat] := by rw [List.getD_eq_getElem?_getD, List.getElem?_eq_getElem hik]; rfl
        rw [e]
        refine FnOk.start Try.func12 rfl rfl rfl rfl fun F os tape output => ?_
        refine go 200 ?_
        conv => whnf
        repeat' (first | ((first | refine BrM.yes (by omega) ?_ | refine BrM.not (by omega) ?_ | refine BrM.t rfl ?_ | refine BrM.f rfl ?_ | refine BrM.dec (fun _ => ?_) (fun _ => ?_) | refine BrM.mk (fun _ => ?_) (fun _ => ?_) | refine Ar.i64 (by omega) (by omega) ?_ | refine gO rfl ?_ | refine gP rfl (by repeat constructor) ?_) <;> conv => whnf) | (refine atIdx ?_; refine Nx.idx 0 (j := k) rfl rfl rfl Try.underlying73 rfl rfl rfl LogH.pt_len hL rfl (by omega) (by omega) fun _ _ _ => ?_) | (refine atIdx ?_; refine Nx.idx 0 (j := i.toNat) rfl rfl rfl Try.underlying36 rfl rfl rfl evC_len hev rfl (by omega) (by omega) fun _ _ _ => ?_) | (refine atLoad ?_; refine Nx.load1 0 rfl rfl rfl rfl (m0) rfl ?_) | (refine atLoad ?_; refine Nx.load1 0 rfl rfl rfl rfl (a2) rfl ?_) | (refine atCall 34 ?_; refine cE [0] [0] rfl rfl rfl rfl rfl (hp) rfl ?_) | (refine atLoad ?_; first | (refine Nx.load1 0 rfl rfl rfl rfl (SeesAt.sub (by assumption) _ rfl) rfl ?_) | (refine Nx.load1 0 rfl rfl rfl rfl (by assumption) rfl ?_) | (refine Nx.load 0 rfl rfl rfl rfl (by assumption) rfl rfl ?_)) | (refine atRet ?_; refine Nx.ret [0] Try.func12 rfl rfl ?_; (exact ⟨rfl, rfl⟩)) | refine Nx.late ?_)
    · rw [event_none (by omega)]
      refine FnOk.start Try.func12 rfl rfl rfl rfl fun F os tape output => ?_
      refine go 200 ?_
      conv => whnf
      repeat' (first | ((first | refine BrM.yes (by omega) ?_ | refine BrM.not (by omega) ?_ | refine BrM.t rfl ?_ | refine BrM.f rfl ?_ | refine BrM.dec (fun _ => ?_) (fun _ => ?_) | refine BrM.mk (fun _ => ?_) (fun _ => ?_) | refine Ar.i64 (by omega) (by omega) ?_ | refine gO rfl ?_ | refine gP rfl (by repeat constructor) ?_) <;> conv => whnf) | (refine atLoad ?_; refine Nx.load1 0 rfl rfl rfl rfl (m0) rfl ?_) | (refine atRet ?_; refine Nx.ret [0] Try.func12 rfl rfl ?_; (exact ⟨rfl, rfl⟩)) | refine Nx.late ?_)
  · rw [event_none (by omega)]
    refine FnOk.start Try.func12 rfl rfl rfl rfl fun F os tape output => ?_
    refine go 200 ?_
    conv => whnf
    repeat' (first | ((first | refine BrM.yes (by omega) ?_ | refine BrM.t rfl ?_ | refine BrM.f rfl ?_ | refine BrM.dec (fun _ => ?_) (fun _ => ?_) | refine BrM.mk (fun _ => ?_) (fun _ => ?_) | refine Ar.i64 (by omega) (by omega) ?_ | refine gO rfl ?_ | refine gP rfl (by repeat constructor) ?_) <;> conv => whnf) | (refine atRet ?_; refine Nx.ret [0] Try.func12 rfl rfl ?_; (exact ⟨rfl, rfl⟩)) | refine Nx.late ?_)
end Go.Proofs.Ytngfadijcpnblaa

/- The program's model: Held, Cursor, Length, fresh. -/
namespace Go.Proofs.Ytngfadijcpnblaa
open Go.RowKit
set_option maxRecDepth 20000
set_option maxHeartbeats 2000000
attribute [local irreducible] Nx Ar BrM headC OneC HoC AftC planHead endF
theorem held_none {M : MdH} {ring i : Int} (h : ring < 0 ∨ (M.logs.length : Int) ≤ ring ∨ i < 0) : M.p.held ring i = false := by
  unfold MdP.held
  by_cases h0 : ring < 0 ∨ i < 0
  · rw [if_pos h0]
  · rw [if_neg h0, List.getElem?_eq_none (by simp [MdH.p]; omega)]
theorem held_at {M : MdH} {k : Nat} {i : Int} (hi : 0 ≤ i) (hk : k < M.logs.length) : M.p.held k i = M.p.readers.any (heldBy (M.logs[k]).g.size k i) := by
  unfold MdP.held
  rw [if_neg (by omega)]
  have : M.p.logs[(k : Int).toNat]? = some (M.logs[k]).g := by simp [MdH.p, List.getElem?_eq_getElem hk]
  rw [this]
theorem Held_ok (M : MdH) (hm : MdW M.p) (ring i : Int) (hi63 : i ≤ 9223372036854775807) : FnOk Try.prog 14 [ptr M.b, .int .i64 ring, .int .i64 i] [M.sp] (fun v Q => v = .bool (M.p.held ring i) ∧ Q = [M.sp]) := by
  have hM := M.seeM
  have hL := M.seeL
  have hR := M.seeR
  have hn := hm.ln
  have hn2 := hm.rn
  have m0 := hM.sub 0 rfl
  have m2 := hM.sub 2 rfl
  by_cases h0 : 0 ≤ ring
  · by_cases h1 : ring < M.logs.length
    · by_cases hi : 0 ≤ i
      · obtain ⟨k, rfl⟩ : ∃ k : Nat, ring = k := ⟨ring.toNat, by omega⟩
        have hk : k < M.logs.length := by omega
        have hx := List.getElem_mem hk
        have hl := hm.lg hx
        have hat := MdH.lat hx
        have a0 := hat.sub 0 rfl
        rw [held_at hi hk]
        refine FnOk.start Try.func14 rfl rfl rfl rfl fun F os tape output => ?_
        refine go 200 ?_
        conv => whnf
        repeat' (first | ((first | refine BrM.not (by omega) ?_ | refine BrM.t rfl ?_ | refine BrM.f rfl ?_ | refine BrM.dec (fun _ => ?_) (fun _ => ?_) | refine BrM.mk (fun _ => ?_) (fun _ => ?_) | refine Ar.i64 (by omega) (by omega) ?_ | refine gO rfl ?_ | refine gP rfl (by repeat constructor) ?_) <;> conv => whnf) | (refine atLoad ?_; refine Nx.load1 0 rfl rfl rfl rfl (m0) rfl ?_) | (refine atLoad ?_; refine Nx.load1 0 rfl rfl rfl rfl (m2) rfl ?_) | refine Nx.late ?_)
        refine Nx.loop (X := Nat) (fun j => j ≤ M.readers.length ∧ ∀ q, (hq : q < j) → (hl : q < M.readers.length) → heldBy (M.logs[k]).g.size k i M.readers[q].r = false) (fun j => M.readers.length - j)
          (fun j => [(0, .c (.v (ptr M.b))), (1, iv k), (2, iv i), (31, sl M.rA M.readers.length M.rc), (32, iv M.readers.length), (33, iv j)]) (fun _ => []) [] (fun _ => [(0, M.sp)]) 0 ⟨Nat.zero_le _, fun i hi => by omega⟩ ?_ ?_ ?_ ?_ ?_
        all_goals repeat (first | exact .nil _ | refine .cons rfl ?_ | refine .cons rfl rfl ?_ | refine .cons rfl rfl rfl ?_ | refine .cons' rfl (fun _ => rfl) ?_)
        intro j ⟨hj, hno⟩ ih
        by_cases hlt : j < M.readers.length
        · have hxr := List.getElem_mem hlt
          have hr := MdH.rat hxr
          have r1 := hr.sub 1 rfl
          have r3 := hr.sub 3 rfl
          have hrb := hm.rb _ (List.mem_map_of_mem (f := RdH.r) hxr)
          have next : heldBy (M.logs[k]).g.size k i M.readers[j].r = false → ∀ q, (hq : q < j + 1) → (hl : q < M.readers.length) → heldBy (M.logs[k]).g.size k i M.readers[q].r = false := fun hw q hq hl => by
            by_cases e : q = j
            · subst e; exact hw
            · exact hno q (by omega) hl
          by_cases c1 : M.readers[j].r.ring = k
          · cases c2 : M.readers[j].r.held with
            | true =>
              by_cases c3 : M.readers[j].r.cursor < i - (M.logs[k]).g.size
              · have e : (M.p.readers.any (heldBy (M.logs[k]).g.size k i)) = true := by
                  rw [List.any_eq_true]
                  exact ⟨M.readers[j].r, List.mem_map_of_mem hxr, by simp [heldBy, c1, c2, c3]⟩
                rw [e]
                repeat' (first | (refine atBr ?_; refine BrM.t (c2) ?_; conv => whnf) | ((first | refine BrM.yes (by omega) ?_ | refine BrM.t rfl ?_ | refine BrM.f rfl ?_ | refine BrM.dec (fun _ => ?_) (fun _ => ?_) | refine BrM.mk (fun _ => ?_) (fun _ => ?_) | refine Ar.i64 (by omega) (by omega) ?_ | refine gO rfl ?_ | refine gP rfl (by repeat constructor) ?_) <;> conv => whnf) | (refine dN 6 [0] [0,4,8,13,16,20,24,28,32,36,41,44,48,52,56,60,64,69,72,76,81,84,88,93,96,100,104,108,113,116,120] rfl (by kernel_rfl) rfl (by kernel_rfl) rfl (by repeat constructor) rfl ?_) | (refine atIdx ?_; refine Nx.idx 0 (j := j) rfl rfl rfl Try.underlying75 rfl rfl rfl RdH.pt_len hR rfl (by omega) (by omega) fun _ _ _ => ?_) | (refine atHoIdx ?_; refine Nx.hoIdx 0 (j := k) rfl rfl rfl Try.underlying73 rfl rfl rfl LogH.pt_len hL rfl (by omega) (by omega) fun _ _ _ => ?_) | (refine atLoad ?_; first | (refine Nx.load1 0 rfl rfl rfl rfl (SeesAt.sub (by assumption) _ rfl) rfl ?_) | (refine Nx.load1 0 rfl rfl rfl rfl (by assumption) rfl ?_) | (refine Nx.load 0 rfl rfl rfl rfl (by assumption) rfl rfl ?_)) | (refine atHoLoad ?_; first | refine hL1 rfl rfl rfl rfl (SeesAt.sub (by assumption) _ rfl) (by repeat constructor) rfl ?_ | refine hL1 rfl rfl rfl rfl (by assumption) (by repeat constructor) rfl ?_ | refine hLm rfl rfl rfl rfl (by assumption) (by repeat constructor) rfl rfl ?_) | (refine atRet ?_; refine Nx.ret [0] Try.func14 rfl rfl ?_; (exact ⟨rfl, rfl⟩)) | refine Nx.late ?_)
              · repeat' (first | (refine atBr ?_; refine BrM.t (c2) ?_; conv => whnf) | ((first | refine BrM.yes (by omega) ?_ | refine BrM.not (by omega) ?_ | refine BrM.t rfl ?_ | refine BrM.f rfl ?_ | refine BrM.dec (fun _ => ?_) (fun _ => ?_) | refine BrM.mk (fun _ => ?_) (fun _ => ?_) | refine Ar.i64 (by omega) (by omega) ?_ | refine gO rfl ?_ | refine gP rfl (by repeat constructor) ?_) <;> conv => whnf) | (refine dN 6 [0] [0,4,8,13,16,20,24,28,32,36,41,44,48,52,56,60,64,69,72,76,81,84,88,93,96,100,104,108,113,116,120] rfl (by kernel_rfl) rfl (by kernel_rfl) rfl (by repeat constructor) rfl ?_) | (refine atIdx ?_; refine Nx.idx 0 (j := j) rfl rfl rfl Try.underlying75 rfl rfl rfl RdH.pt_len hR rfl (by omega) (by omega) fun _ _ _ => ?_) | (refine atHoIdx ?_; refine Nx.hoIdx 0 (j := k) rfl rfl rfl Try.underlying73 rfl rfl rfl LogH.pt_len hL rfl (by omega) (by omega) fun _ _ _ => ?_) | (refine atLoad ?_; first | (refine Nx.load1 0 rfl rfl rfl rfl (SeesAt.sub (by assumption) _ rfl) rfl ?_) | (refine Nx.load1 0 rfl rfl rfl rfl (by assumption) rfl ?_) | (refine Nx.load 0 rfl rfl rfl rfl (by assumption) rfl rfl ?_)) | (refine atHoLoad ?_; first | refine hL1 rfl rfl rfl rfl (SeesAt.sub (by assumption) _ rfl) (by repeat constructor) rfl ?_ | refine hL1 rfl rfl rfl rfl (by assumption) (by repeat constructor) rfl ?_ | refine hLm rfl rfl rfl rfl (by assumption) (by repeat constructor) rfl rfl ?_) | refine Nx.late ?_)
                refine (ih (j + 1) ⟨by omega, next (by simp [heldBy, c3])⟩ (by omega)).weak ?_ ?_ ?_ ?_
                · exact .cons rfl rfl (.cons rfl rfl (.cons rfl rfl (.cons rfl rfl (.cons rfl rfl (.cons rfl (by simp) (.nil _))))))
                all_goals repeat (first | exact .nil _ | refine .cons rfl ?_ | refine .cons rfl rfl ?_ | refine .cons rfl rfl rfl ?_ | refine .cons' rfl (fun _ => rfl) ?_)
            | false =>
              repeat' (first | (refine atBr ?_; refine BrM.f (c2) ?_; conv => whnf) | ((first | refine BrM.yes (by omega) ?_ | refine BrM.t rfl ?_ | refine BrM.f rfl ?_ | refine BrM.dec (fun _ => ?_) (fun _ => ?_) | refine BrM.mk (fun _ => ?_) (fun _ => ?_) | refine Ar.i64 (by omega) (by omega) ?_ | refine gO rfl ?_ | refine gP rfl (by repeat constructor) ?_) <;> conv => whnf) | (refine dN 6 [0] [0,4,8,13,16,20,24,28,32,36,41,44,48,52,56,60,64,69,72,76,81,84,88,93,96,100,104,108,113,116,120] rfl (by kernel_rfl) rfl (by kernel_rfl) rfl (by repeat constructor) rfl ?_) | (refine atIdx ?_; refine Nx.idx 0 (j := j) rfl rfl rfl Try.underlying75 rfl rfl rfl RdH.pt_len hR rfl (by omega) (by omega) fun _ _ _ => ?_) | (refine atHoIdx ?_; refine Nx.hoIdx 0 (j := k) rfl rfl rfl Try.underlying73 rfl rfl rfl LogH.pt_len hL rfl (by omega) (by omega) fun _ _ _ => ?_) | (refine atLoad ?_; first | (refine Nx.load1 0 rfl rfl rfl rfl (SeesAt.sub (by assumption) _ rfl) rfl ?_) | (refine Nx.load1 0 rfl rfl rfl rfl (by assumption) rfl ?_) | (refine Nx.load 0 rfl rfl rfl rfl (by assumption) rfl rfl ?_)) | (refine atHoLoad ?_; first | refine hL1 rfl rfl rfl rfl (SeesAt.sub (by assumption) _ rfl) (by repeat constructor) rfl ?_ | refine hL1 rfl rfl rfl rfl (by assumption) (by repeat constructor) rfl ?_ | refine hLm rfl rfl rfl rfl (by assumption) (by repeat constructor) rfl rfl ?_) | refine Nx.late ?_)
              refine (ih (j + 1) ⟨by omega, next (by simp [heldBy, c2])⟩ (by omega)).weak ?_ ?_ ?_ ?_
              · exact .cons rfl rfl (.cons rfl rfl (.cons rfl rfl (.cons rfl rfl (.cons rfl rfl (.cons rfl (by simp) (.nil _))))))
              all_goals repeat (first | exact .nil _ | refine .cons rfl ?_ | refine .cons rfl rfl ?_ | refine .cons rfl rfl rfl ?_ | refine .cons' rfl (fun _ => rfl) ?_)
          · repeat' (first | ((first | refine BrM.yes (by omega) ?_ | refine BrM.not (by omega) ?_ | refine BrM.t rfl ?_ | refine BrM.f rfl ?_ | refine BrM.dec (fun _ => ?_) (fun _ => ?_) | refine BrM.mk (fun _ => ?_) (fun _ => ?_) | refine Ar.i64 (by omega) (by omega) ?_ | refine gO rfl ?_ | refine gP rfl (by repeat constructor) ?_) <;> conv => whnf) | (refine dN 6 [0] [0,4,8,13,16,20,24,28,32,36,41,44,48,52,56,60,64,69,72,76,81,84,88,93,96,100,104,108,113,116,120] rfl (by kernel_rfl) rfl (by kernel_rfl) rfl (by repeat constructor) rfl ?_) | (refine atIdx ?_; refine Nx.idx 0 (j := j) rfl rfl rfl Try.underlying75 rfl rfl rfl RdH.pt_len hR rfl (by omega) (by omega) fun _ _ _ => ?_) | (refine atHoIdx ?_; refine Nx.hoIdx 0 (j := k) rfl rfl rfl Try.underlying73 rfl rfl rfl LogH.pt_len hL rfl (by omega) (by omega) fun _ _ _ => ?_) | (refine atLoad ?_; first | (refine Nx.load1 0 rfl rfl rfl rfl (SeesAt.sub (by assumption) _ rfl) rfl ?_) | (refine Nx.load1 0 rfl rfl rfl rfl (by assumption) rfl ?_) | (refine Nx.load 0 rfl rfl rfl rfl (by assumption) rfl rfl ?_)) | (refine atHoLoad ?_; first | refine hL1 rfl rfl rfl rfl (SeesAt.sub (by assumption) _ rfl) (by repeat constructor) rfl ?_ | refine hL1 rfl rfl rfl rfl (by assumption) (by repeat constructor) rfl ?_ | refine hLm rfl rfl rfl rfl (by assumption) (by repeat constructor) rfl rfl ?_) | refine Nx.late ?_)
            refine (ih (j + 1) ⟨by omega, next (by simp [heldBy, c1])⟩ (by omega)).weak ?_ ?_ ?_ ?_
            · exact .cons rfl rfl (.cons rfl rfl (.cons rfl rfl (.cons rfl rfl (.cons rfl rfl (.cons rfl (by simp) (.nil _))))))
            all_goals repeat (first | exact .nil _ | refine .cons rfl ?_ | refine .cons rfl rfl ?_ | refine .cons rfl rfl rfl ?_ | refine .cons' rfl (fun _ => rfl) ?_)
        · have e : (M.p.readers.any (heldBy (M.logs[k]).g.size k i)) = false := by
            rw [List.any_eq_false]
            intro r hr
            obtain ⟨x, hx, rfl⟩ := List.mem_map.1 hr
            obtain ⟨q, hq, rfl⟩ := List.getElem_of_mem hx
            have := hno q (by omega) hq
            simp [this]
          rw [e]
          repeat' (first | ((first | refine BrM.not (by omega) ?_ | refine BrM.t rfl ?_ | refine BrM.f rfl ?_ | refine BrM.dec (fun _ => ?_) (fun _ => ?_) | refine BrM.mk (fun _ => ?_) (fun _ => ?_) | refine Ar.i64 (by omega) (by omega) ?_ | refine gO rfl ?_ | refine gP rfl (by repeat constructor) ?_) <;> conv => whnf) | (refine atRet ?_; refine Nx.ret [0] Try.func14 rfl rfl ?_; (exact ⟨rfl, rfl⟩)) | refine Nx.late ?_)
      · rw [held_none (by omega)]
        refine FnOk.start Try.func14 rfl rfl rfl rfl fun F os tape output => ?_
        refine go 200 ?_
        conv => whnf
        repeat' (first | ((first | refine BrM.yes (by omega) ?_ | refine BrM.not (by omega) ?_ | refine BrM.t rfl ?_ | refine BrM.f rfl ?_ | refine BrM.dec (fun _ => ?_) (fun _ => ?_) | refine BrM.mk (fun _ => ?_) (fun _ => ?_) | refine Ar.i64 (by omega) (by omega) ?_ | refine gO rfl ?_ | refine gP rfl (by repeat constructor) ?_) <;> conv => whnf) | (refine atLoad ?_; refine Nx.load1 0 rfl rfl rfl rfl (m0) rfl ?_) | (refine atRet ?_; refine Nx.ret [0] Try.func14 rfl rfl ?_; (exact ⟨rfl, rfl⟩)) | refine Nx.late ?_)
    · rw [held_none (by omega)]
      refine FnOk.start Try.func14 rfl rfl rfl rfl fun F os tape output => ?_
      refine go 200 ?_
      conv => whnf
      repeat' (first | ((first | refine BrM.yes (by omega) ?_ | refine BrM.not (by omega) ?_ | refine BrM.t rfl ?_ | refine BrM.f rfl ?_ | refine BrM.dec (fun _ => ?_) (fun _ => ?_) | refine BrM.mk (fun _ => ?_) (fun _ => ?_) | refine Ar.i64 (by omega) (by omega) ?_ | refine gO rfl ?_ | refine gP rfl (by repeat constructor) ?_) <;> conv => whnf) | (refine atLoad ?_; refine Nx.load1 0 rfl rfl rfl rfl (m0) rfl ?_) | (refine atRet ?_; refine Nx.ret [0] Try.func14 rfl rfl ?_; (exact ⟨rfl, rfl⟩)) | refine Nx.late ?_)
  · rw [held_none (by omega)]
    refine FnOk.start Try.func14 rfl rfl rfl rfl fun F os tape output => ?_
    refine go 200 ?_
    conv => whnf
    repeat' (first | ((first | refine BrM.yes (by omega) ?_ | refine BrM.t rfl ?_ | refine BrM.f rfl ?_ | refine BrM.dec (fun _ => ?_) (fun _ => ?_) | refine BrM.mk (fun _ => ?_) (fun _ => ?_) | refine Ar.i64 (by omega) (by omega) ?_ | refine gO rfl ?_ | refine gP rfl (by repeat constructor) ?_) <;> conv => whnf) | (refine atRet ?_; refine Nx.ret [0] Try.func14 rfl rfl ?_; (exact ⟨rfl, rfl⟩)) | refine Nx.late ?_)
def cuT (x : Option Int) : Value := match x with | none => .tuple #[.int .i64 0, .bool false] | some c => .tuple #[.int .i64 c, .bool true]
theorem at_mem {M : MdH} {who ring : Int} {k : Nat} (h : M.p.at who ring = some k) : ∃ hk : k < M.readers.length, M.readers[k].r.who = who ∧ M.readers[k].r.ring = ring ∧ M.rp (some k) = ptr M.readers[k].b := by
  obtain ⟨hk, h1, _⟩ := findI_is h
  have hk' : k < M.readers.length := by simpa [MdH.p] using hk
  refine ⟨hk', ?_⟩
  simp [MdH.p] at h1
  exact ⟨h1.1, h1.2, by simp [MdH.rp, List.getElem?_eq_getElem hk']⟩
theorem of_mem {M : MdH} {who : Int} {k : Nat} (h : M.p.of who = some k) : ∃ hk : k < M.writers.length, M.writers[k].who = who ∧ M.wp (some k) = ptr M.writers[k].b := by
  obtain ⟨hk, h1, _⟩ := findI_is h
  have hk' : k < M.writers.length := by simpa [MdH.p] using hk
  refine ⟨hk', ?_⟩
  simp [MdH.p, WrH.p] at h1
  exact ⟨h1, by simp [MdH.wp, List.getElem?_eq_getElem hk']⟩
theorem Cursor_ok (M : MdH) (hm : MdW M.p) (who ring : Int) : FnOk Try.prog 16 [ptr M.b, .int .i64 who, .int .i64 ring] [M.sp] (fun v Q => v = cuT (M.p.cursor who ring) ∧ Q = [M.sp]) := by
  have ha := at_ok M hm who ring
  unfold MdP.cursor
  cases h : M.p.at who ring with
  | none =>
    rw [h] at ha
    refine FnOk.start Try.func16 rfl rfl rfl rfl fun F os tape output => ?_
    refine go 200 ?_
    conv => whnf
    repeat' (first | ((first | refine BrM.t rfl ?_ | refine BrM.f rfl ?_ | refine BrM.dec (fun _ => ?_) (fun _ => ?_) | refine BrM.mk (fun _ => ?_) (fun _ => ?_) | refine Ar.i64 (by omega) (by omega) ?_ | refine gO rfl ?_ | refine gP rfl (by repeat constructor) ?_) <;> conv => whnf) | (refine atCall 36 ?_; refine cE [0] [0] rfl rfl rfl rfl rfl (ha) rfl ?_) | (refine atRet ?_; refine Nx.ret [0] Try.func16 rfl rfl ?_; (exact ⟨rfl, rfl⟩)) | refine Nx.late ?_)
  | some k =>
    obtain ⟨hk, _, _, hp⟩ := at_mem h
    rw [h, hp] at ha
    have hr := MdH.rat (M := M) (List.getElem_mem hk)
    have e : M.p.readers[k]? = some M.readers[k].r := by simp [MdH.p, List.getElem?_eq_getElem hk]
    dsimp only
    rw [e]
    refine FnOk.start Try.func16 rfl rfl rfl rfl fun F os tape output => ?_
    refine go 200 ?_
    conv => whnf
    repeat' (first | ((first | refine BrM.t rfl ?_ | refine BrM.f rfl ?_ | refine BrM.dec (fun _ => ?_) (fun _ => ?_) | refine BrM.mk (fun _ => ?_) (fun _ => ?_) | refine Ar.i64 (by omega) (by omega) ?_ | refine gO rfl ?_ | refine gP rfl (by repeat constructor) ?_) <;> conv => whnf) | (refine atCall 36 ?_; refine cE [0] [0] rfl rfl rfl rfl rfl (ha) rfl ?_) | (refine atLoad ?_; refine Nx.load1 0 rfl rfl rfl rfl ((hr.sub 3 rfl)) rfl ?_) | (refine atRet ?_; refine Nx.ret [0] Try.func16 rfl rfl ?_; (exact ⟨rfl, rfl⟩)) | refine Nx.late ?_)
/-- So many are published, from the first one on. -/
def IsLen (P : MdP) (ring : Int) (n : Nat) : Prop := (∀ j : Nat, j < n → (P.event ring j).isSome = true) ∧ P.event ring n = none
theorem Length_ok (M : MdH) (hm : MdW M.p) (ring : Int) : FnOk Try.prog 17 [ptr M.b, .int .i64 ring] [M.sp] (fun v Q => ∃ n : Nat, v = .int .i64 n ∧ IsLen M.p ring n ∧ Q = [M.sp]) := by
  have hM := M.seeM
  have hL := M.seeL
  have hn := hm.ln
  have m0 := hM.sub 0 rfl
  by_cases h0 : 0 ≤ ring
  · by_cases h1 : ring < M.logs.length
    · obtain ⟨k, rfl⟩ : ∃ k : Nat, ring = k := ⟨ring.toNat, by omega⟩
      have hk : k < M.logs.length := by omega
      have hx := List.getElem_mem hk
      have hl := hm.lg hx
      have hev : ∀ i : Int, M.p.event k i = if (M.logs[k]).g.pub i then some ((M.logs[k]).g.l.getD i.toNat ⟨0, 0⟩) else none := fun i => by
        have := event_at (M := M) (ring := k) (i := i) h0 (by simpa using hk)
        simpa using this
      refine FnOk.start Try.func17 rfl rfl rfl rfl fun F os tape output => ?_
      refine go 200 ?_
      conv => whnf
      repeat' (first | ((first | refine BrM.not (by omega) ?_ | refine BrM.t rfl ?_ | refine BrM.f rfl ?_ | refine BrM.dec (fun _ => ?_) (fun _ => ?_) | refine BrM.mk (fun _ => ?_) (fun _ => ?_) | refine Ar.i64 (by omega) (by omega) ?_ | refine gO rfl ?_ | refine gP rfl (by repeat constructor) ?_) <;> conv => whnf) | (refine atLoad ?_; refine Nx.load1 0 rfl rfl rfl rfl (m0) rfl ?_) | refine Nx.late ?_)
      refine Nx.loop (X := Nat) (fun j => j ≤ (M.logs[k]).g.l.length ∧ ∀ q : Nat, q < j → (M.logs[k]).g.pub q = true) (fun j => (M.logs[k]).g.l.length - j)
        (fun j => [(0, .c (.v (ptr M.b))), (1, iv k), (5, iv j)]) (fun _ => []) [] (fun _ => [(0, M.sp)]) 0 ⟨Nat.zero_le _, fun i hi => by omega⟩ ?_ ?_ ?_ ?_ ?_
      all_goals repeat (first | exact .nil _ | refine .cons rfl ?_ | refine .cons rfl rfl ?_ | refine .cons rfl rfl rfl ?_ | refine .cons' rfl (fun _ => rfl) ?_)
      intro j ⟨hj, hyes⟩ ih
      have hp := published_ok M hx ⟨hl.1, hl.2.1⟩ j
      cases hpub : (M.logs[k]).g.pub j with
      | true =>
        rw [hpub] at hp
        have := pub_lt hl.1 hpub
        repeat' (first | ((first | refine BrM.t rfl ?_ | refine BrM.f rfl ?_ | refine BrM.dec (fun _ => ?_) (fun _ => ?_) | refine BrM.mk (fun _ => ?_) (fun _ => ?_) | refine Ar.i64 (by omega) (by omega) ?_ | refine gO rfl ?_ | refine gP rfl (by repeat constructor) ?_) <;> conv => whnf) | (refine atIdx ?_; refine Nx.idx 0 (j := k) rfl rfl rfl Try.underlying73 rfl rfl rfl LogH.pt_len hL rfl (by omega) (by omega) fun _ _ _ => ?_) | (refine atLoad ?_; refine Nx.load1 0 rfl rfl rfl rfl (m0) rfl ?_) | (refine atLoad ?_; first | (refine Nx.load1 0 rfl rfl rfl rfl (SeesAt.sub (by assumption) _ rfl) rfl ?_) | (refine Nx.load1 0 rfl rfl rfl rfl (by assumption) rfl ?_) | (refine Nx.load 0 rfl rfl rfl rfl (by assumption) rfl rfl ?_)) | (refine atCall 34 ?_; refine cE [0] [0] rfl rfl rfl rfl rfl (hp) rfl ?_) | refine Nx.late ?_)
        refine (ih (j + 1) ⟨by omega, fun q hq => ?_⟩ (by omega)).weak ?_ ?_ ?_ ?_
        · by_cases e : q = j
          · subst e; exact hpub
          · exact hyes q (by omega)
        · exact .cons rfl rfl (.cons rfl rfl (.cons rfl (by simp) (.nil _)))
        all_goals repeat (first | exact .nil _ | refine .cons rfl ?_ | refine .cons rfl rfl ?_ | refine .cons rfl rfl rfl ?_ | refine .cons' rfl (fun _ => rfl) ?_)
      | false =>
        rw [hpub] at hp
        repeat' (first | ((first | refine BrM.t rfl ?_ | refine BrM.f rfl ?_ | refine BrM.dec (fun _ => ?_) (fun _ => ?_) | refine BrM.mk (fun _ => ?_) (fun _ => ?_) | refine Ar.i64 (by omega) (by omega) ?_ | refine gO rfl ?_ | refine gP rfl (by repeat constructor) ?_) <;> conv => whnf) | (refine atIdx ?_; refine Nx.idx 0 (j := k) rfl rfl rfl Try.underlying73 rfl rfl rfl LogH.pt_len hL rfl (by omega) (by omega) fun _ _ _ => ?_) | (refine atLoad ?_; refine Nx.load1 0 rfl rfl rfl rfl (m0) rfl ?_) | (refine atLoad ?_; first | (refine Nx.load1 0 rfl rfl rfl rfl (SeesAt.sub (by assumption) _ rfl) rfl ?_) | (refine Nx.load1 0 rfl rfl rfl rfl (by assumption) rfl ?_) | (refine Nx.load 0 rfl rfl rfl rfl (by assumption) rfl rfl ?_)) | (refine atCall 34 ?_; refine cE [0] [0] rfl rfl rfl rfl rfl (hp) rfl ?_) | (refine atRet ?_; refine Nx.ret [0] Try.func17 rfl rfl ?_; (exact ⟨j, rfl, ⟨fun q hq => by rw [hev, hyes q hq]; rfl, by rw [hev, hpub]; rfl⟩, rfl⟩)) | refine Nx.late ?_)
    · have e : IsLen M.p ring 0 := ⟨fun j hj => by omega, event_none (by omega)⟩
      refine FnOk.start Try.func17 rfl rfl rfl rfl fun F os tape output => ?_
      refine go 200 ?_
      conv => whnf
      repeat' (first | ((first | refine BrM.yes (by omega) ?_ | refine BrM.not (by omega) ?_ | refine BrM.t rfl ?_ | refine BrM.f rfl ?_ | refine BrM.dec (fun _ => ?_) (fun _ => ?_) | refine BrM.mk (fun _ => ?_) (fun _ => ?_) | refine Ar.i64 (by omega) (by omega) ?_ | refine gO rfl ?_ | refine gP rfl (by repeat constructor) ?_) <;> conv => whnf) | (refine atLoad ?_; refine Nx.load1 0 rfl rfl rfl rfl (m0) rfl ?_) | (refine atRet ?_; refine Nx.ret [0] Try.func17 rfl rfl ?_; (exact ⟨0, rfl, e, rfl⟩)) | refine Nx.late ?_)
  · have e : IsLen M.p ring 0 := ⟨fun j hj => by omega, event_none (by omega)⟩
    refine FnOk.start Try.func17 rfl rfl rfl rfl fun F os tape output => ?_
    refine go 200 ?_
    conv => whnf
    repeat' (first | ((first | refine BrM.yes (by omega) ?_ | refine BrM.t rfl ?_ | refine BrM.f rfl ?_ | refine BrM.dec (fun _ => ?_) (fun _ => ?_) | refine BrM.mk (fun _ => ?_) (fun _ => ?_) | refine Ar.i64 (by omega) (by omega) ?_ | refine gO rfl ?_ | refine gP rfl (by repeat constructor) ?_) <;> conv => whnf) | (refine atRet ?_; refine Nx.ret [0] Try.func17 rfl rfl ?_; (exact ⟨0, rfl, e, rfl⟩)) | refine Nx.late ?_)
/-- .. with what stays. -/
def ErQ (S : SP) (c : Int) (v : Value) (Q : List SP) : Prop := (c = 0 ∧ v = .nilIface ∧ Q = [S]) ∨ (c ≠ 0 ∧ ∃ b q, v = .iface 130 (.pointer (some ⟨b, 0, none⟩)) ∧ Q = [S, errB b q c])
theorem ErQ.no {S : SP} : ErQ S 0 .nilIface [S] := .inl ⟨rfl, rfl, rfl⟩
theorem ErQ.yes {S : SP} {c : Int} (h : c ≠ 0) {b : Nat} {q : List UInt8 × Int} : ErQ S c (.iface 130 (.pointer (some ⟨b, 0, none⟩))) [S, errB b q c] := .inr ⟨h, b, q, rfl, rfl⟩
theorem fresh_ok (M : MdH) (hm : MdW M.p) (n ring : Int) (hn1 : 0 ≤ n) (hn2 : n ≤ 100) : FnOk Try.prog 39 [ptr M.b, .int .i64 n, .int .i64 ring] [M.sp] (ErQ M.sp (M.p.fresh n ring)) := by
  have hM := M.seeM
  have hn := hm.ln
  have hr := hm.rn
  have m0 := hM.sub 0 rfl
  have m1 := hM.sub 1 rfl
  have m2 := hM.sub 2 rfl
  have e0 : M.p.fresh n ring = if ring < 0 ∨ (M.logs.length : Int) ≤ ring then 3 else if 512 < (M.writers.length : Int) + M.readers.length + n then 8 else 0 := by simp [MdP.fresh, MdH.p]
  rw [e0]
  by_cases h0 : ring < 0 ∨ (M.logs.length : Int) ≤ ring
  · rw [if_pos h0]
    by_cases h1 : ring < 0
    · refine FnOk.start Try.func39 rfl rfl rfl rfl fun F os tape output => ?_
      refine go 200 ?_
      conv => whnf
      repeat' (first | ((first | refine BrM.yes (by omega) ?_ | refine BrM.t rfl ?_ | refine BrM.f rfl ?_ | refine BrM.dec (fun _ => ?_) (fun _ => ?_) | refine BrM.mk (fun _ => ?_) (fun _ => ?_) | refine Ar.i64 (by omega) (by omega) ?_ | refine gO rfl ?_ | refine gP rfl (by repeat constructor) ?_) <;> conv => whnf) | (refine (atCall 37) ?_; refine Nx.call [] [9] rfl rfl rfl rfl rfl ((wrong_ok _ _ 3)) rfl fun v Q hQ => ?_; obtain ⟨b,rfl,rfl⟩ := hQ) | (refine atRet ?_; refine Nx.ret [0,9] Try.func39 rfl rfl ?_; (exact ErQ.yes (by decide))) | refine Nx.late ?_)
    · refine FnOk.start Try.func39 rfl rfl rfl rfl fun F os tape output => ?_
      refine go 200 ?_
      conv => whnf
      repeat' (first | ((first | refine BrM.yes (by omega) ?_ | refine BrM.not (by omega) ?_ | refine BrM.t rfl ?_ | refine BrM.f rfl ?_ | refine BrM.dec (fun _ => ?_) (fun _ => ?_) | refine BrM.mk (fun _ => ?_) (fun _ => ?_) | refine Ar.i64 (by omega) (by omega) ?_ | refine gO rfl ?_ | refine gP rfl (by repeat constructor) ?_) <;> conv => whnf) | (refine atLoad ?_; refine Nx.load1 0 rfl rfl rfl rfl (m0) rfl ?_) | (refine (atCall 37) ?_; refine Nx.call [] [9] rfl rfl rfl rfl rfl ((wrong_ok _ _ 3)) rfl fun v Q hQ => ?_; obtain ⟨b,rfl,rfl⟩ := hQ) | (refine atRet ?_; refine Nx.ret [0,9] Try.func39 rfl rfl ?_; (exact ErQ.yes (by decide))) | refine Nx.late ?_)
  · rw [if_neg h0]
    by_cases h2 : 512 < (M.writers.length : Int) + M.readers.length + n
    · rw [if_pos h2]
      refine FnOk.start Try.func39 rfl rfl rfl rfl fun F os tape output => ?_
      refine go 200 ?_
      conv => whnf
      repeat' (first | ((first | refine BrM.yes (by omega) ?_ | refine BrM.not (by omega) ?_ | refine BrM.t rfl ?_ | refine BrM.f rfl ?_ | refine BrM.dec (fun _ => ?_) (fun _ => ?_) | refine BrM.mk (fun _ => ?_) (fun _ => ?_) | refine Ar.i64 (by omega) (by omega) ?_ | refine gO rfl ?_ | refine gP rfl (by repeat constructor) ?_) <;> conv => whnf) | (refine atLoad ?_; refine Nx.load1 0 rfl rfl rfl rfl (m0) rfl ?_) | (refine dN 5 [0] [0,4,8,13,16,20,24,28,33,36,40,44,48,52,56] rfl (by kernel_rfl) rfl (by kernel_rfl) rfl (by repeat constructor) rfl ?_) | (refine atHoLoad ?_; first | refine hL1 rfl rfl rfl rfl (SeesAt.sub (by assumption) _ rfl) (by repeat constructor) rfl ?_ | refine hL1 rfl rfl rfl rfl (by assumption) (by repeat constructor) rfl ?_ | refine hLm rfl rfl rfl rfl (by assumption) (by repeat constructor) rfl rfl ?_) | (refine (atCall 37) ?_; refine Nx.call [] [9] rfl rfl rfl rfl rfl ((wrong_ok _ _ 8)) rfl fun v Q hQ => ?_; obtain ⟨b,rfl,rfl⟩ := hQ) | (refine atRet ?_; refine Nx.ret [0,9] Try.func39 rfl rfl ?_; (exact ErQ.yes (by decide))) | refine Nx.late ?_)
    · rw [if_neg h2]
      refine FnOk.start Try.func39 rfl rfl rfl rfl fun F os tape output => ?_
      refine go 200 ?_
      conv => whnf
      repeat' (first | ((first | refine BrM.not (by omega) ?_ | refine BrM.t rfl ?_ | refine BrM.f rfl ?_ | refine BrM.dec (fun _ => ?_) (fun _ => ?_) | refine BrM.mk (fun _ => ?_) (fun _ => ?_) | refine Ar.i64 (by omega) (by omega) ?_ | refine gO rfl ?_ | refine gP rfl (by repeat constructor) ?_) <;> conv => whnf) | (refine atLoad ?_; refine Nx.load1 0 rfl rfl rfl rfl (m0) rfl ?_) | (refine dN 5 [0] [0,4,8,13,16,20,24,28,33,36,40,44,48,52,56] rfl (by kernel_rfl) rfl (by kernel_rfl) rfl (by repeat constructor) rfl ?_) | (refine atHoLoad ?_; first | refine hL1 rfl rfl rfl rfl (SeesAt.sub (by assumption) _ rfl) (by repeat constructor) rfl ?_ | refine hL1 rfl rfl rfl rfl (by assumption) (by repeat constructor) rfl ?_ | refine hLm rfl rfl rfl rfl (by assumption) (by repeat constructor) rfl rfl ?_) | (refine atRet ?_; refine Nx.ret [0] Try.func39 rfl rfl ?_; (exact ErQ.no)) | refine Nx.late ?_)
end Go.Proofs.Ytngfadijcpnblaa

/- The program's model: logs and writers more. -/
namespace Go.Proofs.Ytngfadijcpnblaa
open Go.RowKit
set_option maxRecDepth 20000
set_option maxHeartbeats 2000000
theorem sat_unstar {L : List SP} : ∀ r h, Sat [star L] r h → Sat L r h := by
  rintro r h ⟨r1, h1, h2, a1, a2, a3, a4, a5, a6⟩
  exact Sat.mono (show Sat L r1 h1 from a5) a1 a2
theorem sat_restar {L : List SP} {r h : PH} (H : Sat L r h) : Sat [star L] r h :=
  ⟨r, h, PH.em, PH.le_refl _, PH.le_refl _, PH.em_le _, PH.dj_em _, H, trivial⟩
theorem sat_snoc {l : List SP} {P P' : SP} (hP : ∀ r h, P r h → P' r h) : ∀ r h, Sat [star l, P] r h → Sat [star (l ++ [P'])] r h := by
  rintro r h ⟨r1, h1, h2, a1, a2, a3, a4, a5, r3, h3, h4, b1, b2, b3, b4, b5, b6⟩
  refine sat_restar (Sat.join (h1 := h1) (h2 := h2) (Sat.mono (show Sat l r1 h1 from a5) a1 (PH.le_refl _)) ⟨r3, h3, h4, b1, b2, b3, b4, hP _ _ b5, trivial⟩ a2 a3 a4)
/-- One more of those of a list: it stands last. -/
theorem regroup (A B : List SP) {l : List SP} {P P' : SP} (hP : ∀ r h, P r h → P' r h) {r h : PH} (H : Sat (A ++ star l :: (B ++ [P])) r h) : Sat (A ++ star (l ++ [P']) :: B) r h := by
  have p1 : (A ++ star l :: (B ++ [P])).Perm ([star l, P] ++ (A ++ B)) := by
    refine List.perm_middle.trans ?_
    refine (List.Perm.cons _ ?_)
    rw [← List.append_assoc]
    exact (List.perm_append_comm (l₁ := A ++ B) (l₂ := [P]))
  have p2 : ([star (l ++ [P'])] ++ (A ++ B)).Perm (A ++ star (l ++ [P']) :: B) := by
    show (star (l ++ [P']) :: (A ++ B)).Perm _
    exact List.perm_middle.symm
  exact Sat.perm p2 ((Sat.perm p1 H).imp_left fun h' x => sat_snoc hP _ _ x)
/-- What a function that changes the model comes to. -/
def MdQ (b : Nat) (r : MdP × Int) (v : Value) (Q : List SP) : Prop := ∃ M' : MdH, M'.b = b ∧ M'.p = r.1 ∧ ErQ M'.sp r.2 v Q
theorem MdQ.yes {M : MdH} {P : MdP} {c : Int} (hp : M.p = P) (h : c ≠ 0) {b : Nat} {q : List UInt8 × Int} : MdQ M.b (P, c) (.iface 130 (.pointer (some ⟨b, 0, none⟩))) [M.sp, errB b q c] := ⟨M, rfl, hp, ErQ.yes h⟩
theorem MdQ.no {M : MdH} {b : Nat} {P : MdP} (hb : M.b = b) (hp : M.p = P) : MdQ b (P, 0) .nilIface [M.sp] := ⟨M, hb, hp, ErQ.no⟩
attribute [local irreducible] Nx Ar BrM headC OneC HoC AftC planHead endF
def LogQ (b : Nat) (r : MdP × Int) (v : Value) (Q : List SP) : Prop := ∃ v', v = .tuple #[.int .i64 (if r.2 = 0 then (r.1.logs.length : Int) - 1 else 0), v'] ∧ MdQ b r v' Q
def LogH.new (b : Nat) (size : Int) (many : Bool) : LogH := ⟨b, ⟨size, many, [], []⟩, none, 0, none, 0⟩
theorem LogH.new_sp (b : Nat) (size : Int) (many : Bool) : ∀ r h, blk b (.cells (LogH.new b size many).cells.toArray 90 (0, 0)) r h → (LogH.new b size many).sp r h := by
  intro r h hb
  exact ⟨r, h, PH.em, PH.le_refl _, PH.le_refl _, PH.em_le _, PH.dj_em _, hb, r, PH.em, PH.em, PH.le_refl _, PH.le_refl _, PH.le_refl _, PH.em_dj _, ownT_nil _ _ _ _ _, r, PH.em, PH.em, PH.le_refl _, PH.le_refl _, PH.le_refl _, PH.em_dj _, ownT_nil _ _ _ _ _, trivial⟩
theorem Log_ok (M : MdH) (hm : MdW M.p) (size : Int) (many : Bool) : FnOk Try.prog 19 [ptr M.b, .int .i64 size, .bool many] [M.sp] (LogQ M.b (M.p.addLog size many)) := by
  have hM := M.seeM
  have hn := hm.ln
  have m0 := hM.sub 0 rfl
  unfold MdP.addLog
  by_cases h1 : size < 1 ∨ 1048576 < size
  · rw [if_pos h1]
    by_cases h2 : size < 1
    · refine FnOk.start Try.func19 rfl rfl rfl rfl fun F os tape output => ?_
      refine go 200 ?_
      conv => whnf
      repeat' (first | ((first | refine BrM.yes (by omega) ?_ | refine BrM.t rfl ?_ | refine BrM.f rfl ?_ | refine BrM.dec (fun _ => ?_) (fun _ => ?_) | refine BrM.mk (fun _ => ?_) (fun _ => ?_) | refine Ar.i64 (by omega) (by omega) ?_ | refine gO rfl ?_ | refine gP rfl (by repeat constructor) ?_) <;> conv => whnf) | (refine (atCall 37) ?_; refine Nx.call [] [9] rfl rfl rfl rfl rfl ((wrong_ok _ _ 7)) rfl fun v Q hQ => ?_; obtain ⟨b,rfl,rfl⟩ := hQ) | (refine atRet ?_; refine Nx.ret [0,9] Try.func19 rfl rfl ?_; (exact ⟨_, rfl, MdQ.yes rfl (by decide)⟩)) | refine Nx.late ?_)
    · refine FnOk.start Try.func19 rfl rfl rfl rfl fun F os tape output => ?_
      refine go 200 ?_
      conv => whnf
      repeat' (first | ((first | refine BrM.yes (by omega) ?_ | refine BrM.not (by omega) ?_ | refine BrM.t rfl ?_ | refine BrM.f rfl ?_ | refine BrM.dec (fun _ => ?_) (fun _ => ?_) | refine BrM.mk (fun _ => ?_) (fun _ => ?_) | refine Ar.i64 (by omega) (by omega) ?_ | refine gO rfl ?_ | refine gP rfl (by repeat constructor) ?_) <;> conv => whnf) | (refine (atCall 37) ?_; refine Nx.call [] [9] rfl rfl rfl rfl rfl ((wrong_ok _ _ 7)) rfl fun v Q hQ => ?_; obtain ⟨b,rfl,rfl⟩ := hQ) | (refine atRet ?_; refine Nx.ret [0,9] Try.func19 rfl rfl ?_; (exact ⟨_, rfl, MdQ.yes rfl (by decide)⟩)) | refine Nx.late ?_)
  rw [if_neg h1]
  have el : M.p.logs.length = M.logs.length := by simp [MdH.p]
  rw [el]
  by_cases h3 : 8 ≤ M.logs.length
  · rw [if_pos h3]
    refine FnOk.start Try.func19 rfl rfl rfl rfl fun F os tape output => ?_
    refine go 200 ?_
    conv => whnf
    repeat' (first | ((first | refine BrM.yes (by omega) ?_ | refine BrM.not (by omega) ?_ | refine BrM.t rfl ?_ | refine BrM.f rfl ?_ | refine BrM.dec (fun _ => ?_) (fun _ => ?_) | refine BrM.mk (fun _ => ?_) (fun _ => ?_) | refine Ar.i64 (by omega) (by omega) ?_ | refine gO rfl ?_ | refine gP rfl (by repeat constructor) ?_) <;> conv => whnf) | (refine atLoad ?_; refine Nx.load1 0 rfl rfl rfl rfl (m0) rfl ?_) | (refine (atCall 37) ?_; refine Nx.call [] [9] rfl rfl rfl rfl rfl ((wrong_ok _ _ 8)) rfl fun v Q hQ => ?_; obtain ⟨b,rfl,rfl⟩ := hQ) | (refine atRet ?_; refine Nx.ret [0,9] Try.func19 rfl rfl ?_; (exact ⟨_, rfl, MdQ.yes rfl (by decide)⟩)) | refine Nx.late ?_)
  rw [if_neg h3]
  refine FnOk.start Try.func19 rfl rfl rfl rfl fun F os tape output => ?_
  refine go 200 ?_
  conv => whnf
  repeat' (first | ((first | refine BrM.not (by omega) ?_ | refine BrM.t rfl ?_ | refine BrM.f rfl ?_ | refine BrM.dec (fun _ => ?_) (fun _ => ?_) | refine BrM.mk (fun _ => ?_) (fun _ => ?_) | refine Ar.i64 (by omega) (by omega) ?_ | refine gO rfl ?_ | refine gP rfl (by repeat constructor) ?_) <;> conv => whnf) | (refine atLoad ?_; refine Nx.load1 0 rfl rfl rfl rfl (m0) rfl ?_) | refine Nx.late ?_)
  refine Nx.bind (l := 42) (fun b => ?_) rfl
  refine Nx.out 42 rfl rfl rfl rfl ?_
  refine Nx.turn [0] [0, 1, 2, 3, 4, 5, 6, 7, 8] M.parts rfl sat_unstar ?_
  repeat' (first | ((first | refine BrM.t rfl ?_ | refine BrM.f rfl ?_ | refine BrM.dec (fun _ => ?_) (fun _ => ?_) | refine BrM.mk (fun _ => ?_) (fun _ => ?_) | refine Ar.i64 (by omega) (by omega) ?_ | refine gO rfl ?_ | refine gP rfl (by repeat constructor) ?_) <;> conv => whnf) | (refine atApp ?_; refine Nx.append 1 (sz := 1) (by_ := 8) (news := [ptr b]) rfl rfl rfl rfl rfl Try.underlying73 rfl rfl rfl rfl rfl (by unfold maxLen; omega) (by omega) fun A' c'' => ?_) | refine Nx.late ?_)
  refine Nx.storeW 0 (blk M.b (.cells (M.cells.set 0 (.slice A' (M.logs.length + 1) c'')).toArray 78 (0, 0))) rfl rfl rfl rfl rfl rfl rfl rfl rfl (blk_set (by show 0 < 4; decide)) ?_
  obtain ⟨M', hM'⟩ : ∃ M' : MdH, M' = { M with logs := M.logs ++ [LogH.new b size many], lA := A', lc := c'' } := ⟨_, rfl⟩
  refine Nx.turn [0, 1, 2, 3, 4, 5, 6, 7, 8, 42] [0] [M'.sp] rfl (fun r h hs => ?_) ?_
  · have := regroup [_, _, _, _, _] [_, _, _] (LogH.new_sp b size many) hs
    subst hM'
    refine sat_restar ?_
    simp only [MdH.cells, List.set_cons_zero] at this
    simp only [MdH.parts, MdH.cells, List.map_append, List.map_cons, List.map_nil, List.flatMap_append, List.flatMap_cons, List.flatMap_nil, List.length_append, List.length_singleton, List.append_nil]
    exact this
  have em : M'.b = M.b := by rw [hM']
  have ep : M'.p = { M.p with logs := M.p.logs ++ [⟨size, many, [], []⟩] } := by rw [hM']; simp [MdH.p, LogH.new]
  have elen : M'.logs.length = M.logs.length + 1 := by rw [hM']; simp
  have hM2 : SeesAt M'.sp M.b 0 M'.cells := em ▸ M'.seeM
  repeat' (first | ((first | refine BrM.t rfl ?_ | refine BrM.f rfl ?_ | refine BrM.dec (fun _ => ?_) (fun _ => ?_) | refine BrM.mk (fun _ => ?_) (fun _ => ?_) | refine Ar.i64 (by omega) (by omega) ?_ | refine gO rfl ?_ | refine gP rfl (by repeat constructor) ?_) <;> conv => whnf) | (refine atLoad ?_; refine Nx.load1 0 rfl rfl rfl rfl ((hM2.sub 0 rfl)) rfl ?_) | (refine atRet ?_; refine Nx.ret [0] Try.func19 rfl rfl ?_; (exact ⟨.nilIface, by simp [oneV, elen, MdH.p], MdQ.no em ep⟩)) | refine Nx.late ?_)
end Go.Proofs.Ytngfadijcpnblaa

/- The program's model: writers and readers more. -/
namespace Go.Proofs.Ytngfadijcpnblaa
open Go.RowKit
set_option maxRecDepth 20000
set_option maxHeartbeats 2000000
theorem ErQ.z {S : SP} {c : Int} {v : Value} {Q : List SP} (e : c = 0) (h : ErQ S c v Q) : v = .nilIface ∧ Q = [S] := by
  rcases h with h | h
  · exact h.2
  · exact absurd e h.1
theorem ErQ.nz {S : SP} {c : Int} {v : Value} {Q : List SP} (e : c ≠ 0) (h : ErQ S c v Q) : ∃ b q, v = .iface 130 (.pointer (some ⟨b, 0, none⟩)) ∧ Q = [S, errB b q c] := by
  rcases h with h | h
  · exact absurd h.1 e
  · exact h.2
attribute [local irreducible] Nx Ar BrM headC OneC HoC AftC planHead endF
def WrH.new (b : Nat) (who ring : Int) : WrH := ⟨b, who, ring, [], none, 0, -1, 0, false⟩
theorem WrH.new_sp (b : Nat) (who ring : Int) : ∀ r h, blk b (.cells (WrH.new b who ring).cells.toArray 104 (0, 0)) r h → (WrH.new b who ring).sp r h := by
  intro r h hb
  exact ⟨r, h, PH.em, PH.le_refl _, PH.le_refl _, PH.em_le _, PH.dj_em _, hb, r, PH.em, PH.em, PH.le_refl _, PH.le_refl _, PH.le_refl _, PH.em_dj _, ownT_nil _ _ _ _ _, r, PH.em, PH.em, PH.le_refl _, PH.le_refl _, PH.le_refl _, PH.em_dj _, trivial, trivial⟩
theorem Writer_ok (M : MdH) (hm : MdW M.p) (who ring : Int) : FnOk Try.prog 21 [ptr M.b, .int .i64 who, .int .i64 ring] [M.sp] (MdQ M.b (M.p.addWriter who ring)) := by
  have hM := M.seeM
  have m1 := hM.sub 1 rfl
  have hf := fresh_ok M hm 1 ring (by omega) (by omega)
  have hnm := named_ok M hm who
  unfold MdP.addWriter
  by_cases h1 : M.p.fresh 1 ring ≠ 0
  · rw [if_pos h1]
    refine FnOk.start Try.func21 rfl rfl rfl rfl fun F os tape output => ?_
    refine go 200 ?_
    conv => whnf
    repeat' (first | ((first | refine BrM.t rfl ?_ | refine BrM.f rfl ?_ | refine BrM.dec (fun _ => ?_) (fun _ => ?_) | refine BrM.mk (fun _ => ?_) (fun _ => ?_) | refine Ar.i64 (by omega) (by omega) ?_ | refine gO rfl ?_ | refine gP rfl (by repeat constructor) ?_) <;> conv => whnf) | (refine (atCall 39) ?_; refine Nx.call [0] [0,9] rfl rfl rfl rfl rfl ((hf.mono fun _ _ h => h.nz h1)) rfl fun v Q hQ => ?_; obtain ⟨b,q,rfl,rfl⟩ := hQ) | (refine atRet ?_; refine Nx.ret [0,9] Try.func21 rfl rfl ?_; (exact MdQ.yes rfl h1)) | refine Nx.late ?_)
  rw [if_neg h1]
  have h1' : M.p.fresh 1 ring = 0 := by omega
  cases h2 : M.p.named who with
  | true =>
    rw [h2] at hnm
    rw [if_pos rfl]
    refine FnOk.start Try.func21 rfl rfl rfl rfl fun F os tape output => ?_
    refine go 200 ?_
    conv => whnf
    repeat' (first | ((first | refine BrM.t rfl ?_ | refine BrM.f rfl ?_ | refine BrM.dec (fun _ => ?_) (fun _ => ?_) | refine BrM.mk (fun _ => ?_) (fun _ => ?_) | refine Ar.i64 (by omega) (by omega) ?_ | refine gO rfl ?_ | refine gP rfl (by repeat constructor) ?_) <;> conv => whnf) | (refine atCall 39 ?_; refine cE [0] [0] rfl rfl rfl rfl rfl ((hf.mono fun _ _ h => h.z h1')) rfl ?_) | (refine atCall 40 ?_; refine cE [0] [0] rfl rfl rfl rfl rfl (hnm) rfl ?_) | (refine (atCall 37) ?_; refine Nx.call [] [9] rfl rfl rfl rfl rfl ((wrong_ok _ _ 4)) rfl fun v Q hQ => ?_; obtain ⟨b,rfl,rfl⟩ := hQ) | (refine atRet ?_; refine Nx.ret [0,9] Try.func21 rfl rfl ?_; (exact MdQ.yes rfl (by decide))) | refine Nx.late ?_)
  | false =>
    rw [h2] at hnm
    rw [if_neg (by decide)]
    have hn := hm.nw
    simp only [MdH.p, List.length_map] at hn
    have h3 : (M.writers.length : Int) + 1 ≤ 512 := by
      unfold MdP.fresh at h1'
      simp only [MdH.p, List.length_map] at h1'
      split at h1'
      · cases h1'
      · split at h1'
        · cases h1'
        · omega
    refine FnOk.start Try.func21 rfl rfl rfl rfl fun F os tape output => ?_
    refine go 200 ?_
    conv => whnf
    repeat' (first | ((first | refine BrM.t rfl ?_ | refine BrM.f rfl ?_ | refine BrM.dec (fun _ => ?_) (fun _ => ?_) | refine BrM.mk (fun _ => ?_) (fun _ => ?_) | refine Ar.i64 (by omega) (by omega) ?_ | refine gO rfl ?_ | refine gP rfl (by repeat constructor) ?_) <;> conv => whnf) | (refine atCall 39 ?_; refine cE [0] [0] rfl rfl rfl rfl rfl ((hf.mono fun _ _ h => h.z h1')) rfl ?_) | (refine atCall 40 ?_; refine cE [0] [0] rfl rfl rfl rfl rfl (hnm) rfl ?_) | (refine atLoad ?_; refine Nx.load1 0 rfl rfl rfl rfl (m1) rfl ?_) | refine Nx.late ?_)
    refine Nx.bind (l := 27) (fun b => ?_) rfl
    refine Nx.out 27 rfl rfl rfl rfl ?_
    refine Nx.turn [0] [0, 1, 2, 3, 4, 5, 6, 7, 8] M.parts rfl sat_unstar ?_
    repeat' (first | ((first | refine BrM.t rfl ?_ | refine BrM.f rfl ?_ | refine BrM.dec (fun _ => ?_) (fun _ => ?_) | refine BrM.mk (fun _ => ?_) (fun _ => ?_) | refine Ar.i64 (by omega) (by omega) ?_ | refine gO rfl ?_ | refine gP rfl (by repeat constructor) ?_) <;> conv => whnf) | (refine atApp ?_; refine Nx.append 2 (sz := 1) (by_ := 8) (news := [ptr b]) rfl rfl rfl rfl rfl Try.underlying74 rfl rfl rfl rfl rfl (by unfold maxLen; omega) (by omega) fun A' c'' => ?_) | refine Nx.late ?_)
    refine Nx.storeW 0 (blk M.b (.cells (M.cells.set 1 (.slice A' (M.writers.length + 1) c'')).toArray 78 (0, 0))) rfl rfl rfl rfl rfl rfl rfl rfl rfl (blk_set (by show 1 < 4; decide)) ?_
    obtain ⟨M', hM'⟩ : ∃ M' : MdH, M' = { M with writers := M.writers ++ [WrH.new b who ring], wA := A', wc := c'' } := ⟨_, rfl⟩
    refine Nx.turn [0, 1, 2, 3, 4, 5, 6, 7, 8, 27] [0] [M'.sp] rfl (fun r h hs => ?_) ?_
    · have := regroup [_, _, _, _, _, _] [_, _] (WrH.new_sp b who ring) hs
      subst hM'
      refine sat_restar ?_
      simp only [MdH.cells, List.set_cons_zero, List.set_cons_succ] at this
      simp only [MdH.parts, MdH.cells, List.map_append, List.map_cons, List.map_nil, List.flatMap_append, List.flatMap_cons, List.flatMap_nil, List.length_append, List.length_singleton, List.append_nil]
      exact this
    have em : M'.b = M.b := by rw [hM']
    have ep : M'.p = { M.p with writers := M.p.writers ++ [⟨who, ring, [], -1, 0, false⟩] } := by rw [hM']; simp [MdH.p, WrH.new, WrH.p]
    repeat' (first | ((first | refine BrM.t rfl ?_ | refine BrM.f rfl ?_ | refine BrM.dec (fun _ => ?_) (fun _ => ?_) | refine BrM.mk (fun _ => ?_) (fun _ => ?_) | refine Ar.i64 (by omega) (by omega) ?_ | refine gO rfl ?_ | refine gP rfl (by repeat constructor) ?_) <;> conv => whnf) | (refine atRet ?_; refine Nx.ret [0] Try.func21 rfl rfl ?_; (exact MdQ.no em ep)) | refine Nx.late ?_)
end Go.Proofs.Ytngfadijcpnblaa

/- The program's model: a reader more, readers, pools. -/
namespace Go.Proofs.Ytngfadijcpnblaa
open Go.RowKit
set_option maxRecDepth 20000
set_option maxHeartbeats 2000000
attribute [local irreducible] Nx Ar BrM headC OneC HoC AftC planHead endF
def RdH.new (b : Nat) (who ring start pool : Int) (ahead : List Int) (A : Option Addr) (c : Nat) : RdH := ⟨b, newR who ring start pool ahead, A, c⟩
theorem RdH.new_sp (b : Nat) (who ring start pool : Int) (ahead : List Int) (A : Option Addr) (c : Nat) : ∀ r h, Sat [blk b (.cells (RdH.new b who ring start pool ahead A c).cells.toArray 93 (0, 0)), rdS A ahead.length 1 (ahead.flatMap inC)] r h → (RdH.new b who ring start pool ahead A c).sp r h :=
  fun _ _ h => h
theorem inC_one (l : List Int) : ∀ u ∈ l.flatMap inC, u.oneCell' = true := fun u hu => by
  obtain ⟨x, _, hx⟩ := List.mem_flatMap.1 hu
  simp only [inC, List.mem_singleton] at hx
  subst hx; rfl
theorem add_ok (M : MdH) (hm : M.readers.length + 1 ≤ 512) (who ring start pool : Int) (ahead : List Int) (aA : Option Addr) (ac : Nat) (ha : ahead.length ≤ 1000) (hs : 0 ≤ start ∧ start ≤ 4611686018427387904) :
    FnOk Try.prog 42 [ptr M.b, .int .i64 who, .int .i64 ring, .int .i64 start, .int .i64 pool, .slice aA ahead.length ac] [M.sp, rdS aA ahead.length 1 (ahead.flatMap inC)]
      (fun _ Q => ∃ M' : MdH, M'.b = M.b ∧ M'.p = { M.p with readers := M.p.readers ++ [newR who ring start pool ahead] } ∧ M'.pools.length = M.pools.length ∧ Q = [M'.sp]) := by
  have m2 := M.seeM.sub 2 rfl
  have hL : Sees (rdS aA ahead.length 1 (ahead.flatMap inC)) aA ahead.length 1 (ahead.flatMap inC) := rdS_sees _ _ _ _
  refine FnOk.start Try.func42 rfl rfl rfl rfl fun F os tape output => ?_
  refine go 200 ?_
  conv => whnf
  refine Nx.give 5 (ownS 3 none 0 0 1 []) (own_nil _ _ _ _) ?_
  refine Nx.drawn0 [0] [.pure 0, .pure 1, .pure 2, .pure 3, .held 4, .pure 5, .pure 6, .pure 7, .pure 8, .pure 9, .pure 10, .pure 11, .pure 12, .ex 13 true, .pure 14, .ex 15 true, .ex 16 true, .ex 17 false, .pure 18, .pure 19, .ex 20 false] rfl (by kernel_rfl) rfl (by kernel_rfl) rfl ?_ rfl ?_
  · repeat (first | exact subB.nil _ | refine subB.cons rfl ?_)
  repeat' (first | ((first | refine BrM.t rfl ?_ | refine BrM.f rfl ?_ | refine BrM.dec (fun _ => ?_) (fun _ => ?_) | refine BrM.mk (fun _ => ?_) (fun _ => ?_) | refine Ar.i64 (by omega) (by omega) ?_ | refine gO rfl ?_ | refine gP rfl (by repeat constructor) ?_) <;> conv => whnf) | (refine atHoLoad ?_; first | refine hL1 rfl rfl rfl rfl (SeesAt.sub (by assumption) _ rfl) (by repeat constructor) rfl ?_ | refine hL1 rfl rfl rfl rfl (by assumption) (by repeat constructor) rfl ?_ | refine hLm rfl rfl rfl rfl (by assumption) (by repeat constructor) rfl rfl ?_) | (refine atAftK ?_; refine Nx.keepN [0] rfl (by repeat constructor) (by repeat constructor) rfl ?_) | (refine atApp ?_; refine Nx.appendS 5 1 (sz := 1) (by_ := 8) rfl rfl rfl Try.underlying35 rfl rfl rfl rfl hL (inC_one _) (by unfold maxLen; omega) (by omega) fun B bc => ?_; rw [Nat.zero_add]) | refine Nx.late ?_)
  refine Nx.share 5 (rdS B ahead.length 1 (ahead.flatMap inC)) rfl own_share ?_
  refine Nx.bind (l := 27) (fun b => ?_) rfl
  refine Nx.out 27 rfl rfl rfl rfl ?_
  refine Nx.turn [27, 5] [27] [(RdH.new b who ring start pool ahead B bc).sp] rfl (fun r h hs => sat_restar hs) ?_
  refine Nx.turn [0] [0, 31, 2, 3, 4, 5, 6, 7, 8] M.parts rfl sat_unstar ?_
  repeat' (first | ((first | refine BrM.t rfl ?_ | refine BrM.f rfl ?_ | refine BrM.dec (fun _ => ?_) (fun _ => ?_) | refine BrM.mk (fun _ => ?_) (fun _ => ?_) | refine Ar.i64 (by omega) (by omega) ?_ | refine gO rfl ?_ | refine gP rfl (by repeat constructor) ?_) <;> conv => whnf) | (refine atApp ?_; refine Nx.append 3 (sz := 1) (by_ := 8) (news := [ptr b]) rfl rfl rfl rfl rfl Try.underlying75 rfl rfl rfl rfl rfl (by unfold maxLen; omega) (by omega) fun A' c'' => ?_) | refine Nx.late ?_)
  refine Nx.storeW 0 (blk M.b (.cells (M.cells.set 2 (.slice A' (M.readers.length + 1) c'')).toArray 78 (0, 0))) rfl rfl rfl rfl rfl rfl rfl rfl rfl (blk_set (by show 2 < 4; decide)) ?_
  obtain ⟨M', hM'⟩ : ∃ M' : MdH, M' = { M with readers := M.readers ++ [RdH.new b who ring start pool ahead B bc], rA := A', rc := c'' } := ⟨_, rfl⟩
  refine Nx.turn [0, 31, 2, 3, 4, 5, 6, 7, 8, 27] [0] [M'.sp] rfl (fun r h hs => ?_) ?_
  · have := regroup [_, _, _, _, _, _, _] [_] (fun _ _ h => h) hs
    subst hM'
    refine sat_restar ?_
    simp only [MdH.cells, List.set_cons_zero, List.set_cons_succ] at this
    simp only [MdH.parts, MdH.cells, List.map_append, List.map_cons, List.map_nil, List.flatMap_append, List.flatMap_cons, List.flatMap_nil, List.length_append, List.length_singleton, List.append_nil]
    exact this
  have em : M'.b = M.b := by rw [hM']
  have ep : M'.p = { M.p with readers := M.p.readers ++ [newR who ring start pool ahead] } := by rw [hM']; simp [MdH.p, RdH.new]
  have el : M'.pools.length = M.pools.length := by rw [hM']
  repeat' (first | ((first | refine BrM.t rfl ?_ | refine BrM.f rfl ?_ | refine BrM.dec (fun _ => ?_) (fun _ => ?_) | refine BrM.mk (fun _ => ?_) (fun _ => ?_) | refine Ar.i64 (by omega) (by omega) ?_ | refine gO rfl ?_ | refine gP rfl (by repeat constructor) ?_) <;> conv => whnf) | (refine atEnd ?_; refine Nx.done [0] rfl rfl rfl ?_; (exact ⟨M', em, ep, el, rfl⟩)) | refine Nx.late ?_)
end Go.Proofs.Ytngfadijcpnblaa

/- The program's model: Reader. -/
namespace Go.Proofs.Ytngfadijcpnblaa
open Go.RowKit
set_option maxRecDepth 20000
set_option maxHeartbeats 2000000
theorem fresh_zero {P : MdP} {n ring : Int} (h : P.fresh n ring = 0) : 0 ≤ ring ∧ ring < P.logs.length ∧ (P.writers.length : Int) + P.readers.length + n ≤ 512 := by
  unfold MdP.fresh at h
  split at h
  · cases h
  · split at h
    · cases h
    · omega
attribute [local irreducible] Nx Ar BrM headC OneC HoC AftC planHead endF
theorem Reader_ok (M : MdH) (hm : MdW M.p) (who ring start : Int) (ahead : List Int) (aA : Option Addr) (ac : Nat) (ha : ahead.length ≤ 1000) :
    FnOk Try.prog 22 [ptr M.b, .int .i64 who, .int .i64 ring, .int .i64 start, .slice aA ahead.length ac] [M.sp, rdS aA ahead.length 1 (ahead.flatMap inC)] (MdQ M.b (M.p.addReader who ring start ahead)) := by
  have hL : Sees (rdS aA ahead.length 1 (ahead.flatMap inC)) aA ahead.length 1 (ahead.flatMap inC) := rdS_sees _ _ _ _
  have hf := fresh_ok M hm 1 ring (by omega) (by omega)
  have hof := of_ok M hm who
  have hat := at_ok M hm who ring
  unfold MdP.addReader
  by_cases h1 : M.p.fresh 1 ring ≠ 0
  · rw [if_pos h1]
    refine FnOk.start Try.func22 rfl rfl rfl rfl fun F os tape output => ?_
    refine go 200 ?_
    conv => whnf
    repeat' (first | ((first | refine BrM.t rfl ?_ | refine BrM.f rfl ?_ | refine BrM.dec (fun _ => ?_) (fun _ => ?_) | refine BrM.mk (fun _ => ?_) (fun _ => ?_) | refine Ar.i64 (by omega) (by omega) ?_ | refine gO rfl ?_ | refine gP rfl (by repeat constructor) ?_) <;> conv => whnf) | (refine (atCall 39) ?_; refine Nx.call [0] [0,9] rfl rfl rfl rfl rfl ((hf.mono fun _ _ h => h.nz h1)) rfl fun v Q hQ => ?_; obtain ⟨b,q,rfl,rfl⟩ := hQ) | (refine atRet ?_; refine Nx.ret [0,9] Try.func22 rfl rfl ?_; (exact MdQ.yes rfl h1)) | refine Nx.late ?_)
  rw [if_neg h1]
  have h1' : M.p.fresh 1 ring = 0 := by omega
  cases h2 : M.p.of who with
  | some k =>
    obtain ⟨hk, _, e⟩ := of_mem h2
    rw [h2, e] at hof
    rw [if_pos (by simp)]
    refine FnOk.start Try.func22 rfl rfl rfl rfl fun F os tape output => ?_
    refine go 200 ?_
    conv => whnf
    repeat' (first | ((first | refine BrM.t rfl ?_ | refine BrM.f rfl ?_ | refine BrM.dec (fun _ => ?_) (fun _ => ?_) | refine BrM.mk (fun _ => ?_) (fun _ => ?_) | refine Ar.i64 (by omega) (by omega) ?_ | refine gO rfl ?_ | refine gP rfl (by repeat constructor) ?_) <;> conv => whnf) | (refine atCall 39 ?_; refine cE [0] [0] rfl rfl rfl rfl rfl ((hf.mono fun _ _ h => h.z h1')) rfl ?_) | (refine atCall 41 ?_; refine cE [0] [0] rfl rfl rfl rfl rfl (hof) rfl ?_) | (refine (atCall 37) ?_; refine Nx.call [] [9] rfl rfl rfl rfl rfl ((wrong_ok _ _ 4)) rfl fun v Q hQ => ?_; obtain ⟨b,rfl,rfl⟩ := hQ) | (refine atRet ?_; refine Nx.ret [0,9] Try.func22 rfl rfl ?_; (exact MdQ.yes rfl (by decide))) | refine Nx.late ?_)
  | none =>
  rw [h2] at hof
  cases h3 : M.p.at who ring with
  | some k =>
    obtain ⟨hk, _, _, e⟩ := at_mem h3
    rw [h3, e] at hat
    rw [if_pos (by simp)]
    refine FnOk.start Try.func22 rfl rfl rfl rfl fun F os tape output => ?_
    refine go 200 ?_
    conv => whnf
    repeat' (first | ((first | refine BrM.t rfl ?_ | refine BrM.f rfl ?_ | refine BrM.dec (fun _ => ?_) (fun _ => ?_) | refine BrM.mk (fun _ => ?_) (fun _ => ?_) | refine Ar.i64 (by omega) (by omega) ?_ | refine gO rfl ?_ | refine gP rfl (by repeat constructor) ?_) <;> conv => whnf) | (refine atCall 39 ?_; refine cE [0] [0] rfl rfl rfl rfl rfl ((hf.mono fun _ _ h => h.z h1')) rfl ?_) | (refine atCall 41 ?_; refine cE [0] [0] rfl rfl rfl rfl rfl (hof) rfl ?_) | (refine atCall 36 ?_; refine cE [0] [0] rfl rfl rfl rfl rfl (hat) rfl ?_) | (refine (atCall 37) ?_; refine Nx.call [] [9] rfl rfl rfl rfl rfl ((wrong_ok _ _ 4)) rfl fun v Q hQ => ?_; obtain ⟨b,rfl,rfl⟩ := hQ) | (refine atRet ?_; refine Nx.ret [0,9] Try.func22 rfl rfl ?_; (exact MdQ.yes rfl (by decide))) | refine Nx.late ?_)
  | none =>
  rw [h3] at hat
  rw [if_neg (by simp)]
  by_cases h4 : start < 0 ∨ 4611686018427387904 < start
  · rw [if_pos h4]
    by_cases h5 : start < 0
    · refine FnOk.start Try.func22 rfl rfl rfl rfl fun F os tape output => ?_
      refine go 200 ?_
      conv => whnf
      repeat' (first | ((first | refine BrM.yes (by omega) ?_ | refine BrM.t rfl ?_ | refine BrM.f rfl ?_ | refine BrM.dec (fun _ => ?_) (fun _ => ?_) | refine BrM.mk (fun _ => ?_) (fun _ => ?_) | refine Ar.i64 (by omega) (by omega) ?_ | refine gO rfl ?_ | refine gP rfl (by repeat constructor) ?_) <;> conv => whnf) | (refine atCall 39 ?_; refine cE [0] [0] rfl rfl rfl rfl rfl ((hf.mono fun _ _ h => h.z h1')) rfl ?_) | (refine atCall 41 ?_; refine cE [0] [0] rfl rfl rfl rfl rfl (hof) rfl ?_) | (refine atCall 36 ?_; refine cE [0] [0] rfl rfl rfl rfl rfl (hat) rfl ?_) | (refine (atCall 37) ?_; refine Nx.call [] [9] rfl rfl rfl rfl rfl ((wrong_ok _ _ 5)) rfl fun v Q hQ => ?_; obtain ⟨b,rfl,rfl⟩ := hQ) | (refine atRet ?_; refine Nx.ret [0,9] Try.func22 rfl rfl ?_; (exact MdQ.yes rfl (by decide))) | refine Nx.late ?_)
    · refine FnOk.start Try.func22 rfl rfl rfl rfl fun F os tape output => ?_
      refine go 200 ?_
      conv => whnf
      repeat' (first | ((first | refine BrM.yes (by omega) ?_ | refine BrM.not (by omega) ?_ | refine BrM.t rfl ?_ | refine BrM.f rfl ?_ | refine BrM.dec (fun _ => ?_) (fun _ => ?_) | refine BrM.mk (fun _ => ?_) (fun _ => ?_) | refine Ar.i64 (by omega) (by omega) ?_ | refine gO rfl ?_ | refine gP rfl (by repeat constructor) ?_) <;> conv => whnf) | (refine atCall 39 ?_; refine cE [0] [0] rfl rfl rfl rfl rfl ((hf.mono fun _ _ h => h.z h1')) rfl ?_) | (refine atCall 41 ?_; refine cE [0] [0] rfl rfl rfl rfl rfl (hof) rfl ?_) | (refine atCall 36 ?_; refine cE [0] [0] rfl rfl rfl rfl rfl (hat) rfl ?_) | (refine (atCall 37) ?_; refine Nx.call [] [9] rfl rfl rfl rfl rfl ((wrong_ok _ _ 5)) rfl fun v Q hQ => ?_; obtain ⟨b,rfl,rfl⟩ := hQ) | (refine atRet ?_; refine Nx.ret [0,9] Try.func22 rfl rfl ?_; (exact MdQ.yes rfl (by decide))) | refine Nx.late ?_)
  rw [if_neg h4]
  obtain ⟨f1, f2, f3⟩ := fresh_zero h1'
  have hrl : M.readers.length + 1 ≤ 512 := by simp only [MdH.p, List.length_map] at f3; omega
  refine FnOk.start Try.func22 rfl rfl rfl rfl fun F os tape output => ?_
  refine go 200 ?_
  conv => whnf
  repeat' (first | ((first | refine BrM.not (by omega) ?_ | refine BrM.t rfl ?_ | refine BrM.f rfl ?_ | refine BrM.dec (fun _ => ?_) (fun _ => ?_) | refine BrM.mk (fun _ => ?_) (fun _ => ?_) | refine Ar.i64 (by omega) (by omega) ?_ | refine gO rfl ?_ | refine gP rfl (by repeat constructor) ?_) <;> conv => whnf) | (refine atCall 39 ?_; refine cE [0] [0] rfl rfl rfl rfl rfl ((hf.mono fun _ _ h => h.z h1')) rfl ?_) | (refine atCall 41 ?_; refine cE [0] [0] rfl rfl rfl rfl rfl (hof) rfl ?_) | (refine atCall 36 ?_; refine cE [0] [0] rfl rfl rfl rfl rfl (hat) rfl ?_) | refine Nx.late ?_)
  refine Nx.loop (X := Nat) (fun j => j ≤ ahead.length ∧ ∀ q, (hq : q < j) → (hl : q < ahead.length) → (M.p.at ahead[q] ring).isNone = false) (fun j => ahead.length - j)
    (fun j => [(0, .c (.v (ptr M.b))), (1, iv who), (2, iv ring), (3, iv start), (4, sl aA ahead.length ac), (43, sl aA ahead.length ac), (44, iv ahead.length), (45, iv j)]) (fun _ => []) [] (fun _ => [(0, M.sp), (1, rdS aA ahead.length 1 (ahead.flatMap inC))]) 0 ⟨Nat.zero_le _, fun i hi => by omega⟩ ?_ ?_ ?_ ?_ ?_
  all_goals repeat (first | exact .nil _ | refine .cons rfl ?_ | refine .cons rfl rfl ?_ | refine .cons rfl rfl rfl ?_ | refine .cons' rfl (fun _ => rfl) ?_)
  intro j ⟨hj, hyes⟩ ih
  by_cases hlt : j < ahead.length
  · have haj := at_ok M hm ahead[j] ring
    cases h5 : M.p.at ahead[j] ring with
    | none =>
      rw [h5] at haj
      have e : (ahead.any fun a => (M.p.at a ring).isNone) = true := by
        rw [List.any_eq_true]
        exact ⟨ahead[j], List.getElem_mem hlt, by rw [h5]; rfl⟩
      rw [e, if_pos rfl]
      repeat' (first | ((first | refine BrM.yes (by omega) ?_ | refine BrM.t rfl ?_ | refine BrM.f rfl ?_ | refine BrM.dec (fun _ => ?_) (fun _ => ?_) | refine BrM.mk (fun _ => ?_) (fun _ => ?_) | refine Ar.i64 (by omega) (by omega) ?_ | refine gO rfl ?_ | refine gP rfl (by repeat constructor) ?_) <;> conv => whnf) | (refine atIdx ?_; refine Nx.idx 1 (j := j) rfl rfl rfl Try.underlying35 rfl rfl rfl inC_len hL rfl (by omega) (by omega) fun _ _ _ => ?_) | (refine atLoad ?_; first | (refine Nx.load1 1 rfl rfl rfl rfl (SeesAt.sub (by assumption) _ rfl) rfl ?_) | (refine Nx.load1 1 rfl rfl rfl rfl (by assumption) rfl ?_) | (refine Nx.load 1 rfl rfl rfl rfl (by assumption) rfl rfl ?_)) | (refine atCall 36 ?_; refine cE [0] [0] rfl rfl rfl rfl rfl (haj) rfl ?_) | (refine (atCall 37) ?_; refine Nx.call [] [9] rfl rfl rfl rfl rfl ((wrong_ok _ _ 3)) rfl fun v Q hQ => ?_; obtain ⟨b,rfl,rfl⟩ := hQ) | (refine atRet ?_; refine Nx.ret [0,9] Try.func22 rfl rfl ?_; (exact MdQ.yes rfl (by decide))) | refine Nx.late ?_)
    | some k =>
      obtain ⟨hk, _, _, e⟩ := at_mem h5
      rw [h5, e] at haj
      repeat' (first | ((first | refine BrM.yes (by omega) ?_ | refine BrM.t rfl ?_ | refine BrM.f rfl ?_ | refine BrM.dec (fun _ => ?_) (fun _ => ?_) | refine BrM.mk (fun _ => ?_) (fun _ => ?_) | refine Ar.i64 (by omega) (by omega) ?_ | refine gO rfl ?_ | refine gP rfl (by repeat constructor) ?_) <;> conv => whnf) | (refine atIdx ?_; refine Nx.idx 1 (j := j) rfl rfl rfl Try.underlying35 rfl rfl rfl inC_len hL rfl (by omega) (by omega) fun _ _ _ => ?_) | (refine atLoad ?_; first | (refine Nx.load1 1 rfl rfl rfl rfl (SeesAt.sub (by assumption) _ rfl) rfl ?_) | (refine Nx.load1 1 rfl rfl rfl rfl (by assumption) rfl ?_) | (refine Nx.load 1 rfl rfl rfl rfl (by assumption) rfl rfl ?_)) | (refine atCall 36 ?_; refine cE [0] [0] rfl rfl rfl rfl rfl (haj) rfl ?_) | refine Nx.late ?_)
      refine (ih (j + 1) ⟨by omega, fun q hq hl => ?_⟩ (by omega)).weak ?_ ?_ ?_ ?_
      · by_cases e : q = j
        · subst e; rw [h5]; rfl
        · exact hyes q (by omega) hl
      all_goals repeat (first | exact .nil _ | refine .cons rfl ?_ | refine .cons rfl rfl ?_ | refine .cons rfl rfl rfl ?_ | refine .cons' rfl (fun _ => rfl) ?_)
  · have e : (ahead.any fun a => (M.p.at a ring).isNone) = false := by
      rw [List.any_eq_false]
      intro a hqa
      obtain ⟨q, hql, rfl⟩ := List.getElem_of_mem hqa
      rw [hyes q (by omega) hql]; decide
    rw [e, if_neg (by decide)]
    have hadd := add_ok M hrl who ring start (-1) ahead aA ac ha (by omega)
    repeat' (first | ((first | refine BrM.not (by omega) ?_ | refine BrM.t rfl ?_ | refine BrM.f rfl ?_ | refine BrM.dec (fun _ => ?_) (fun _ => ?_) | refine BrM.mk (fun _ => ?_) (fun _ => ?_) | refine Ar.i64 (by omega) (by omega) ?_ | refine gO rfl ?_ | refine gP rfl (by repeat constructor) ?_) <;> conv => whnf) | (refine (atCall 42) ?_; refine Nx.call [0,1] [0] rfl rfl rfl rfl rfl (hadd) rfl fun v Q hQ => ?_; obtain ⟨M',em,ep,_,rfl⟩ := hQ) | (refine atRet ?_; refine Nx.ret [0] Try.func22 rfl rfl ?_; (exact MdQ.no em ep)) | refine Nx.late ?_)
end Go.Proofs.Ytngfadijcpnblaa

/- The program's model: Pool. -/
namespace Go.Proofs.Ytngfadijcpnblaa
open Go.RowKit
set_option maxRecDepth 20000
set_option maxHeartbeats 4000000
theorem twice_true {m : MdP} {ring : Int} : ∀ {l had : List Int} {j : Nat} (hj : j < l.length), ((m.of l[j]).isSome = true ∨ (m.at l[j] ring).isSome = true ∨ l[j] ∈ had ∨ ∃ i, ∃ hi : i < j, l[i] = l[j]) → m.twice ring had l = true
  | [], _, j, hj, _ => by simp at hj
  | a :: r, had, 0, hj, h => by
    unfold MdP.twice
    rcases h with h | h | h | ⟨i, hi, _⟩
    · simp only [List.getElem_cons_zero] at h; rw [h]; rfl
    · simp only [List.getElem_cons_zero] at h; rw [h]; simp
    · simp only [List.getElem_cons_zero] at h
      simp [h]
    · omega
  | a :: r, had, j + 1, hj, h => by
    unfold MdP.twice
    rw [Bool.or_eq_true]
    right
    simp only [List.getElem_cons_succ] at h
    have hj' : j < r.length := by simpa using hj
    refine twice_true (j := j) hj' ?_
    rcases h with h | h | h | ⟨i, hi, h⟩
    · exact .inl h
    · exact .inr (.inl h)
    · exact .inr (.inr (.inl (List.mem_append_left _ h)))
    · cases i with
      | zero => exact .inr (.inr (.inl (List.mem_append_right _ (by simp only [List.getElem_cons_zero] at h; rw [← h]; exact List.mem_singleton.2 rfl))))
      | succ i => exact .inr (.inr (.inr ⟨i, by omega, by simpa using h⟩))
theorem twice_false {m : MdP} {ring : Int} : ∀ {l had : List Int}, (∀ j, (hj : j < l.length) → m.of l[j] = none ∧ m.at l[j] ring = none ∧ l[j] ∉ had ∧ ∀ i, (hi : i < j) → l[i] ≠ l[j]) → m.twice ring had l = false
  | [], _, _ => rfl
  | a :: r, had, h => by
    have h0 := h 0 (by simp)
    simp only [List.getElem_cons_zero] at h0
    unfold MdP.twice
    have h1 : m.twice ring (had ++ [a]) r = false := twice_false fun j hj => by
      obtain ⟨a1, a2, a3, a4⟩ := h (j + 1) (by simpa using hj)
      simp only [List.getElem_cons_succ] at a1 a2 a3 a4
      refine ⟨a1, a2, fun hm => ?_, fun i hi => ?_⟩
      · rcases List.mem_append.1 hm with hm | hm
        · exact a3 hm
        · have := a4 0 (by omega)
          simp only [List.getElem_cons_zero] at this
          exact this (List.mem_singleton.1 hm).symm
      · have := a4 (i + 1) (by omega)
        simpa using this
    rw [h0.1, h0.2.1, h1]
    simp [h0.2.2.1]
attribute [local irreducible] Nx Ar BrM headC OneC HoC AftC planHead endF
def PlH.new (b : Nat) (start : Int) : PlH := ⟨b, ⟨start, []⟩, none, 0⟩
theorem PlH.new_sp (b : Nat) (start : Int) : ∀ r h, blk b (.cells (PlH.new b start).cells.toArray 109 (0, 0)) r h → (PlH.new b start).sp r h := by
  intro r h hb
  exact ⟨r, h, PH.em, PH.le_refl _, PH.le_refl _, PH.em_le _, PH.dj_em _, hb, r, PH.em, PH.em, PH.le_refl _, PH.le_refl _, PH.le_refl _, PH.em_dj _, ownT_nil _ _ _ _ _, trivial⟩
structure PoolX where
  M : MdH
  j : Nat
theorem Pool_ok (M : MdH) (hm : MdW M.p) (ring start : Int) (who ahead : List Int) (wA : Option Addr) (wc : Nat) (aA : Option Addr) (ac : Nat) (hw : who.length ≤ 1000) (hwc : who.length ≤ wc) (ha : ahead.length ≤ 1000) :
    FnOk Try.prog 23 [ptr M.b, .int .i64 ring, .int .i64 start, .slice wA who.length wc, .slice aA ahead.length ac] [M.sp, rdS wA who.length 1 (who.flatMap inC), rdS aA ahead.length 1 (ahead.flatMap inC)] (MdQ M.b (M.p.addPool ring start who ahead)) := by
  have hLw : Sees (rdS wA who.length 1 (who.flatMap inC)) wA who.length 1 (who.flatMap inC) := rdS_sees _ _ _ _
  have hLa : Sees (rdS aA ahead.length 1 (ahead.flatMap inC)) aA ahead.length 1 (ahead.flatMap inC) := rdS_sees _ _ _ _
  have hf := fresh_ok M hm (min who.length 16) ring (by omega) (by omega)
  unfold MdP.addPool
  by_cases h1 : M.p.fresh (min who.length 16) ring ≠ 0
  · rw [if_pos h1]
    refine FnOk.start Try.func23 rfl rfl rfl rfl fun F os tape output => ?_
    refine go 200 ?_
    conv => whnf
    repeat' (first | ((first | refine BrM.t rfl ?_ | refine BrM.f rfl ?_ | refine BrM.dec (fun _ => ?_) (fun _ => ?_) | refine BrM.mk (fun _ => ?_) (fun _ => ?_) | refine Ar.i64 (by omega) (by omega) ?_ | refine gO rfl ?_ | refine gP rfl (by repeat constructor) ?_) <;> conv => whnf) | (refine (atCall 39) ?_; refine Nx.call [0] [0,9] rfl rfl rfl rfl rfl ((hf.mono fun _ _ h => h.nz h1)) rfl fun v Q hQ => ?_; obtain ⟨b,q,rfl,rfl⟩ := hQ) | (refine atRet ?_; refine Nx.ret [0,9] Try.func23 rfl rfl ?_; (exact MdQ.yes rfl h1)) | refine Nx.late ?_)
  rw [if_neg h1]
  have h1' : M.p.fresh (min who.length 16) ring = 0 := by omega
  by_cases h2 : who.length = 0 ∨ 16 < who.length
  · rw [if_pos h2]
    by_cases h3 : who.length = 0
    · refine FnOk.start Try.func23 rfl rfl rfl rfl fun F os tape output => ?_
      refine go 200 ?_
      conv => whnf
      repeat' (first | ((first | refine BrM.yes (by omega) ?_ | refine BrM.t rfl ?_ | refine BrM.f rfl ?_ | refine BrM.dec (fun _ => ?_) (fun _ => ?_) | refine BrM.mk (fun _ => ?_) (fun _ => ?_) | refine Ar.i64 (by omega) (by omega) ?_ | refine gO rfl ?_ | refine gP rfl (by repeat constructor) ?_) <;> conv => whnf) | (refine atCall 39 ?_; refine cE [0] [0] rfl rfl rfl rfl rfl ((hf.mono fun _ _ h => h.z h1')) rfl ?_) | (refine (atCall 37) ?_; refine Nx.call [] [9] rfl rfl rfl rfl rfl ((wrong_ok _ _ 1)) rfl fun v Q hQ => ?_; obtain ⟨b,rfl,rfl⟩ := hQ) | (refine atRet ?_; refine Nx.ret [0,9] Try.func23 rfl rfl ?_; (exact MdQ.yes rfl (by decide))) | refine Nx.late ?_)
    · refine FnOk.start Try.func23 rfl rfl rfl rfl fun F os tape output => ?_
      refine go 200 ?_
      conv => whnf
      repeat' (first | ((first | refine BrM.yes (by omega) ?_ | refine BrM.not (by omega) ?_ | refine BrM.t rfl ?_ | refine BrM.f rfl ?_ | refine BrM.dec (fun _ => ?_) (fun _ => ?_) | refine BrM.mk (fun _ => ?_) (fun _ => ?_) | refine Ar.i64 (by omega) (by omega) ?_ | refine gO rfl ?_ | refine gP rfl (by repeat constructor) ?_) <;> conv => whnf) | (refine atCall 39 ?_; refine cE [0] [0] rfl rfl rfl rfl rfl ((hf.mono fun _ _ h => h.z h1')) rfl ?_) | (refine (atCall 37) ?_; refine Nx.call [] [9] rfl rfl rfl rfl rfl ((wrong_ok _ _ 1)) rfl fun v Q hQ => ?_; obtain ⟨b,rfl,rfl⟩ := hQ) | (refine atRet ?_; refine Nx.ret [0,9] Try.func23 rfl rfl ?_; (exact MdQ.yes rfl (by decide))) | refine Nx.late ?_)
  rw [if_neg h2]
  by_cases h4 : start < 0 ∨ 4611686018427387904 < start
  · rw [if_pos h4]
    by_cases h5 : start < 0
    · refine FnOk.start Try.func23 rfl rfl rfl rfl fun F os tape output => ?_
      refine go 200 ?_
      conv => whnf
      repeat' (first | ((first | refine BrM.yes (by omega) ?_ | refine BrM.not (by omega) ?_ | refine BrM.t rfl ?_ | refine BrM.f rfl ?_ | refine BrM.dec (fun _ => ?_) (fun _ => ?_) | refine BrM.mk (fun _ => ?_) (fun _ => ?_) | refine Ar.i64 (by omega) (by omega) ?_ | refine gO rfl ?_ | refine gP rfl (by repeat constructor) ?_) <;> conv => whnf) | (refine atCall 39 ?_; refine cE [0] [0] rfl rfl rfl rfl rfl ((hf.mono fun _ _ h => h.z h1')) rfl ?_) | (refine (atCall 37) ?_; refine Nx.call [] [9] rfl rfl rfl rfl rfl ((wrong_ok _ _ 5)) rfl fun v Q hQ => ?_; obtain ⟨b,rfl,rfl⟩ := hQ) | (refine atRet ?_; refine Nx.ret [0,9] Try.func23 rfl rfl ?_; (exact MdQ.yes rfl (by decide))) | refine Nx.late ?_)
    · refine FnOk.start Try.func23 rfl rfl rfl rfl fun F os tape output => ?_
      refine go 200 ?_
      conv => whnf
      repeat' (first | ((first | refine BrM.yes (by omega) ?_ | refine BrM.not (by omega) ?_ | refine BrM.t rfl ?_ | refine BrM.f rfl ?_ | refine BrM.dec (fun _ => ?_) (fun _ => ?_) | refine BrM.mk (fun _ => ?_) (fun _ => ?_) | refine Ar.i64 (by omega) (by omega) ?_ | refine gO rfl ?_ | refine gP rfl (by repeat constructor) ?_) <;> conv => whnf) | (refine atCall 39 ?_; refine cE [0] [0] rfl rfl rfl rfl rfl ((hf.mono fun _ _ h => h.z h1')) rfl ?_) | (refine (atCall 37) ?_; refine Nx.call [] [9] rfl rfl rfl rfl rfl ((wrong_ok _ _ 5)) rfl fun v Q hQ => ?_; obtain ⟨b,rfl,rfl⟩ := hQ) | (refine atRet ?_; refine Nx.ret [0,9] Try.func23 rfl rfl ?_; (exact MdQ.yes rfl (by decide))) | refine Nx.late ?_)
  rw [if_neg h4]
  obtain ⟨f1, f2, f3⟩ := fresh_zero h1'
  simp only [MdH.p, List.length_map] at f3
  refine FnOk.start Try.func23 rfl rfl rfl rfl fun F os tape output => ?_
  refine go 200 ?_
  conv => whnf
  repeat' (first | ((first | refine BrM.not (by omega) ?_ | refine BrM.t rfl ?_ | refine BrM.f rfl ?_ | refine BrM.dec (fun _ => ?_) (fun _ => ?_) | refine BrM.mk (fun _ => ?_) (fun _ => ?_) | refine Ar.i64 (by omega) (by omega) ?_ | refine gO rfl ?_ | refine gP rfl (by repeat constructor) ?_) <;> conv => whnf) | (refine atCall 39 ?_; refine cE [0] [0] rfl rfl rfl rfl rfl ((hf.mono fun _ _ h => h.z h1')) rfl ?_) | refine Nx.late ?_)
  refine Nx.loop (X := Nat) (fun j => j ≤ who.length ∧ ∀ q, (hq : q < j) → (hl : q < who.length) → M.p.of who[q] = none ∧ M.p.at who[q] ring = none ∧ ∀ i, (hi : i < q) → who[i] ≠ who[q]) (fun j => who.length - j)
    (fun j => [(0, .c (.v (ptr M.b))), (1, iv ring), (2, iv start), (3, sl wA who.length wc), (4, sl aA ahead.length ac), (50, sl wA who.length wc), (51, iv who.length), (52, iv j)]) (fun _ => []) [] (fun _ => [(0, M.sp), (1, rdS wA who.length 1 (who.flatMap inC)), (2, rdS aA ahead.length 1 (ahead.flatMap inC))]) 0 ⟨Nat.zero_le _, fun i hi => by omega⟩ ?_ ?_ ?_ ?_ ?_
  all_goals repeat (first | exact .nil _ | refine .cons rfl ?_ | refine .cons rfl rfl ?_ | refine .cons rfl rfl rfl ?_ | refine .cons' rfl (fun _ => rfl) ?_)
  intro j ⟨hj, hyes⟩ ih
  by_cases hlt : j < who.length
  · have hof := of_ok M hm who[j]
    have hat := at_ok M hm who[j] ring
    cases h5 : M.p.of who[j] with
    | some k =>
      obtain ⟨hk, _, e⟩ := of_mem h5
      rw [h5, e] at hof
      rw [twice_true hlt (.inl (by rw [h5]; rfl)), if_pos rfl]
      repeat' (first | ((first | refine BrM.yes (by omega) ?_ | refine BrM.t rfl ?_ | refine BrM.f rfl ?_ | refine BrM.dec (fun _ => ?_) (fun _ => ?_) | refine BrM.mk (fun _ => ?_) (fun _ => ?_) | refine Ar.i64 (by omega) (by omega) ?_ | refine gO rfl ?_ | refine gP rfl (by repeat constructor) ?_) <;> conv => whnf) | (refine atIdx ?_; refine Nx.idx 1 (j := j) rfl rfl rfl Try.underlying35 rfl rfl rfl inC_len hLw rfl (by omega) (by omega) fun _ _ _ => ?_) | (refine atLoad ?_; first | (refine Nx.load1 1 rfl rfl rfl rfl (SeesAt.sub (by assumption) _ rfl) rfl ?_) | (refine Nx.load1 1 rfl rfl rfl rfl (by assumption) rfl ?_) | (refine Nx.load 1 rfl rfl rfl rfl (by assumption) rfl rfl ?_)) | (refine atCall 41 ?_; refine cE [0] [0] rfl rfl rfl rfl rfl (hof) rfl ?_) | (refine (atCall 37) ?_; refine Nx.call [] [9] rfl rfl rfl rfl rfl ((wrong_ok _ _ 4)) rfl fun v Q hQ => ?_; obtain ⟨b,rfl,rfl⟩ := hQ) | (refine atRet ?_; refine Nx.ret [0,9] Try.func23 rfl rfl ?_; (exact MdQ.yes rfl (by decide))) | refine Nx.late ?_)
    | none =>
    rw [h5] at hof
    cases h6 : M.p.at who[j] ring with
    | some k =>
      obtain ⟨hk, _, _, e⟩ := at_mem h6
      rw [h6, e] at hat
      rw [twice_true hlt (.inr (.inl (by rw [h6]; rfl))), if_pos rfl]
      repeat' (first | ((first | refine BrM.yes (by omega) ?_ | refine BrM.t rfl ?_ | refine BrM.f rfl ?_ | refine BrM.dec (fun _ => ?_) (fun _ => ?_) | refine BrM.mk (fun _ => ?_) (fun _ => ?_) | refine Ar.i64 (by omega) (by omega) ?_ | refine gO rfl ?_ | refine gP rfl (by repeat constructor) ?_) <;> conv => whnf) | (refine atIdx ?_; refine Nx.idx 1 (j := j) rfl rfl rfl Try.underlying35 rfl rfl rfl inC_len hLw rfl (by omega) (by omega) fun _ _ _ => ?_) | (refine atLoad ?_; first | (refine Nx.load1 1 rfl rfl rfl rfl (SeesAt.sub (by assumption) _ rfl) rfl ?_) | (refine Nx.load1 1 rfl rfl rfl rfl (by assumption) rfl ?_) | (refine Nx.load 1 rfl rfl rfl rfl (by assumption) rfl rfl ?_)) | (refine atCall 41 ?_; refine cE [0] [0] rfl rfl rfl rfl rfl (hof) rfl ?_) | (refine atCall 36 ?_; refine cE [0] [0] rfl rfl rfl rfl rfl (hat) rfl ?_) | (refine (atCall 37) ?_; refine Nx.call [] [9] rfl rfl rfl rfl rfl ((wrong_ok _ _ 4)) rfl fun v Q hQ => ?_; obtain ⟨b,rfl,rfl⟩ := hQ) | (refine atRet ?_; refine Nx.ret [0,9] Try.func23 rfl rfl ?_; (exact MdQ.yes rfl (by decide))) | refine Nx.late ?_)
    | none =>
    rw [h6] at hat
    repeat' (first | ((first | refine BrM.yes (by omega) ?_ | refine BrM.t rfl ?_ | refine BrM.f rfl ?_ | refine BrM.dec (fun _ => ?_) (fun _ => ?_) | refine BrM.mk (fun _ => ?_) (fun _ => ?_) | refine Ar.i64 (by omega) (by omega) ?_ | refine gO rfl ?_ | refine gP rfl (by repeat constructor) ?_) <;> conv => whnf) | (refine atIdx ?_; refine Nx.idx 1 (j := j) rfl rfl rfl Try.underlying35 rfl rfl rfl inC_len hLw rfl (by omega) (by omega) fun _ _ _ => ?_) | (refine atLoad ?_; first | (refine Nx.load1 1 rfl rfl rfl rfl (SeesAt.sub (by assumption) _ rfl) rfl ?_) | (refine Nx.load1 1 rfl rfl rfl rfl (by assumption) rfl ?_) | (refine Nx.load 1 rfl rfl rfl rfl (by assumption) rfl rfl ?_)) | (refine atCall 41 ?_; refine cE [0] [0] rfl rfl rfl rfl rfl (hof) rfl ?_) | (refine atCall 36 ?_; refine cE [0] [0] rfl rfl rfl rfl rfl (hat) rfl ?_) | (refine atSlice ?_; refine Nx.reslice (l := 0) (h := j) (m := wc) rfl rfl Try.underlying35 rfl rfl (rfl) (rfl) (rfl) (by simp) (by omega) (by omega) (by omega) ?_) | refine Nx.late ?_)
    obtain ⟨l, hl⟩ : ∃ l, l = who.take j := ⟨_, rfl⟩
    have hln : l.length = j := by rw [hl, List.length_take]; omega
    have hle : ∀ i, (hi : i < l.length) → l[i] = who[i]'(by omega) := fun i hi => by subst hl; simp
    have hPart : Sees (rdS wA who.length 1 (who.flatMap inC)) (resl wA 0 wc 1) j 1 (l.flatMap inC) := by
      have h := hLw.part (l := 0) (h := j) (m := wc) (by omega) (by omega) (by omega)
      have e : ((who.flatMap inC).drop (0 * 1)).take ((j - 0) * 1) = l.flatMap inC := by
        rw [hl, Nat.mul_one, Nat.zero_mul, List.drop_zero, Nat.sub_zero]
        have hh : ∀ (w : List Int) (n : Nat), (w.flatMap inC).take n = (w.take n).flatMap inC := by
          intro w
          induction w with
          | nil => intro n; simp
          | cons x r ih => intro n; cases n with
            | zero => simp
            | succ n => simp [inC, ← ih n]
        exact hh who j
      rw [e] at h
      exact h
    refine Nx.loop (X := Nat) (fun i => i ≤ j ∧ ∀ q, (hq : q < i) → (hl : q < l.length) → l[q] ≠ who[j]) (fun i => j - i)
      (fun i => [(0, .c (.v (ptr M.b))), (1, iv ring), (2, iv start), (3, sl wA who.length wc), (4, sl aA ahead.length ac), (50, sl wA who.length wc), (51, iv who.length), (52, iv j), (13, iv who[j]), (72, sl (resl wA 0 wc 1) j wc), (73, iv j), (74, iv i)]) (fun _ => []) [] (fun _ => [(0, M.sp), (1, rdS wA who.length 1 (who.flatMap inC)), (2, rdS aA ahead.length 1 (ahead.flatMap inC))]) 0 ⟨Nat.zero_le _, fun i hi => by omega⟩ ?_ ?_ ?_ ?_ ?_
    all_goals repeat (first | exact .nil _ | refine .cons rfl ?_ | refine .cons rfl rfl ?_ | refine .cons rfl rfl rfl ?_ | refine .cons' rfl (fun _ => rfl) ?_)
    intro i ⟨hi, hno⟩ ih2
    by_cases hlt2 : i < j
    · have hil : i < l.length := by omega
      by_cases h8 : l[i] = who[j]
      · rw [twice_true hlt (.inr (.inr (.inr ⟨i, hlt2, by rw [← hle i hil]; exact h8⟩))), if_pos rfl]
        repeat' (first | ((first | refine BrM.yes (by omega) ?_ | refine BrM.t rfl ?_ | refine BrM.f rfl ?_ | refine BrM.dec (fun _ => ?_) (fun _ => ?_) | refine BrM.mk (fun _ => ?_) (fun _ => ?_) | refine Ar.i64 (by omega) (by omega) ?_ | refine gO rfl ?_ | refine gP rfl (by repeat constructor) ?_) <;> conv => whnf) | (with_reducible refine atIdx ?_; refine Nx.idx 1 (j := i) rfl rfl rfl Try.underlying35 rfl rfl rfl inC_len hPart hln.symm rfl hil fun _ _ _ => ?_) | (refine atLoad ?_; first | (refine Nx.load1 1 rfl rfl rfl rfl (SeesAt.sub (by assumption) _ rfl) rfl ?_) | (refine Nx.load1 1 rfl rfl rfl rfl (by assumption) rfl ?_) | (refine Nx.load 1 rfl rfl rfl rfl (by assumption) rfl rfl ?_)) | (refine (atCall 37) ?_; refine Nx.call [] [9] rfl rfl rfl rfl rfl ((wrong_ok _ _ 4)) rfl fun v Q hQ => ?_; obtain ⟨b,rfl,rfl⟩ := hQ) | (refine atRet ?_; refine Nx.ret [0,9] Try.func23 rfl rfl ?_; (exact MdQ.yes rfl (by decide))) | refine Nx.late ?_)
      · repeat' (first | (refine atBr ?_; refine BrM.not ((fun e => h8 e.symm)) ?_; conv => whnf) | ((first | refine BrM.yes (by omega) ?_ | refine BrM.t rfl ?_ | refine BrM.f rfl ?_ | refine BrM.dec (fun _ => ?_) (fun _ => ?_) | refine BrM.mk (fun _ => ?_) (fun _ => ?_) | refine Ar.i64 (by omega) (by omega) ?_ | refine gO rfl ?_ | refine gP rfl (by repeat constructor) ?_) <;> conv => whnf) | (with_reducible refine atIdx ?_; refine Nx.idx 1 (j := i) rfl rfl rfl Try.underlying35 rfl rfl rfl inC_len hPart hln.symm rfl hil fun _ _ _ => ?_) | (refine atLoad ?_; first | (refine Nx.load1 1 rfl rfl rfl rfl (SeesAt.sub (by assumption) _ rfl) rfl ?_) | (refine Nx.load1 1 rfl rfl rfl rfl (by assumption) rfl ?_) | (refine Nx.load 1 rfl rfl rfl rfl (by assumption) rfl rfl ?_)) | refine Nx.late ?_)
        refine (ih2 (i + 1) ⟨by omega, fun q hq hl => ?_⟩ (by omega)).weak ?_ ?_ ?_ ?_
        · by_cases e : q = i
          · subst e; exact h8
          · exact hno q (by omega) hl
        all_goals repeat (first | exact .nil _ | refine .cons rfl ?_ | refine .cons rfl rfl ?_ | refine .cons rfl rfl rfl ?_ | refine .cons' rfl (fun _ => rfl) ?_)
    · repeat' (first | ((first | refine BrM.not (by omega) ?_ | refine BrM.t rfl ?_ | refine BrM.f rfl ?_ | refine BrM.dec (fun _ => ?_) (fun _ => ?_) | refine BrM.mk (fun _ => ?_) (fun _ => ?_) | refine Ar.i64 (by omega) (by omega) ?_ | refine gO rfl ?_ | refine gP rfl (by repeat constructor) ?_) <;> conv => whnf) | refine Nx.late ?_)
      refine (ih (j + 1) ⟨by omega, fun q hq hl' => ?_⟩ (by omega)).weak ?_ ?_ ?_ ?_
      · by_cases e : q = j
        · subst e
          exact ⟨h5, h6, fun i hi e => hno i (by omega) (by omega) (by rw [hle i (by omega)]; exact e)⟩
        · exact hyes q (by omega) hl'
      all_goals repeat (first | exact .nil _ | refine .cons rfl ?_ | refine .cons rfl rfl ?_ | refine .cons rfl rfl rfl ?_ | refine .cons' rfl (fun _ => rfl) ?_)
  rw [twice_false (fun q hq => ⟨(hyes q (by omega) hq).1, (hyes q (by omega) hq).2.1, by simp, (hyes q (by omega) hq).2.2⟩), if_neg (by decide)]
  repeat' (first | ((first | refine BrM.not (by omega) ?_ | refine BrM.t rfl ?_ | refine BrM.f rfl ?_ | refine BrM.dec (fun _ => ?_) (fun _ => ?_) | refine BrM.mk (fun _ => ?_) (fun _ => ?_) | refine Ar.i64 (by omega) (by omega) ?_ | refine gO rfl ?_ | refine gP rfl (by repeat constructor) ?_) <;> conv => whnf) | refine Nx.late ?_)
  refine Nx.loop (X := Nat) (fun j => j ≤ ahead.length ∧ ∀ q, (hq : q < j) → (hl : q < ahead.length) → (M.p.at ahead[q] ring).isNone = false) (fun j => ahead.length - j)
    (fun j => [(0, .c (.v (ptr M.b))), (1, iv ring), (2, iv start), (3, sl wA who.length wc), (4, sl aA ahead.length ac), (85, sl aA ahead.length ac), (86, iv ahead.length), (87, iv j)]) (fun _ => []) [] (fun _ => [(0, M.sp), (1, rdS wA who.length 1 (who.flatMap inC)), (2, rdS aA ahead.length 1 (ahead.flatMap inC))]) 0 ⟨Nat.zero_le _, fun i hi => by omega⟩ ?_ ?_ ?_ ?_ ?_
  all_goals repeat (first | exact .nil _ | refine .cons rfl ?_ | refine .cons rfl rfl ?_ | refine .cons rfl rfl rfl ?_ | refine .cons' rfl (fun _ => rfl) ?_)
  clear ih hyes hj hlt j
  intro j ⟨hj, hyes⟩ ih
  by_cases hlt : j < ahead.length
  · have haj := at_ok M hm ahead[j] ring
    cases h5 : M.p.at ahead[j] ring with
    | none =>
      rw [h5] at haj
      have e : (ahead.any fun a => (M.p.at a ring).isNone) = true := by
        rw [List.any_eq_true]
        exact ⟨ahead[j], List.getElem_mem hlt, by rw [h5]; rfl⟩
      rw [e, if_pos rfl]
      repeat' (first | ((first | refine BrM.yes (by omega) ?_ | refine BrM.t rfl ?_ | refine BrM.f rfl ?_ | refine BrM.dec (fun _ => ?_) (fun _ => ?_) | refine BrM.mk (fun _ => ?_) (fun _ => ?_) | refine Ar.i64 (by omega) (by omega) ?_ | refine gO rfl ?_ | refine gP rfl (by repeat constructor) ?_) <;> conv => whnf) | (refine atIdx ?_; refine Nx.idx 2 (j := j) rfl rfl rfl Try.underlying35 rfl rfl rfl inC_len hLa rfl (by omega) (by omega) fun _ _ _ => ?_) | (refine atLoad ?_; first | (refine Nx.load1 2 rfl rfl rfl rfl (SeesAt.sub (by assumption) _ rfl) rfl ?_) | (refine Nx.load1 2 rfl rfl rfl rfl (by assumption) rfl ?_) | (refine Nx.load 2 rfl rfl rfl rfl (by assumption) rfl rfl ?_)) | (refine atCall 36 ?_; refine cE [0] [0] rfl rfl rfl rfl rfl (haj) rfl ?_) | (refine (atCall 37) ?_; refine Nx.call [] [9] rfl rfl rfl rfl rfl ((wrong_ok _ _ 3)) rfl fun v Q hQ => ?_; obtain ⟨b,rfl,rfl⟩ := hQ) | (refine atRet ?_; refine Nx.ret [0,9] Try.func23 rfl rfl ?_; (exact MdQ.yes rfl (by decide))) | refine Nx.late ?_)
    | some k =>
      obtain ⟨hk, _, _, e⟩ := at_mem h5
      rw [h5, e] at haj
      repeat' (first | ((first | refine BrM.yes (by omega) ?_ | refine BrM.t rfl ?_ | refine BrM.f rfl ?_ | refine BrM.dec (fun _ => ?_) (fun _ => ?_) | refine BrM.mk (fun _ => ?_) (fun _ => ?_) | refine Ar.i64 (by omega) (by omega) ?_ | refine gO rfl ?_ | refine gP rfl (by repeat constructor) ?_) <;> conv => whnf) | (refine atIdx ?_; refine Nx.idx 2 (j := j) rfl rfl rfl Try.underlying35 rfl rfl rfl inC_len hLa rfl (by omega) (by omega) fun _ _ _ => ?_) | (refine atLoad ?_; first | (refine Nx.load1 2 rfl rfl rfl rfl (SeesAt.sub (by assumption) _ rfl) rfl ?_) | (refine Nx.load1 2 rfl rfl rfl rfl (by assumption) rfl ?_) | (refine Nx.load 2 rfl rfl rfl rfl (by assumption) rfl rfl ?_)) | (refine atCall 36 ?_; refine cE [0] [0] rfl rfl rfl rfl rfl (haj) rfl ?_) | refine Nx.late ?_)
      refine (ih (j + 1) ⟨by omega, fun q hq hl => ?_⟩ (by omega)).weak ?_ ?_ ?_ ?_
      · by_cases e : q = j
        · subst e; rw [h5]; rfl
        · exact hyes q (by omega) hl
      all_goals repeat (first | exact .nil _ | refine .cons rfl ?_ | refine .cons rfl rfl ?_ | refine .cons rfl rfl rfl ?_ | refine .cons' rfl (fun _ => rfl) ?_)
  have e : (ahead.any fun a => (M.p.at a ring).isNone) = false := by
    rw [List.any_eq_false]
    intro a hqa
    obtain ⟨q, hql, rfl⟩ := List.getElem_of_mem hqa
    rw [hyes q (by omega) hql]; decide
  rw [e, if_neg (by decide)]
  have hnp := hm.np
  simp only [MdH.p, List.length_map] at hnp
  have m3 := M.seeM.sub 3 rfl
  repeat' (first | ((first | refine BrM.not (by omega) ?_ | refine BrM.t rfl ?_ | refine BrM.f rfl ?_ | refine BrM.dec (fun _ => ?_) (fun _ => ?_) | refine BrM.mk (fun _ => ?_) (fun _ => ?_) | refine Ar.i64 (by omega) (by omega) ?_ | refine gO rfl ?_ | refine gP rfl (by repeat constructor) ?_) <;> conv => whnf) | (refine atLoad ?_; refine Nx.load1 0 rfl rfl rfl rfl (m3) rfl ?_) | refine Nx.late ?_)
  refine Nx.bind (l := 106) (fun b => ?_) rfl
  refine Nx.out 106 rfl rfl rfl rfl ?_
  refine Nx.turn [0] [0, 31, 32, 3, 4, 5, 6, 7, 8] M.parts rfl sat_unstar ?_
  repeat' (first | ((first | refine BrM.t rfl ?_ | refine BrM.f rfl ?_ | refine BrM.dec (fun _ => ?_) (fun _ => ?_) | refine BrM.mk (fun _ => ?_) (fun _ => ?_) | refine Ar.i64 (by omega) (by omega) ?_ | refine gO rfl ?_ | refine gP rfl (by repeat constructor) ?_) <;> conv => whnf) | (refine atApp ?_; refine Nx.append 4 (sz := 1) (by_ := 8) (news := [ptr b]) rfl rfl rfl rfl rfl Try.underlying76 rfl rfl rfl rfl rfl (by unfold maxLen; omega) (by omega) fun A' c'' => ?_) | refine Nx.late ?_)
  refine Nx.storeW 0 (blk M.b (.cells (M.cells.set 3 (.slice A' (M.pools.length + 1) c'')).toArray 78 (0, 0))) rfl rfl rfl rfl rfl rfl rfl rfl rfl (blk_set (by show 3 < 4; decide)) ?_
  obtain ⟨M', hM'⟩ : ∃ M' : MdH, M' = { M with pools := M.pools ++ [PlH.new b start], pA := A', pc := c'' } := ⟨_, rfl⟩
  refine Nx.turn [0, 31, 32, 3, 4, 5, 6, 7, 8, 106] [0] [M'.sp] rfl (fun r h hs => ?_) ?_
  · have := regroup [_, _, _, _, _, _, _, _] [] (PlH.new_sp b start) hs
    subst hM'
    refine sat_restar ?_
    simp only [MdH.cells, List.set_cons_zero, List.set_cons_succ] at this
    simp only [MdH.parts, MdH.cells, List.map_append, List.map_cons, List.map_nil, List.flatMap_append, List.flatMap_cons, List.flatMap_nil, List.length_append, List.length_singleton, List.append_nil]
    exact this
  have em : M'.b = M.b := by rw [hM']
  have ep : M'.p = { M.p with pools := M.p.pools ++ [⟨start, []⟩] } := by rw [hM']; simp [MdH.p, PlH.new]
  have el : M'.pools.length = M.pools.length + 1 := by rw [hM']; simp
  have er : M'.readers.length = M.readers.length := by rw [hM']
  have elp : M.p.pools.length = M.pools.length := by simp [MdH.p]
  repeat' (first | ((first | refine BrM.not (by omega) ?_ | refine BrM.t rfl ?_ | refine BrM.f rfl ?_ | refine BrM.dec (fun _ => ?_) (fun _ => ?_) | refine BrM.mk (fun _ => ?_) (fun _ => ?_) | refine Ar.i64 (by omega) (by omega) ?_ | refine gO rfl ?_ | refine gP rfl (by repeat constructor) ?_) <;> conv => whnf) | refine Nx.late ?_)
  refine Nx.loop (X := PoolX) (fun x => x.j ≤ who.length ∧ x.M.b = M.b ∧ x.M.p = { M.p with pools := M.p.pools ++ [⟨start, []⟩], readers := M.p.readers ++ (who.take x.j).map fun a => newR a ring start M.p.pools.length ahead }) (fun x => who.length - x.j)
    (fun x => [(0, .c (.v (ptr M.b))), (1, iv ring), (2, iv start), (3, sl wA who.length wc), (4, sl aA ahead.length ac), (111, sl wA who.length wc), (112, iv who.length), (113, iv x.j)]) (fun _ => []) [] (fun x => [(0, x.M.sp), (1, rdS wA who.length 1 (who.flatMap inC)), (2, rdS aA ahead.length 1 (ahead.flatMap inC))]) ⟨M', 0⟩ ⟨Nat.zero_le _, em, by rw [ep]; simp⟩ ?_ ?_ ?_ ?_ ?_
  all_goals repeat (first | exact .nil _ | refine .cons rfl ?_ | refine .cons rfl rfl ?_ | refine .cons rfl rfl rfl ?_ | refine .cons' rfl (fun _ => rfl) ?_)
  clear ih hyes hj hlt j
  intro ⟨X, j⟩ ⟨hj, hb, hp⟩ ih
  dsimp only at hj hb hp ih ⊢
  have xlp : X.pools.length = M.pools.length + 1 := by
    have := congrArg (fun p => p.pools.length) hp
    simpa [MdH.p] using this
  have xlr : X.readers.length = M.readers.length + min j who.length := by
    have := congrArg (fun p => p.readers.length) hp
    simpa [MdH.p] using this
  by_cases hlt : j < who.length
  · have hX : SeesAt X.sp M.b 0 X.cells := hb ▸ X.seeM
    have x3 := hX.sub 3 rfl
    have hadd := add_ok X (by omega) who[j] ring start ((X.pools.length : Int) - 1) ahead aA ac ha (by omega)
    rw [hb] at hadd
    repeat' (first | ((first | refine BrM.yes (by omega) ?_ | refine BrM.t rfl ?_ | refine BrM.f rfl ?_ | refine BrM.dec (fun _ => ?_) (fun _ => ?_) | refine BrM.mk (fun _ => ?_) (fun _ => ?_) | refine Ar.i64 (by omega) (by omega) ?_ | refine gO rfl ?_ | refine gP rfl (by repeat constructor) ?_) <;> conv => whnf) | (refine atIdx ?_; refine Nx.idx 1 (j := j) rfl rfl rfl Try.underlying35 rfl rfl rfl inC_len hLw rfl (by omega) (by omega) fun _ _ _ => ?_) | (refine atLoad ?_; first | (refine Nx.load1 1 rfl rfl rfl rfl (SeesAt.sub (by assumption) _ rfl) rfl ?_) | (refine Nx.load1 1 rfl rfl rfl rfl (by assumption) rfl ?_) | (refine Nx.load 1 rfl rfl rfl rfl (by assumption) rfl rfl ?_)) | (refine atLoad ?_; refine Nx.load1 0 rfl rfl rfl rfl (x3) rfl ?_) | refine Nx.late ?_)
    refine Nx.also 2 9 (rdS aA ahead.length 1 (ahead.flatMap inC)) rfl (fun _ _ h => h) ?_
    repeat' (first | ((first | refine BrM.t rfl ?_ | refine BrM.f rfl ?_ | refine BrM.dec (fun _ => ?_) (fun _ => ?_) | refine BrM.mk (fun _ => ?_) (fun _ => ?_) | refine Ar.i64 (by omega) (by omega) ?_ | refine gO rfl ?_ | refine gP rfl (by repeat constructor) ?_) <;> conv => whnf) | (refine (atCall 42) ?_; refine Nx.call [0,9] [0] rfl rfl rfl rfl rfl (hadd) rfl fun v Q hQ => ?_; obtain ⟨M2,em2,ep2,el2,rfl⟩ := hQ) | refine Nx.late ?_)
    refine (ih ⟨M2, j + 1⟩ ⟨by dsimp only; omega, em2, ?_⟩ (by dsimp only; omega)).weak ?_ ?_ ?_ ?_
    · rw [ep2, hp]
      have e1 : (X.pools.length : Int) - 1 = (M.p.pools.length : Int) := by omega
      rw [e1, List.take_add_one, List.getElem?_eq_getElem hlt]
      simp only [List.map_append, List.map_cons, List.map_nil, Option.toList_some, List.append_assoc]
    all_goals repeat (first | exact .nil _ | refine .cons rfl ?_ | refine .cons rfl rfl ?_ | refine .cons rfl rfl rfl ?_ | refine .cons' rfl (fun _ => rfl) ?_)
  · have e : who.take j = who := List.take_of_length_le (by omega)
    rw [e] at hp
    repeat' (first | ((first | refine BrM.not (by omega) ?_ | refine BrM.t rfl ?_ | refine BrM.f rfl ?_ | refine BrM.dec (fun _ => ?_) (fun _ => ?_) | refine BrM.mk (fun _ => ?_) (fun _ => ?_) | refine Ar.i64 (by omega) (by omega) ?_ | refine gO rfl ?_ | refine gP rfl (by repeat constructor) ?_) <;> conv => whnf) | (refine atRet ?_; refine Nx.ret [0] Try.func23 rfl rfl ?_; (exact MdQ.no hb hp)) | refine Nx.late ?_)
end Go.Proofs.Ytngfadijcpnblaa

/- The program's model: one part taken out and put back; Send. -/
namespace Go.Proofs.Ytngfadijcpnblaa
open Go.RowKit
set_option maxRecDepth 20000
set_option maxHeartbeats 4000000
/-! ### One of many taken out, and put back -/
theorem perm_out {α : Type} : ∀ {L : List α} {k : Nat} {P : α}, L[k]? = some P → L.Perm (P :: L.eraseIdx k)
  | [], _, _, h => by simp at h
  | a :: L, 0, P, h => by
    simp only [List.getElem?_cons_zero, Option.some.injEq] at h
    subst h
    exact List.Perm.refl _
  | a :: L, k + 1, P, h => by
    have := perm_out (L := L) (k := k) (P := P) (by simpa using h)
    exact (List.Perm.cons a this).trans (List.Perm.swap _ _ _)
theorem star_out {L : List SP} {k : Nat} {P : SP} (hk : L[k]? = some P) {r h : PH} (H : Sat L r h) : Sat [P, star (L.eraseIdx k)] r h :=
  (Sat.perm (perm_out hk) H).cons_imp fun _ h' => sat_restar h'
theorem star_in {L : List SP} {k : Nat} {P' : SP} (hk : k < L.length) {r h : PH} (H : Sat [P', star (L.eraseIdx k)] r h) : Sat (L.set k P') r h := by
  have h1 : Sat (P' :: L.eraseIdx k) r h := H.cons_imp fun _ h' => sat_unstar _ _ h'
  have h2 := perm_out (L := L.set k P') (k := k) (P := P') (by rw [List.getElem?_set]; simp [hk])
  rw [List.eraseIdx_set_eq] at h2
  exact Sat.perm h2.symm h1
theorem part_out {Ls L : List SP} {i k : Nat} {P : SP} (hi : Ls[i]? = some (star L)) (hk : L[k]? = some P) : ∀ r h, Sat [star Ls] r h → Sat [P, star (Ls.set i (star (L.eraseIdx k)))] r h := by
  intro r h H
  have h1 := star_out hi (sat_unstar _ _ H)
  have h2 : Sat ([P, star (L.eraseIdx k)] ++ [star (Ls.eraseIdx i)]) r h := Sat.imp_left (L := [star L]) h1 fun _ h' => star_out hk (sat_unstar _ _ h')
  exact Sat.cons_imp h2 fun _ h' => sat_restar (star_in (List.getElem?_eq_some_iff.1 hi).1 h')
theorem part_in {Ls L : List SP} {i k : Nat} {P' : SP} (hi : Ls[i]? = some (star L)) (hk : k < L.length) : ∀ r h, Sat [P', star (Ls.set i (star (L.eraseIdx k)))] r h → Sat [star (Ls.set i (star (L.set k P')))] r h := by
  intro r h H
  have hil := (List.getElem?_eq_some_iff.1 hi).1
  have h1 : Sat [P', star (L.eraseIdx k), star (Ls.eraseIdx i)] r h := H.cons_imp fun _ h' => by
    have := star_out (L := Ls.set i (star (L.eraseIdx k))) (k := i) (P := star (L.eraseIdx k)) (by rw [List.getElem?_set]; simp [hil]) (sat_unstar _ _ h')
    rwa [List.eraseIdx_set_eq] at this
  have h2 : Sat ([star (L.set k P')] ++ [star (Ls.eraseIdx i)]) r h := Sat.imp_left (L := [P', star (L.eraseIdx k)]) h1 fun _ h' => sat_restar (star_in hk h')
  exact sat_restar (star_in hil h2)
section
variable {M : MdH}
def MdH.holeW (M : MdH) (k : Nat) : SP := star (M.parts.set 6 (star ((M.writers.map WrH.sp).eraseIdx k)))
theorem MdH.outW {k : Nat} {x : WrH} (hk : M.writers[k]? = some x) : ∀ r h, Sat [M.sp] r h → Sat [x.sp, M.holeW k] r h :=
  part_out (Ls := M.parts) (i := 6) (L := M.writers.map WrH.sp) rfl (by rw [List.getElem?_map, hk]; rfl)
theorem MdH.inW {k : Nat} {x y : WrH} (hk : M.writers[k]? = some x) (hb : y.b = x.b) : ∀ r h, Sat [y.sp, M.holeW k] r h → Sat [(M.setW k y).sp] r h := by
  intro r h H
  have h1 := part_in (Ls := M.parts) (i := 6) (L := M.writers.map WrH.sp) rfl (by rw [List.length_map]; exact (List.getElem?_eq_some_iff.1 hk).1) r h H
  have e1 : ((M.writers.set k y).flatMap WrH.pt) = M.writers.flatMap WrH.pt := flat_set hk (by unfold WrH.pt; rw [hb])
  have e : M.parts.set 6 (star ((M.writers.map WrH.sp).set k y.sp)) = (M.setW k y).parts := by
    simp only [MdH.parts, MdH.setW, List.set_cons_succ, List.set_cons_zero, e1, List.length_set, List.map_set, MdH.cells]
  rw [e] at h1
  exact h1
def MdH.holeL (M : MdH) (k : Nat) : SP := star (M.parts.set 5 (star ((M.logs.map LogH.sp).eraseIdx k)))
theorem MdH.outL {k : Nat} {x : LogH} (hk : M.logs[k]? = some x) : ∀ r h, Sat [M.sp] r h → Sat [x.sp, M.holeL k] r h :=
  part_out (Ls := M.parts) (i := 5) (L := M.logs.map LogH.sp) rfl (by rw [List.getElem?_map, hk]; rfl)
theorem MdH.inL {k : Nat} {x y : LogH} (hk : M.logs[k]? = some x) (hb : y.b = x.b) : ∀ r h, Sat [y.sp, M.holeL k] r h → Sat [(M.setL k y).sp] r h := by
  intro r h H
  have h1 := part_in (Ls := M.parts) (i := 5) (L := M.logs.map LogH.sp) rfl (by rw [List.length_map]; exact (List.getElem?_eq_some_iff.1 hk).1) r h H
  have e1 : ((M.logs.set k y).flatMap LogH.pt) = M.logs.flatMap LogH.pt := flat_set hk (by unfold LogH.pt; rw [hb])
  have e : M.parts.set 5 (star ((M.logs.map LogH.sp).set k y.sp)) = (M.setL k y).parts := by
    simp only [MdH.parts, MdH.setL, List.set_cons_succ, List.set_cons_zero, e1, List.length_set, List.map_set, MdH.cells]
  rw [e] at h1
  exact h1
def MdH.holeP (M : MdH) (k : Nat) : SP := star (M.parts.set 8 (star ((M.pools.map PlH.sp).eraseIdx k)))
theorem MdH.outP {k : Nat} {x : PlH} (hk : M.pools[k]? = some x) : ∀ r h, Sat [M.sp] r h → Sat [x.sp, M.holeP k] r h :=
  part_out (Ls := M.parts) (i := 8) (L := M.pools.map PlH.sp) rfl (by rw [List.getElem?_map, hk]; rfl)
theorem MdH.inP {k : Nat} {x y : PlH} (hk : M.pools[k]? = some x) (hb : y.b = x.b) : ∀ r h, Sat [y.sp, M.holeP k] r h → Sat [(M.setP k y).sp] r h := by
  intro r h H
  have h1 := part_in (Ls := M.parts) (i := 8) (L := M.pools.map PlH.sp) rfl (by rw [List.length_map]; exact (List.getElem?_eq_some_iff.1 hk).1) r h H
  have e1 : ((M.pools.set k y).flatMap PlH.pt) = M.pools.flatMap PlH.pt := flat_set hk (by unfold PlH.pt; rw [hb])
  have e : M.parts.set 8 (star ((M.pools.map PlH.sp).set k y.sp)) = (M.setP k y).parts := by
    simp only [MdH.parts, MdH.setP, List.set_cons_succ, List.set_cons_zero, e1, List.length_set, List.map_set, MdH.cells]
  rw [e] at h1
  exact h1
end
theorem evC_one (l : List Ev) : ∀ u ∈ l.flatMap evC, u.oneCell' = true := fun u hu => by
  obtain ⟨x, _, hx⟩ := List.mem_flatMap.1 hu
  simp only [evC, List.mem_cons, List.mem_nil_iff, or_false] at hx
  rcases hx with rfl | rfl <;> rfl
attribute [local irreducible] Nx Ar BrM headC OneC HoC AftC planHead endF
theorem Send_ok (M : MdH) (hm : MdW M.p) (who : Int) (l : List Ev) (lA : Option Addr) (lc : Nat) (hl : l.length ≤ 1000) :
    FnOk Try.prog 24 [ptr M.b, .int .i64 who, .slice lA l.length lc] [M.sp, rdS lA l.length 2 (l.flatMap evC)] (MdQ M.b (M.p.send who l)) := by
  have hof := of_ok M hm who
  unfold MdP.send
  cases h2 : M.p.of who with
  | none =>
    rw [h2] at hof
    refine FnOk.start Try.func24 rfl rfl rfl rfl fun F os tape output => ?_
    refine go 200 ?_
    conv => whnf
    repeat' (first | ((first | refine BrM.t rfl ?_ | refine BrM.f rfl ?_ | refine BrM.dec (fun _ => ?_) (fun _ => ?_) | refine BrM.mk (fun _ => ?_) (fun _ => ?_) | refine Ar.i64 (by omega) (by omega) ?_ | refine gO rfl ?_ | refine gP rfl (by repeat constructor) ?_) <;> conv => whnf) | (refine atCall 41 ?_; refine cE [0] [0] rfl rfl rfl rfl rfl (hof) rfl ?_) | (refine (atCall 37) ?_; refine Nx.call [] [9] rfl rfl rfl rfl rfl ((wrong_ok _ _ 3)) rfl fun v Q hQ => ?_; obtain ⟨b,rfl,rfl⟩ := hQ) | (refine atRet ?_; refine Nx.ret [0,9] Try.func24 rfl rfl ?_; (exact MdQ.yes rfl (by decide))) | refine Nx.late ?_)
  | some k =>
  obtain ⟨hk, _, e⟩ := of_mem h2
  rw [h2, e] at hof
  dsimp only
  by_cases h3 : l.length = 0 ∨ 64 < l.length
  · rw [if_pos h3]
    by_cases h4 : l.length = 0
    · refine FnOk.start Try.func24 rfl rfl rfl rfl fun F os tape output => ?_
      refine go 200 ?_
      conv => whnf
      repeat' (first | ((first | refine BrM.yes (by omega) ?_ | refine BrM.t rfl ?_ | refine BrM.f rfl ?_ | refine BrM.dec (fun _ => ?_) (fun _ => ?_) | refine BrM.mk (fun _ => ?_) (fun _ => ?_) | refine Ar.i64 (by omega) (by omega) ?_ | refine gO rfl ?_ | refine gP rfl (by repeat constructor) ?_) <;> conv => whnf) | (refine atCall 41 ?_; refine cE [0] [0] rfl rfl rfl rfl rfl (hof) rfl ?_) | (refine (atCall 37) ?_; refine Nx.call [] [9] rfl rfl rfl rfl rfl ((wrong_ok _ _ 1)) rfl fun v Q hQ => ?_; obtain ⟨b,rfl,rfl⟩ := hQ) | (refine atRet ?_; refine Nx.ret [0,9] Try.func24 rfl rfl ?_; (exact MdQ.yes rfl (by decide))) | refine Nx.late ?_)
    · refine FnOk.start Try.func24 rfl rfl rfl rfl fun F os tape output => ?_
      refine go 200 ?_
      conv => whnf
      repeat' (first | ((first | refine BrM.yes (by omega) ?_ | refine BrM.not (by omega) ?_ | refine BrM.t rfl ?_ | refine BrM.f rfl ?_ | refine BrM.dec (fun _ => ?_) (fun _ => ?_) | refine BrM.mk (fun _ => ?_) (fun _ => ?_) | refine Ar.i64 (by omega) (by omega) ?_ | refine gO rfl ?_ | refine gP rfl (by repeat constructor) ?_) <;> conv => whnf) | (refine atCall 41 ?_; refine cE [0] [0] rfl rfl rfl rfl rfl (hof) rfl ?_) | (refine (atCall 37) ?_; refine Nx.call [] [9] rfl rfl rfl rfl rfl ((wrong_ok _ _ 1)) rfl fun v Q hQ => ?_; obtain ⟨b,rfl,rfl⟩ := hQ) | (refine atRet ?_; refine Nx.ret [0,9] Try.func24 rfl rfl ?_; (exact MdQ.yes rfl (by decide))) | refine Nx.late ?_)
  rw [if_neg h3]
  obtain ⟨x, hx⟩ : ∃ x, x = M.writers[k] := ⟨_, rfl⟩
  have hxk : M.writers[k]? = some x := by rw [hx]; exact List.getElem?_eq_getElem hk
  have hxm : x ∈ M.writers := List.mem_of_getElem? hxk
  rw [← hx] at hof
  have hc : x.calls.length ≤ 200 := by
    have := (hm.wb x.p (List.mem_map_of_mem hxm)).2.2.2
    simpa [WrH.p] using this
  have x2 := (MdH.wat hxm).sub 2 rfl
  have hL : Sees (rdS lA l.length 2 (l.flatMap evC)) lA l.length 2 (l.flatMap evC) := rdS_sees _ _ _ _
  refine FnOk.start Try.func24 rfl rfl rfl rfl fun F os tape output => ?_
  refine Nx.give 5 (ownS 39 none 0 0 2 []) (own_nil _ _ _ _) ?_
  refine go 200 ?_
  conv => whnf
  repeat' (first | ((first | refine BrM.not (by omega) ?_ | refine BrM.t rfl ?_ | refine BrM.f rfl ?_ | refine BrM.dec (fun _ => ?_) (fun _ => ?_) | refine BrM.mk (fun _ => ?_) (fun _ => ?_) | refine Ar.i64 (by omega) (by omega) ?_ | refine gO rfl ?_ | refine gP rfl (by repeat constructor) ?_) <;> conv => whnf) | (refine atCall 41 ?_; refine cE [0] [0] rfl rfl rfl rfl rfl (hof) rfl ?_) | (refine dN 8 [0] [0,4,8,12,17,20,26,30,35,36,40,47] rfl (by kernel_rfl) rfl (by kernel_rfl) rfl (by repeat constructor) rfl ?_) | (refine atHoLoad ?_; first | refine hL1 rfl rfl rfl rfl (SeesAt.sub (by assumption) _ rfl) (by repeat constructor) rfl ?_ | refine hL1 rfl rfl rfl rfl (by assumption) (by repeat constructor) rfl ?_ | refine hLm rfl rfl rfl rfl (by assumption) (by repeat constructor) rfl rfl ?_) | (refine atAftK ?_; refine Nx.keepN [0] rfl (by repeat constructor) (by repeat constructor) rfl ?_) | (refine atApp ?_; refine Nx.appendS 5 1 (sz := 2) (by_ := 16) rfl rfl rfl Try.underlying36 rfl rfl rfl rfl hL (evC_one _) (by unfold maxLen; omega) (by omega) fun B bc => ?_; rw [Nat.zero_add]) | refine Nx.late ?_)
  refine Nx.share 5 (rdS B l.length 2 (l.flatMap evC)) rfl own_share ?_
  refine Nx.turn [0] [10, 0] [x.sp, M.holeW k] rfl (MdH.outW hxk) ?_
  refine Nx.turn [10] [11, 12, 13] [blk x.b (.cells x.cells.toArray 104 (0, 0)), ownT 36 x.cA x.calls.length x.cc 1 (x.calls.flatMap CallH.enc), star (x.calls.map CallH.sp)] rfl sat_unstar ?_
  refine Nx.appendT 12 (sz := 1) (by_ := 24) (news := [.slice B l.length bc]) rfl rfl rfl rfl rfl Try.underlying102 rfl rfl rfl rfl rfl (by decide) (by unfold maxLen; omega) (by omega) fun A' c'' => ?_
  repeat' (first | ((first | refine BrM.t rfl ?_ | refine BrM.f rfl ?_ | refine BrM.dec (fun _ => ?_) (fun _ => ?_) | refine BrM.mk (fun _ => ?_) (fun _ => ?_) | refine Ar.i64 (by omega) (by omega) ?_ | refine gO rfl ?_ | refine gP rfl (by repeat constructor) ?_) <;> conv => whnf) | (refine atApp ?_; refine Nx.append 12 (sz := 1) (by_ := 8) (news := [ptr b]) rfl rfl rfl rfl rfl Try.underlying102 rfl rfl rfl rfl rfl (by unfold maxLen; omega) (by omega) fun A' c'' => ?_) | refine Nx.late ?_)
  refine Nx.storeW 11 (blk x.b (.cells (x.cells.set 2 (.slice A' (x.calls.length + 1) c'')).toArray 104 (0, 0))) rfl rfl rfl rfl rfl rfl rfl rfl rfl (blk_set (by show 2 < 6; decide)) ?_
  obtain ⟨y, hy⟩ : ∃ y : WrH, y = { x with calls := x.calls ++ [⟨l, B, bc⟩], cA := A', cc := c'' } := ⟨_, rfl⟩
  refine Nx.turn [11, 12, 13, 5] [10] [y.sp] rfl (fun r h hs => ?_) ?_
  · have := regroup [_, _] [] (P := rdS B l.length 2 (l.flatMap evC)) (P' := CallH.sp ⟨l, B, bc⟩) (fun _ _ h => h) hs
    subst hy
    refine sat_restar ?_
    simp only [WrH.cells, List.set_cons_zero, List.set_cons_succ] at this
    simp only [WrH.cells, List.map_append, List.map_cons, List.map_nil, List.flatMap_append, List.flatMap_cons, List.flatMap_nil, List.length_append, List.length_singleton, List.append_nil]
    exact this
  have eb : y.b = x.b := by rw [hy]
  refine Nx.turn [10, 0] [0] [(M.setW k y).sp] rfl (MdH.inW hxk eb) ?_
  have ep : (M.setW k y).p = { M.p with writers := M.p.writers.modify k (·.more l) } := by
    have := map_set_modify (f := WrH.p) (u := fun w => w.more l) hxk (y := y) (by rw [hy]; simp [WrH.p, WrP.more])
    simp only [MdH.setW, MdH.p, this]
  repeat' (first | ((first | refine BrM.t rfl ?_ | refine BrM.f rfl ?_ | refine BrM.dec (fun _ => ?_) (fun _ => ?_) | refine BrM.mk (fun _ => ?_) (fun _ => ?_) | refine Ar.i64 (by omega) (by omega) ?_ | refine gO rfl ?_ | refine gP rfl (by repeat constructor) ?_) <;> conv => whnf) | (refine atRet ?_; refine Nx.ret [0] Try.func24 rfl rfl ?_; (exact MdQ.no (M := M.setW k y) rfl ep)) | refine Nx.late ?_)
end Go.Proofs.Ytngfadijcpnblaa

/- The program's model: leaves, returns, stops. -/
namespace Go.Proofs.Ytngfadijcpnblaa
open Go.RowKit
set_option maxRecDepth 20000
set_option maxHeartbeats 4000000
def Nt.v (n : Nt) : Value := .agg #[.int .i64 n.who, .int .i64 n.ring, .int .i64 n.deed, .int .i64 n.lo, .int .i64 n.seq, .int .i64 n.x.key, .int .i64 n.x.val, .int .i64 n.code]
theorem RdH.set_sp {x y : RdH} {p : Nat} {v : Value} (hp : p < 9) (hb : y.b = x.b) (hc : y.cells = x.cells.set p v) (ha : y.r.ahead = x.r.ahead) (hA : y.aA = x.aA) : SetAt x.sp x.b p v y.sp := by
  have h := star_set (L := [blk x.b (.cells x.cells.toArray 93 (0, 0)), rdS x.aA x.r.ahead.length 1 (x.r.ahead.flatMap inC)]) (k := 0) rfl (blk_set (b := x.b) (t := 93) (ys := x.cells) (y := v) (p := p) hp)
  have e : y.sp = star ([blk x.b (.cells x.cells.toArray 93 (0, 0)), rdS x.aA x.r.ahead.length 1 (x.r.ahead.flatMap inC)].set 0 (blk x.b (.cells (x.cells.set p v).toArray 93 (0, 0)))) := by
    unfold RdH.sp
    rw [hb, hc, ha, hA]; rfl
  rw [e]; exact h
theorem WrH.set_sp {x y : WrH} {p : Nat} {v : Value} (hp : p < 6) (hb : y.b = x.b) (hc : y.cells = x.cells.set p v) (ha : y.calls = x.calls) (hA : y.cA = x.cA) (hcc : y.cc = x.cc) : SetAt x.sp x.b p v y.sp := by
  have h := star_set (L := [blk x.b (.cells x.cells.toArray 104 (0, 0)), ownT 36 x.cA x.calls.length x.cc 1 (x.calls.flatMap CallH.enc), star (x.calls.map CallH.sp)]) (k := 0) rfl (blk_set (b := x.b) (t := 104) (ys := x.cells) (y := v) (p := p) hp)
  have e : y.sp = star ([blk x.b (.cells x.cells.toArray 104 (0, 0)), ownT 36 x.cA x.calls.length x.cc 1 (x.calls.flatMap CallH.enc), star (x.calls.map CallH.sp)].set 0 (blk x.b (.cells (x.cells.set p v).toArray 104 (0, 0)))) := by
    unfold WrH.sp
    rw [hb, hc, ha, hA, hcc]; rfl
  rw [e]; exact h
section
variable {M : MdH}
theorem MdH.setR_p {k : Nat} {x y : RdH} {f : RdP → RdP} (hk : M.readers[k]? = some x) (h : y.r = f x.r) : (M.setR k y).p = M.p.setR k f := by
  have := map_set_modify (f := RdH.r) (u := f) hk h
  simp only [MdH.setR, MdH.p, MdP.setR, this]
theorem MdH.setW_p {k : Nat} {x y : WrH} {f : WrP → WrP} (hk : M.writers[k]? = some x) (h : y.p = f x.p) : (M.setW k y).p = M.p.setW k f := by
  have := map_set_modify (f := WrH.p) (u := f) hk h
  simp only [MdH.setW, MdH.p, MdP.setW, this]
theorem MdH.setR_sp {k : Nat} {x y : RdH} {p : Nat} {v : Value} (hk : M.readers[k]? = some x) (hp : p < 9) (hb : y.b = x.b) (hc : y.cells = x.cells.set p v) (ha : y.r.ahead = x.r.ahead) (hA : y.aA = x.aA) : SetAt M.sp x.b p v (M.setR k y).sp :=
  setR_set hk hb (RdH.set_sp hp hb hc ha hA)
theorem MdH.setW_sp {k : Nat} {x y : WrH} {p : Nat} {v : Value} (hk : M.writers[k]? = some x) (hp : p < 6) (hb : y.b = x.b) (hc : y.cells = x.cells.set p v) (ha : y.calls = x.calls) (hA : y.cA = x.cA) (hcc : y.cc = x.cc) : SetAt M.sp x.b p v (M.setW k y).sp :=
  setW_set hk hb (WrH.set_sp hp hb hc ha hA hcc)
end
attribute [local irreducible] Nx Ar BrM headC OneC HoC AftC planHead endF
theorem leaves_ok (M : MdH) {k : Nat} {x : RdH} (hx : M.readers[k]? = some x) (n : Nt) : FnOk Try.prog 48 [ptr M.b, ptr x.b, n.v] [M.sp] (MdQ M.b (M.p.leaves k x.r n)) := by
  have hr := MdH.rat (M := M) (List.mem_of_getElem? hx)
  have r7 := hr.sub 7 rfl
  have r3 := hr.sub 3 rfl
  unfold MdP.leaves
  unfold Nt.v
  cases h1 : x.r.held with
  | false =>
    rw [if_pos (.inl rfl)]
    refine FnOk.start Try.func48 rfl rfl rfl rfl fun F os tape output => ?_
    refine go 200 ?_
    conv => whnf
    refine Nx.bind (l := 5) (fun _ => ?_) rfl
    repeat' (first | (refine atBr ?_; refine BrM.t ((by rw [h1]; rfl)) ?_; conv => whnf) | ((first | refine BrM.t rfl ?_ | refine BrM.f rfl ?_ | refine BrM.dec (fun _ => ?_) (fun _ => ?_) | refine BrM.mk (fun _ => ?_) (fun _ => ?_) | refine Ar.i64 (by omega) (by omega) ?_ | refine gO rfl ?_ | refine gP rfl (by repeat constructor) ?_) <;> conv => whnf) | (refine dN 1 [0] [0,4,8,13,16,20,24,29,32,36,40,45,48,52] rfl (by kernel_rfl) rfl (by kernel_rfl) rfl (by repeat constructor) rfl ?_) | (refine atHoLoad ?_; first | refine hL1 rfl rfl rfl rfl (SeesAt.sub (by assumption) _ rfl) (by repeat constructor) rfl ?_ | refine hL1 rfl rfl rfl rfl (by assumption) (by repeat constructor) rfl ?_ | refine hLm rfl rfl rfl rfl (by assumption) (by repeat constructor) rfl rfl ?_) | (refine (atCall 37) ?_; refine Nx.call [] [9] rfl rfl rfl rfl rfl ((wrong_ok _ _ 1)) rfl fun v Q hQ => ?_; obtain ⟨b,rfl,rfl⟩ := hQ) | (refine atRet ?_; refine Nx.ret [0,9] Try.func48 rfl rfl ?_; (exact MdQ.yes rfl (by decide))) | refine Nx.late ?_)
  | true =>
  by_cases h2 : n.seq = x.r.cursor
  · rw [if_neg (by simp [h2])]
    refine FnOk.start Try.func48 rfl rfl rfl rfl fun F os tape output => ?_
    refine go 200 ?_
    conv => whnf
    refine Nx.bind (l := 5) (fun _ => ?_) rfl
    repeat' (first | (refine atBr ?_; refine BrM.f ((by rw [h1]; rfl)) ?_; conv => whnf) | ((first | refine BrM.not (by omega) ?_ | refine BrM.t rfl ?_ | refine BrM.f rfl ?_ | refine BrM.dec (fun _ => ?_) (fun _ => ?_) | refine BrM.mk (fun _ => ?_) (fun _ => ?_) | refine Ar.i64 (by omega) (by omega) ?_ | refine gO rfl ?_ | refine gP rfl (by repeat constructor) ?_) <;> conv => whnf) | (refine dN 1 [0] [0,4,8,13,16,20,24,29,32,36,40,45,48,52] rfl (by kernel_rfl) rfl (by kernel_rfl) rfl (by repeat constructor) rfl ?_) | (refine atHoLoad ?_; first | refine hL1 rfl rfl rfl rfl (SeesAt.sub (by assumption) _ rfl) (by repeat constructor) rfl ?_ | refine hL1 rfl rfl rfl rfl (by assumption) (by repeat constructor) rfl ?_ | refine hLm rfl rfl rfl rfl (by assumption) (by repeat constructor) rfl rfl ?_) | refine Nx.late ?_)
    obtain ⟨y, hy⟩ : ∃ y : RdH, y = { x with r := { x.r with held := false } } := ⟨_, rfl⟩
    refine Nx.storeW 0 (M.setR k y).sp rfl rfl rfl rfl rfl rfl rfl rfl rfl (MdH.setR_sp hx (by decide) (by rw [hy]) (by rw [hy]; rfl) (by rw [hy]) (by rw [hy])) ?_
    have ep : (M.setR k y).p = M.p.setR k fun r => { r with held := false } := MdH.setR_p hx (by rw [hy])
    repeat' (first | ((first | refine BrM.t rfl ?_ | refine BrM.f rfl ?_ | refine BrM.dec (fun _ => ?_) (fun _ => ?_) | refine BrM.mk (fun _ => ?_) (fun _ => ?_) | refine Ar.i64 (by omega) (by omega) ?_ | refine gO rfl ?_ | refine gP rfl (by repeat constructor) ?_) <;> conv => whnf) | (refine atRet ?_; refine Nx.ret [0] Try.func48 rfl rfl ?_; (exact MdQ.no (M := M.setR k y) rfl ep)) | refine Nx.late ?_)
  · rw [if_pos (.inr h2)]
    refine FnOk.start Try.func48 rfl rfl rfl rfl fun F os tape output => ?_
    refine go 200 ?_
    conv => whnf
    refine Nx.bind (l := 5) (fun _ => ?_) rfl
    repeat' (first | (refine atBr ?_; refine BrM.f ((by rw [h1]; rfl)) ?_; conv => whnf) | ((first | refine BrM.yes (by omega) ?_ | refine BrM.t rfl ?_ | refine BrM.f rfl ?_ | refine BrM.dec (fun _ => ?_) (fun _ => ?_) | refine BrM.mk (fun _ => ?_) (fun _ => ?_) | refine Ar.i64 (by omega) (by omega) ?_ | refine gO rfl ?_ | refine gP rfl (by repeat constructor) ?_) <;> conv => whnf) | (refine dN 1 [0] [0,4,8,13,16,20,24,29,32,36,40,45,48,52] rfl (by kernel_rfl) rfl (by kernel_rfl) rfl (by repeat constructor) rfl ?_) | (refine atHoLoad ?_; first | refine hL1 rfl rfl rfl rfl (SeesAt.sub (by assumption) _ rfl) (by repeat constructor) rfl ?_ | refine hL1 rfl rfl rfl rfl (by assumption) (by repeat constructor) rfl ?_ | refine hLm rfl rfl rfl rfl (by assumption) (by repeat constructor) rfl rfl ?_) | (refine (atCall 37) ?_; refine Nx.call [] [9] rfl rfl rfl rfl rfl ((wrong_ok _ _ 1)) rfl fun v Q hQ => ?_; obtain ⟨b,rfl,rfl⟩ := hQ) | (refine atRet ?_; refine Nx.ret [0,9] Try.func48 rfl rfl ?_; (exact MdQ.yes rfl (by decide))) | refine Nx.late ?_)
theorem returns_ok (M : MdH) (hm : MdW M.p) {k : Nat} {x : RdH} (hx : M.readers[k]? = some x) (n : Nt) : FnOk Try.prog 47 [ptr M.b, ptr x.b, n.v] [M.sp] (MdQ M.b (M.p.returns k x.r n)) := by
  have hr := MdH.rat (M := M) (List.mem_of_getElem? hx)
  have hb := hm.rb x.r (List.mem_map_of_mem (List.mem_of_getElem? hx))
  have r2 := hr.sub 2 rfl
  have r3 := hr.sub 3 rfl
  have r4 := hr.sub 4 rfl
  have r5 := hr.sub 5 rfl
  unfold MdP.returns
  unfold Nt.v
  by_cases h1 : 0 ≤ x.r.pool
  · rw [if_pos h1]
    refine FnOk.start Try.func47 rfl rfl rfl rfl fun F os tape output => ?_
    refine go 200 ?_
    conv => whnf
    refine Nx.bind (l := 5) (fun _ => ?_) rfl
    repeat' (first | ((first | refine BrM.yes (by omega) ?_ | refine BrM.t rfl ?_ | refine BrM.f rfl ?_ | refine BrM.dec (fun _ => ?_) (fun _ => ?_) | refine BrM.mk (fun _ => ?_) (fun _ => ?_) | refine Ar.i64 (by omega) (by omega) ?_ | refine gO rfl ?_ | refine gP rfl (by repeat constructor) ?_) <;> conv => whnf) | (refine atLoad ?_; refine Nx.load1 0 rfl rfl rfl rfl (r5) rfl ?_) | (refine (atCall 37) ?_; refine Nx.call [] [9] rfl rfl rfl rfl rfl ((wrong_ok _ _ 1)) rfl fun v Q hQ => ?_; obtain ⟨b,rfl,rfl⟩ := hQ) | (refine atRet ?_; refine Nx.ret [0,9] Try.func47 rfl rfl ?_; (exact MdQ.yes rfl (by decide))) | refine Nx.late ?_)
  rw [if_neg h1]
  by_cases h2 : n.code = 0
  · rw [if_neg (by omega)]
    by_cases h3 : n.lo ≠ x.r.began ∨ n.seq ≠ x.r.next - 1 ∨ n.seq < n.lo ∨ x.r.cursor ≠ n.seq
    · rw [if_pos ⟨h2, h3⟩]
      by_cases h4 : n.lo = x.r.began
      · by_cases h5 : n.seq = x.r.next - 1
        · by_cases h6 : n.seq < n.lo
          · refine FnOk.start Try.func47 rfl rfl rfl rfl fun F os tape output => ?_
            refine go 200 ?_
            conv => whnf
            refine Nx.bind (l := 5) (fun _ => ?_) rfl
            repeat' (first | ((first | refine BrM.yes (by omega) ?_ | refine BrM.not (by omega) ?_ | refine BrM.t rfl ?_ | refine BrM.f rfl ?_ | refine BrM.dec (fun _ => ?_) (fun _ => ?_) | refine BrM.mk (fun _ => ?_) (fun _ => ?_) | refine Ar.i64 (by omega) (by omega) ?_ | refine gO rfl ?_ | refine gP rfl (by repeat constructor) ?_) <;> conv => whnf) | (refine atLoad ?_; refine Nx.load1 0 rfl rfl rfl rfl (r5) rfl ?_) | (refine dN 3 [0] [0,5,8,12,16,20,24,29,32,36,40,45,48,52,56] rfl (by kernel_rfl) rfl (by kernel_rfl) rfl (by repeat constructor) rfl ?_) | (refine dN 5 [0] [0,5,8,12,16,21,24,28,32,37,40,44,48,53,56,60,64,69,72,76,80,84,88,93,96,101,104,108,112,116,120,124,129,132,137,140,144,148,152] rfl (by kernel_rfl) rfl (by kernel_rfl) rfl (by repeat constructor) rfl ?_) | (refine atHoLoad ?_; first | refine hL1 rfl rfl rfl rfl (SeesAt.sub (by assumption) _ rfl) (by repeat constructor) rfl ?_ | refine hL1 rfl rfl rfl rfl (by assumption) (by repeat constructor) rfl ?_ | refine hLm rfl rfl rfl rfl (by assumption) (by repeat constructor) rfl rfl ?_) | (refine (atCall 37) ?_; refine Nx.call [] [9] rfl rfl rfl rfl rfl ((wrong_ok _ _ 1)) rfl fun v Q hQ => ?_; obtain ⟨b,rfl,rfl⟩ := hQ) | (refine atRet ?_; refine Nx.ret [0,9] Try.func47 rfl rfl ?_; (exact MdQ.yes rfl (by decide))) | refine Nx.late ?_)
          · refine FnOk.start Try.func47 rfl rfl rfl rfl fun F os tape output => ?_
            refine go 200 ?_
            conv => whnf
            refine Nx.bind (l := 5) (fun _ => ?_) rfl
            repeat' (first | ((first | refine BrM.yes (by omega) ?_ | refine BrM.not (by omega) ?_ | refine BrM.t rfl ?_ | refine BrM.f rfl ?_ | refine BrM.dec (fun _ => ?_) (fun _ => ?_) | refine BrM.mk (fun _ => ?_) (fun _ => ?_) | refine Ar.i64 (by omega) (by omega) ?_ | refine gO rfl ?_ | refine gP rfl (by repeat constructor) ?_) <;> conv => whnf) | (refine atLoad ?_; refine Nx.load1 0 rfl rfl rfl rfl (r5) rfl ?_) | (refine dN 3 [0] [0,5,8,12,16,20,24,29,32,36,40,45,48,52,56] rfl (by kernel_rfl) rfl (by kernel_rfl) rfl (by repeat constructor) rfl ?_) | (refine dN 5 [0] [0,5,8,12,16,21,24,28,32,37,40,44,48,53,56,60,64,69,72,76,80,84,88,93,96,101,104,108,112,116,120,124,129,132,137,140,144,148,152] rfl (by kernel_rfl) rfl (by kernel_rfl) rfl (by repeat constructor) rfl ?_) | (refine atHoLoad ?_; first | refine hL1 rfl rfl rfl rfl (SeesAt.sub (by assumption) _ rfl) (by repeat constructor) rfl ?_ | refine hL1 rfl rfl rfl rfl (by assumption) (by repeat constructor) rfl ?_ | refine hLm rfl rfl rfl rfl (by assumption) (by repeat constructor) rfl rfl ?_) | (refine (atCall 37) ?_; refine Nx.call [] [9] rfl rfl rfl rfl rfl ((wrong_ok _ _ 1)) rfl fun v Q hQ => ?_; obtain ⟨b,rfl,rfl⟩ := hQ) | (refine atRet ?_; refine Nx.ret [0,9] Try.func47 rfl rfl ?_; (exact MdQ.yes rfl (by decide))) | refine Nx.late ?_)
        · refine FnOk.start Try.func47 rfl rfl rfl rfl fun F os tape output => ?_
          refine go 200 ?_
          conv => whnf
          refine Nx.bind (l := 5) (fun _ => ?_) rfl
          repeat' (first | ((first | refine BrM.yes (by omega) ?_ | refine BrM.not (by omega) ?_ | refine BrM.t rfl ?_ | refine BrM.f rfl ?_ | refine BrM.dec (fun _ => ?_) (fun _ => ?_) | refine BrM.mk (fun _ => ?_) (fun _ => ?_) | refine Ar.i64 (by omega) (by omega) ?_ | refine gO rfl ?_ | refine gP rfl (by repeat constructor) ?_) <;> conv => whnf) | (refine atLoad ?_; refine Nx.load1 0 rfl rfl rfl rfl (r5) rfl ?_) | (refine dN 3 [0] [0,5,8,12,16,20,24,29,32,36,40,45,48,52,56] rfl (by kernel_rfl) rfl (by kernel_rfl) rfl (by repeat constructor) rfl ?_) | (refine dN 5 [0] [0,5,8,12,16,21,24,28,32,37,40,44,48,53,56,60,64,69,72,76,80,84,88,93,96,101,104,108,112,116,120,124,129,132,137,140,144,148,152] rfl (by kernel_rfl) rfl (by kernel_rfl) rfl (by repeat constructor) rfl ?_) | (refine atHoLoad ?_; first | refine hL1 rfl rfl rfl rfl (SeesAt.sub (by assumption) _ rfl) (by repeat constructor) rfl ?_ | refine hL1 rfl rfl rfl rfl (by assumption) (by repeat constructor) rfl ?_ | refine hLm rfl rfl rfl rfl (by assumption) (by repeat constructor) rfl rfl ?_) | (refine (atCall 37) ?_; refine Nx.call [] [9] rfl rfl rfl rfl rfl ((wrong_ok _ _ 1)) rfl fun v Q hQ => ?_; obtain ⟨b,rfl,rfl⟩ := hQ) | (refine atRet ?_; refine Nx.ret [0,9] Try.func47 rfl rfl ?_; (exact MdQ.yes rfl (by decide))) | refine Nx.late ?_)
      · refine FnOk.start Try.func47 rfl rfl rfl rfl fun F os tape output => ?_
        refine go 200 ?_
        conv => whnf
        refine Nx.bind (l := 5) (fun _ => ?_) rfl
        repeat' (first | ((first | refine BrM.yes (by omega) ?_ | refine BrM.not (by omega) ?_ | refine BrM.t rfl ?_ | refine BrM.f rfl ?_ | refine BrM.dec (fun _ => ?_) (fun _ => ?_) | refine BrM.mk (fun _ => ?_) (fun _ => ?_) | refine Ar.i64 (by omega) (by omega) ?_ | refine gO rfl ?_ | refine gP rfl (by repeat constructor) ?_) <;> conv => whnf) | (refine atLoad ?_; refine Nx.load1 0 rfl rfl rfl rfl (r5) rfl ?_) | (refine dN 3 [0] [0,5,8,12,16,20,24,29,32,36,40,45,48,52,56] rfl (by kernel_rfl) rfl (by kernel_rfl) rfl (by repeat constructor) rfl ?_) | (refine dN 5 [0] [0,5,8,12,16,21,24,28,32,37,40,44,48,53,56,60,64,69,72,76,80,84,88,93,96,101,104,108,112,116,120,124,129,132,137,140,144,148,152] rfl (by kernel_rfl) rfl (by kernel_rfl) rfl (by repeat constructor) rfl ?_) | (refine atHoLoad ?_; first | refine hL1 rfl rfl rfl rfl (SeesAt.sub (by assumption) _ rfl) (by repeat constructor) rfl ?_ | refine hL1 rfl rfl rfl rfl (by assumption) (by repeat constructor) rfl ?_ | refine hLm rfl rfl rfl rfl (by assumption) (by repeat constructor) rfl rfl ?_) | (refine (atCall 37) ?_; refine Nx.call [] [9] rfl rfl rfl rfl rfl ((wrong_ok _ _ 1)) rfl fun v Q hQ => ?_; obtain ⟨b,rfl,rfl⟩ := hQ) | (refine atRet ?_; refine Nx.ret [0,9] Try.func47 rfl rfl ?_; (exact MdQ.yes rfl (by decide))) | refine Nx.late ?_)
    · rw [if_neg (by omega)]
      obtain ⟨y, hy⟩ : ∃ y : RdH, y = { x with r := { x.r with began := x.r.next } } := ⟨_, rfl⟩
      have ep : (M.setR k y).p = M.p.setR k fun r => { r with began := r.next } := MdH.setR_p hx (by rw [hy])
      refine FnOk.start Try.func47 rfl rfl rfl rfl fun F os tape output => ?_
      refine go 200 ?_
      conv => whnf
      refine Nx.bind (l := 5) (fun _ => ?_) rfl
      repeat' (first | ((first | refine BrM.yes (by omega) ?_ | refine BrM.not (by omega) ?_ | refine BrM.t rfl ?_ | refine BrM.f rfl ?_ | refine BrM.dec (fun _ => ?_) (fun _ => ?_) | refine BrM.mk (fun _ => ?_) (fun _ => ?_) | refine Ar.i64 (by omega) (by omega) ?_ | refine gO rfl ?_ | refine gP rfl (by repeat constructor) ?_) <;> conv => whnf) | (refine atLoad ?_; refine Nx.load1 0 rfl rfl rfl rfl (r5) rfl ?_) | (refine dN 3 [0] [0,5,8,12,16,20,24,29,32,36,40,45,48,52,56] rfl (by kernel_rfl) rfl (by kernel_rfl) rfl (by repeat constructor) rfl ?_) | (refine dN 5 [0] [0,5,8,12,16,21,24,28,32,37,40,44,48,53,56,60,64,69,72,76,80,84,88,93,96,101,104,108,112,116,120,124,129,132,137,140,144,148,152] rfl (by kernel_rfl) rfl (by kernel_rfl) rfl (by repeat constructor) rfl ?_) | (refine atHoLoad ?_; first | refine hL1 rfl rfl rfl rfl (SeesAt.sub (by assumption) _ rfl) (by repeat constructor) rfl ?_ | refine hL1 rfl rfl rfl rfl (by assumption) (by repeat constructor) rfl ?_ | refine hLm rfl rfl rfl rfl (by assumption) (by repeat constructor) rfl rfl ?_) | (refine atLoad ?_; refine Nx.load1 0 rfl rfl rfl rfl (r2) rfl ?_) | refine Nx.late ?_)
      refine Nx.storeW 0 (M.setR k y).sp rfl rfl rfl rfl rfl rfl rfl rfl rfl (MdH.setR_sp hx (by decide) (by rw [hy]) (by rw [hy]; rfl) (by rw [hy]) (by rw [hy])) ?_
      repeat' (first | ((first | refine BrM.t rfl ?_ | refine BrM.f rfl ?_ | refine BrM.dec (fun _ => ?_) (fun _ => ?_) | refine BrM.mk (fun _ => ?_) (fun _ => ?_) | refine Ar.i64 (by omega) (by omega) ?_ | refine gO rfl ?_ | refine gP rfl (by repeat constructor) ?_) <;> conv => whnf) | (refine atRet ?_; refine Nx.ret [0] Try.func47 rfl rfl ?_; (exact MdQ.no (M := M.setR k y) rfl ep)) | refine Nx.late ?_)
  · by_cases h3 : x.r.next = x.r.began
    · rw [if_neg (by omega), if_neg (by omega)]
      obtain ⟨y, hy⟩ : ∃ y : RdH, y = { x with r := { x.r with began := x.r.next } } := ⟨_, rfl⟩
      have ep : (M.setR k y).p = M.p.setR k fun r => { r with began := r.next } := MdH.setR_p hx (by rw [hy])
      refine FnOk.start Try.func47 rfl rfl rfl rfl fun F os tape output => ?_
      refine go 200 ?_
      conv => whnf
      refine Nx.bind (l := 5) (fun _ => ?_) rfl
      repeat' (first | ((first | refine BrM.yes (by omega) ?_ | refine BrM.not (by omega) ?_ | refine BrM.t rfl ?_ | refine BrM.f rfl ?_ | refine BrM.dec (fun _ => ?_) (fun _ => ?_) | refine BrM.mk (fun _ => ?_) (fun _ => ?_) | refine Ar.i64 (by omega) (by omega) ?_ | refine gO rfl ?_ | refine gP rfl (by repeat constructor) ?_) <;> conv => whnf) | (refine atLoad ?_; refine Nx.load1 0 rfl rfl rfl rfl (r5) rfl ?_) | (refine dN 3 [0] [0,5,8,12,16,20,24,29,32,36,40,45,48,52,56] rfl (by kernel_rfl) rfl (by kernel_rfl) rfl (by repeat constructor) rfl ?_) | (refine dN 5 [0] [0,5,8,12,16,21,24,28,32,37,40,44,48,53,56,60,64,69,72,76,80,84,88,93,96,101,104,108,112,116,120,124,129,132,137,140,144,148,152] rfl (by kernel_rfl) rfl (by kernel_rfl) rfl (by repeat constructor) rfl ?_) | (refine atHoLoad ?_; first | refine hL1 rfl rfl rfl rfl (SeesAt.sub (by assumption) _ rfl) (by repeat constructor) rfl ?_ | refine hL1 rfl rfl rfl rfl (by assumption) (by repeat constructor) rfl ?_ | refine hLm rfl rfl rfl rfl (by assumption) (by repeat constructor) rfl rfl ?_) | (refine atLoad ?_; refine Nx.load1 0 rfl rfl rfl rfl (r2) rfl ?_) | refine Nx.late ?_)
      refine Nx.storeW 0 (M.setR k y).sp rfl rfl rfl rfl rfl rfl rfl rfl rfl (MdH.setR_sp hx (by decide) (by rw [hy]) (by rw [hy]; rfl) (by rw [hy]) (by rw [hy])) ?_
      repeat' (first | ((first | refine BrM.t rfl ?_ | refine BrM.f rfl ?_ | refine BrM.dec (fun _ => ?_) (fun _ => ?_) | refine BrM.mk (fun _ => ?_) (fun _ => ?_) | refine Ar.i64 (by omega) (by omega) ?_ | refine gO rfl ?_ | refine gP rfl (by repeat constructor) ?_) <;> conv => whnf) | (refine atRet ?_; refine Nx.ret [0] Try.func47 rfl rfl ?_; (exact MdQ.no (M := M.setR k y) rfl ep)) | refine Nx.late ?_)
    · rw [if_pos ⟨h2, h3⟩]
      refine FnOk.start Try.func47 rfl rfl rfl rfl fun F os tape output => ?_
      refine go 200 ?_
      conv => whnf
      refine Nx.bind (l := 5) (fun _ => ?_) rfl
      repeat' (first | ((first | refine BrM.yes (by omega) ?_ | refine BrM.not (by omega) ?_ | refine BrM.t rfl ?_ | refine BrM.f rfl ?_ | refine BrM.dec (fun _ => ?_) (fun _ => ?_) | refine BrM.mk (fun _ => ?_) (fun _ => ?_) | refine Ar.i64 (by omega) (by omega) ?_ | refine gO rfl ?_ | refine gP rfl (by repeat constructor) ?_) <;> conv => whnf) | (refine atLoad ?_; refine Nx.load1 0 rfl rfl rfl rfl (r5) rfl ?_) | (refine dN 3 [0] [0,5,8,12,16,20,24,29,32,36,40,45,48,52,56] rfl (by kernel_rfl) rfl (by kernel_rfl) rfl (by repeat constructor) rfl ?_) | (refine atHoLoad ?_; first | refine hL1 rfl rfl rfl rfl (SeesAt.sub (by assumption) _ rfl) (by repeat constructor) rfl ?_ | refine hL1 rfl rfl rfl rfl (by assumption) (by repeat constructor) rfl ?_ | refine hLm rfl rfl rfl rfl (by assumption) (by repeat constructor) rfl rfl ?_) | (refine (atCall 37) ?_; refine Nx.call [] [9] rfl rfl rfl rfl rfl ((wrong_ok _ _ 18)) rfl fun v Q hQ => ?_; obtain ⟨b,rfl,rfl⟩ := hQ) | (refine atRet ?_; refine Nx.ret [0,9] Try.func47 rfl rfl ?_; (exact MdQ.yes rfl (by decide))) | refine Nx.late ?_)
structure StX where
  rs : List RdH
  j : Nat
def overS (who : Int) (r : RdP) : RdP := if r.who = who then { r with over := true } else r
theorem stops_ok (M : MdH) (hm : MdW M.p) (who : Int) : FnOk Try.prog 49 [ptr M.b, .int .i64 who] [M.sp] (fun _ Q => ∃ M' : MdH, M'.b = M.b ∧ M'.p = M.p.stops who ∧ Q = [M'.sp]) := by
  have hM := M.seeM
  have m2 := hM.sub 2 rfl
  have hn := (hm.rn).1
  refine FnOk.start Try.func49 rfl rfl rfl rfl fun F os tape output => ?_
  refine go 200 ?_
  conv => whnf
  repeat' (first | ((first | refine BrM.t rfl ?_ | refine BrM.f rfl ?_ | refine BrM.dec (fun _ => ?_) (fun _ => ?_) | refine BrM.mk (fun _ => ?_) (fun _ => ?_) | refine Ar.i64 (by omega) (by omega) ?_ | refine gO rfl ?_ | refine gP rfl (by repeat constructor) ?_) <;> conv => whnf) | (refine atLoad ?_; refine Nx.load1 0 rfl rfl rfl rfl (m2) rfl ?_) | refine Nx.late ?_)
  refine Nx.loop (X := StX) (fun x => x.j ≤ M.readers.length ∧ x.rs.length = M.readers.length ∧ ∀ q, (h1 : q < x.rs.length) → (h2 : q < M.readers.length) → x.rs[q].r = if q < x.j then overS who M.readers[q].r else M.readers[q].r) (fun x => M.readers.length - x.j)
    (fun x => [(0, .c (.v (ptr M.b))), (1, iv who), (9, sl M.rA M.readers.length M.rc), (10, iv M.readers.length), (11, iv x.j)]) (fun _ => []) [] (fun x => [(0, ({ M with readers := x.rs } : MdH).sp)]) ⟨M.readers, 0⟩ ⟨Nat.zero_le _, rfl, fun q h1 h2 => by simp⟩ ?_ ?_ ?_ ?_ ?_
  all_goals repeat (first | exact .nil _ | refine .cons rfl ?_ | refine .cons rfl rfl ?_ | refine .cons rfl rfl rfl ?_ | refine .cons' rfl (fun _ => rfl) ?_)
  intro ⟨rs, j⟩ ⟨hj, hlen, hrs⟩ ih
  dsimp only at hj hlen hrs ih ⊢
  obtain ⟨X, hX⟩ : ∃ X : MdH, X = { M with readers := rs } := ⟨_, rfl⟩
  rw [← hX]
  have eXr : X.readers = rs := by rw [hX]
  by_cases hlt : j < M.readers.length
  · have hjl : j < rs.length := by omega
    obtain ⟨x, hx⟩ : ∃ x, x = rs[j] := ⟨_, rfl⟩
    have hxk : X.readers[j]? = some x := by rw [eXr, hx]; exact List.getElem?_eq_getElem hjl
    have hr := MdH.rat (M := X) (List.mem_of_getElem? hxk)
    have r0 := hr.sub 0 rfl
    have hR : Sees X.sp M.rA M.readers.length 1 (rs.flatMap RdH.pt) := by
      have := X.seeR
      rw [eXr, hlen] at this
      rw [hX] at this ⊢
      exact this
    have hxr : x.r = M.readers[j].r := by
      have := hrs j hjl hlt
      rw [if_neg (by omega)] at this
      rw [hx]; exact this
    have epj : rs[j].pt = x.pt := by rw [hx]
    have next : ∀ y : RdH, y.r = overS who x.r → ∀ q, (h1 : q < (rs.set j y).length) → (h2 : q < M.readers.length) → (rs.set j y)[q].r = if q < j + 1 then overS who M.readers[q].r else M.readers[q].r := by
      intro y hy q h1 h2
      rw [List.getElem_set]
      by_cases e : j = q
      · subst e
        rw [if_pos rfl, if_pos (by omega), hy, hxr]
      · rw [if_neg e, hrs q (by simpa using h1) h2]
        by_cases e2 : q < j
        · rw [if_pos e2, if_pos (by omega)]
        · rw [if_neg e2, if_neg (by omega)]
    by_cases hw : x.r.who = who
    · obtain ⟨y, hy⟩ : ∃ y : RdH, y = { x with r := { x.r with over := true } } := ⟨_, rfl⟩
      repeat' (first | ((first | refine BrM.yes (by omega) ?_ | refine BrM.t rfl ?_ | refine BrM.f rfl ?_ | refine BrM.dec (fun _ => ?_) (fun _ => ?_) | refine BrM.mk (fun _ => ?_) (fun _ => ?_) | refine Ar.i64 (by omega) (by omega) ?_ | refine gO rfl ?_ | refine gP rfl (by repeat constructor) ?_) <;> conv => whnf) | (refine atIdx ?_; refine Nx.idx 0 (j := j) rfl rfl rfl Try.underlying75 rfl rfl rfl RdH.pt_len hR hlen.symm (by omega) (by omega) fun _ _ _ => ?_) | refine Nx.late ?_)
      rename_i b p hpt
      rw [epj] at hpt
      repeat' (first | ((first | refine BrM.yes (by omega) ?_ | refine BrM.t rfl ?_ | refine BrM.f rfl ?_ | refine BrM.dec (fun _ => ?_) (fun _ => ?_) | refine BrM.mk (fun _ => ?_) (fun _ => ?_) | refine Ar.i64 (by omega) (by omega) ?_ | refine gO rfl ?_ | refine gP rfl (by repeat constructor) ?_) <;> conv => whnf) | (refine atLoad ?_; refine Nx.load1 0 rfl rfl rfl rfl (hpt) rfl ?_) | (refine atLoad ?_; refine Nx.load1 0 rfl rfl rfl rfl (r0) rfl ?_) | refine Nx.late ?_)
      refine Nx.storeW 0 (X.setR j y).sp rfl rfl rfl rfl rfl rfl rfl rfl rfl (MdH.setR_sp hxk (by decide) (by rw [hy]) (by rw [hy]; rfl) (by rw [hy]) (by rw [hy])) ?_
      repeat' (first | ((first | refine BrM.yes (by omega) ?_ | refine BrM.t rfl ?_ | refine BrM.f rfl ?_ | refine BrM.dec (fun _ => ?_) (fun _ => ?_) | refine BrM.mk (fun _ => ?_) (fun _ => ?_) | refine Ar.i64 (by omega) (by omega) ?_ | refine gO rfl ?_ | refine gP rfl (by repeat constructor) ?_) <;> conv => whnf) | refine Nx.late ?_)
      refine (ih ⟨rs.set j y, j + 1⟩ ⟨by dsimp only; omega, by simpa using hlen, next y (by rw [hy]; unfold overS; rw [if_pos hw])⟩ (by dsimp only; omega)).weak ?_ ?_ ?_ ?_
      · repeat (first | exact subE.nil _ | refine subE.cons rfl rfl ?_ | refine subE.cons' rfl (fun _ => rfl) ?_)
      · repeat (first | exact subM.nil _ | refine subM.cons rfl rfl rfl ?_)
      · repeat (first | exact subB.nil _ | refine subB.cons rfl ?_)
      · have e : (X.setR j y).sp = ({ M with readers := rs.set j y } : MdH).sp := by
          unfold MdH.setR
          rw [hX]
        rw [e]
        repeat (first | exact subR.nil _ | refine subR.cons rfl rfl ?_)
    · repeat' (first | ((first | refine BrM.yes (by omega) ?_ | refine BrM.t rfl ?_ | refine BrM.f rfl ?_ | refine BrM.dec (fun _ => ?_) (fun _ => ?_) | refine BrM.mk (fun _ => ?_) (fun _ => ?_) | refine Ar.i64 (by omega) (by omega) ?_ | refine gO rfl ?_ | refine gP rfl (by repeat constructor) ?_) <;> conv => whnf) | (refine atIdx ?_; refine Nx.idx 0 (j := j) rfl rfl rfl Try.underlying75 rfl rfl rfl RdH.pt_len hR hlen.symm (by omega) (by omega) fun _ _ _ => ?_) | refine Nx.late ?_)
      rename_i b p hpt
      rw [epj] at hpt
      repeat' (first | (refine atBr ?_; refine BrM.not (hw) ?_; conv => whnf) | ((first | refine BrM.t rfl ?_ | refine BrM.f rfl ?_ | refine BrM.dec (fun _ => ?_) (fun _ => ?_) | refine BrM.mk (fun _ => ?_) (fun _ => ?_) | refine Ar.i64 (by omega) (by omega) ?_ | refine gO rfl ?_ | refine gP rfl (by repeat constructor) ?_) <;> conv => whnf) | (refine atLoad ?_; refine Nx.load1 0 rfl rfl rfl rfl (hpt) rfl ?_) | (refine atLoad ?_; refine Nx.load1 0 rfl rfl rfl rfl (r0) rfl ?_) | refine Nx.late ?_)
      have e : rs.set j x = rs := by rw [hx]; exact List.set_getElem_self hjl
      refine (ih ⟨rs, j + 1⟩ ⟨by dsimp only; omega, hlen, fun q h1 h2 => ?_⟩ (by dsimp only; omega)).weak ?_ ?_ ?_ ?_
      · have := next x (by unfold overS; rw [if_neg hw]) q (by rw [e]; exact h1) h2
        simpa only [e] using this
      · repeat (first | exact subE.nil _ | refine subE.cons rfl rfl ?_ | refine subE.cons' rfl (fun _ => rfl) ?_)
      · repeat (first | exact subM.nil _ | refine subM.cons rfl rfl rfl ?_)
      · repeat (first | exact subB.nil _ | refine subB.cons rfl ?_)
      · rw [hX]
        repeat (first | exact subR.nil _ | refine subR.cons rfl rfl ?_)
  · have ep : X.p = M.p.stops who := by
      have e : rs.map RdH.r = (M.readers.map RdH.r).map (overS who) := by
        refine List.ext_getElem (by simpa using hlen) fun q h1 h2 => ?_
        rw [List.getElem_map, List.getElem_map, List.getElem_map, hrs q (by simpa using h1) (by simpa using h2), if_pos (by simp at h2; omega)]
      rw [hX]
      show MdP.mk _ _ (rs.map RdH.r) _ = _
      rw [e]; rfl
    have eb : X.b = M.b := by rw [hX]
    repeat' (first | ((first | refine BrM.not (by omega) ?_ | refine BrM.t rfl ?_ | refine BrM.f rfl ?_ | refine BrM.dec (fun _ => ?_) (fun _ => ?_) | refine BrM.mk (fun _ => ?_) (fun _ => ?_) | refine Ar.i64 (by omega) (by omega) ?_ | refine gO rfl ?_ | refine gP rfl (by repeat constructor) ?_) <;> conv => whnf) | (refine atEnd ?_; refine Nx.done [0] rfl rfl rfl ?_; (exact ⟨X, eb, ep, rfl⟩)) | refine Nx.late ?_)
end Go.Proofs.Ytngfadijcpnblaa

/- The program's model: moves. -/
namespace Go.Proofs.Ytngfadijcpnblaa
open Go.RowKit
set_option maxRecDepth 20000
set_option maxHeartbeats 4000000
attribute [local irreducible] Nx Ar BrM headC OneC HoC AftC planHead endF
theorem moves_ok (M : MdH) (hm : MdW M.p) {k : Nat} {x : RdH} (hx : M.readers[k]? = some x) (n : Nt) : FnOk Try.prog 46 [ptr M.b, ptr x.b, n.v] [M.sp] (MdQ M.b (M.p.moves k x.r n)) := by
  have hr := MdH.rat (M := M) (List.mem_of_getElem? hx)
  have hb := hm.rb x.r (List.mem_map_of_mem (List.mem_of_getElem? hx))
  have r1 := hr.sub 1 rfl
  have r2 := hr.sub 2 rfl
  have r3 := hr.sub 3 rfl
  have r5 := hr.sub 5 rfl
  have hev := Event_ok M hm x.r.ring n.seq
  unfold MdP.moves
  unfold Nt.v
  by_cases h1 : n.lo = x.r.cursor + 1
  · by_cases h2 : n.seq < n.lo
    · rw [if_pos (.inr h2)]
      refine FnOk.start Try.func46 rfl rfl rfl rfl fun F os tape output => ?_
      refine go 200 ?_
      conv => whnf
      refine Nx.bind (l := 5) (fun _ => ?_) rfl
      repeat' (first | ((first | refine BrM.yes (by omega) ?_ | refine BrM.not (by omega) ?_ | refine BrM.t rfl ?_ | refine BrM.f rfl ?_ | refine BrM.dec (fun _ => ?_) (fun _ => ?_) | refine BrM.mk (fun _ => ?_) (fun _ => ?_) | refine Ar.i64 (by omega) (by omega) ?_ | refine gO rfl ?_ | refine gP rfl (by repeat constructor) ?_) <;> conv => whnf) | (refine dN 1 [0] [0,5,8,12,16,21,24,28,32,36,41,44,49,52,56,60] rfl (by kernel_rfl) rfl (by kernel_rfl) rfl (by repeat constructor) rfl ?_) | (refine atHoLoad ?_; first | refine hL1 rfl rfl rfl rfl (SeesAt.sub (by assumption) _ rfl) (by repeat constructor) rfl ?_ | refine hL1 rfl rfl rfl rfl (by assumption) (by repeat constructor) rfl ?_ | refine hLm rfl rfl rfl rfl (by assumption) (by repeat constructor) rfl rfl ?_) | (refine (atCall 37) ?_; refine Nx.call [] [9] rfl rfl rfl rfl rfl ((wrong_ok _ _ 1)) rfl fun v Q hQ => ?_; obtain ⟨b,rfl,rfl⟩ := hQ) | (refine atRet ?_; refine Nx.ret [0,9] Try.func46 rfl rfl ?_; (exact MdQ.yes rfl (by decide))) | refine Nx.late ?_)
    rw [if_neg (by omega)]
    by_cases h3 : x.r.pool < 0 ∧ n.seq ≠ x.r.next - 1
    · rw [if_pos h3]
      refine FnOk.start Try.func46 rfl rfl rfl rfl fun F os tape output => ?_
      refine go 200 ?_
      conv => whnf
      refine Nx.bind (l := 5) (fun _ => ?_) rfl
      repeat' (first | ((first | refine BrM.yes (by omega) ?_ | refine BrM.not (by omega) ?_ | refine BrM.t rfl ?_ | refine BrM.f rfl ?_ | refine BrM.dec (fun _ => ?_) (fun _ => ?_) | refine BrM.mk (fun _ => ?_) (fun _ => ?_) | refine Ar.i64 (by omega) (by omega) ?_ | refine gO rfl ?_ | refine gP rfl (by repeat constructor) ?_) <;> conv => whnf) | (refine dN 1 [0] [0,5,8,12,16,21,24,28,32,36,41,44,49,52,56,60] rfl (by kernel_rfl) rfl (by kernel_rfl) rfl (by repeat constructor) rfl ?_) | (refine dN 3 [0] [0,4,8,13,16,20,24,29,32,36,40,45,48,52,56,60] rfl (by kernel_rfl) rfl (by kernel_rfl) rfl (by repeat constructor) rfl ?_) | (refine atHoLoad ?_; first | refine hL1 rfl rfl rfl rfl (SeesAt.sub (by assumption) _ rfl) (by repeat constructor) rfl ?_ | refine hL1 rfl rfl rfl rfl (by assumption) (by repeat constructor) rfl ?_ | refine hLm rfl rfl rfl rfl (by assumption) (by repeat constructor) rfl rfl ?_) | (refine (atCall 37) ?_; refine Nx.call [] [9] rfl rfl rfl rfl rfl ((wrong_ok _ _ 1)) rfl fun v Q hQ => ?_; obtain ⟨b,rfl,rfl⟩ := hQ) | (refine atRet ?_; refine Nx.ret [0,9] Try.func46 rfl rfl ?_; (exact MdQ.yes rfl (by decide))) | refine Nx.late ?_)
    rw [if_neg h3]
    by_cases h4 : x.r.pool < 0
    · have h5 : n.seq = x.r.next - 1 := by omega
      cases he : M.p.event x.r.ring n.seq with
      | none =>
        rw [he] at hev
        rw [if_pos (by rfl)]
        refine FnOk.start Try.func46 rfl rfl rfl rfl fun F os tape output => ?_
        refine go 200 ?_
        conv => whnf
        refine Nx.bind (l := 5) (fun _ => ?_) rfl
        repeat' (first | ((first | refine BrM.yes (by omega) ?_ | refine BrM.not (by omega) ?_ | refine BrM.t rfl ?_ | refine BrM.f rfl ?_ | refine BrM.dec (fun _ => ?_) (fun _ => ?_) | refine BrM.mk (fun _ => ?_) (fun _ => ?_) | refine Ar.i64 (by omega) (by omega) ?_ | refine gO rfl ?_ | refine gP rfl (by repeat constructor) ?_) <;> conv => whnf) | (refine dN 1 [0] [0,5,8,12,16,21,24,28,32,36,41,44,49,52,56,60] rfl (by kernel_rfl) rfl (by kernel_rfl) rfl (by repeat constructor) rfl ?_) | (refine dN 3 [0] [0,4,8,13,16,20,24,29,32,36,40,45,48,52,56,60] rfl (by kernel_rfl) rfl (by kernel_rfl) rfl (by repeat constructor) rfl ?_) | (refine (atDrawnN 5) ?_; refine Nx.drawnF [0] [.pure 0, .pure 1, .pure 2, .pure 3, .held 4, .pure 5, .held 6] (PF.alt 7 true (PF.pre [.pure 8, .pure 9, .pure 10, .ex 11 true, .ex 12 false, .pure 13] PF.nil) (PF.alt 11 true (PF.pre [.ex 7 true, .pure 8, .pure 9, .pure 10, .ex 12 false, .pure 13] PF.nil) PF.nil)) rfl (by kernel_rfl) (by kernel_rfl) rfl (by repeat (first | exact subB.nil _ | refine subB.cons rfl ?_)) rfl ?_) | (refine atFork ?_; first | exact Nx.forkN | refine Nx.forkE ?_ | refine Nx.forkF ?_ ?_) | (refine atAftK ?_; refine Nx.keepN [0] rfl (by repeat constructor) (by repeat constructor) rfl ?_) | (refine atCall 12 ?_; refine cE [0] [0] rfl rfl rfl rfl rfl (hev) rfl ?_) | (refine atHoLoad ?_; first | refine hL1 rfl rfl rfl rfl (SeesAt.sub (by assumption) _ rfl) (by repeat constructor) rfl ?_ | refine hL1 rfl rfl rfl rfl (by assumption) (by repeat constructor) rfl ?_ | refine hLm rfl rfl rfl rfl (by assumption) (by repeat constructor) rfl rfl ?_) | (refine (atCall 37) ?_; refine Nx.call [] [9] rfl rfl rfl rfl rfl ((wrong_ok _ _ 3)) rfl fun v Q hQ => ?_; obtain ⟨b,rfl,rfl⟩ := hQ) | (refine atRet ?_; refine Nx.ret [0,9] Try.func46 rfl rfl ?_; (exact MdQ.yes rfl (by decide))) | refine Nx.late ?_)
      | some e =>
        rw [he] at hev
        rw [if_neg (by simp)]
        obtain ⟨y, hy⟩ : ∃ y : RdH, y = { x with r := { x.r with cursor := n.seq } } := ⟨_, rfl⟩
        have ep : (M.setR k y).p = M.p.setR k fun r => { r with cursor := n.seq } := MdH.setR_p hx (by rw [hy])
        refine FnOk.start Try.func46 rfl rfl rfl rfl fun F os tape output => ?_
        refine go 200 ?_
        conv => whnf
        refine Nx.bind (l := 5) (fun _ => ?_) rfl
        repeat' (first | ((first | refine BrM.yes (by omega) ?_ | refine BrM.not (by omega) ?_ | refine BrM.t rfl ?_ | refine BrM.f rfl ?_ | refine BrM.dec (fun _ => ?_) (fun _ => ?_) | refine BrM.mk (fun _ => ?_) (fun _ => ?_) | refine Ar.i64 (by omega) (by omega) ?_ | refine gO rfl ?_ | refine gP rfl (by repeat constructor) ?_) <;> conv => whnf) | (refine dN 1 [0] [0,5,8,12,16,21,24,28,32,36,41,44,49,52,56,60] rfl (by kernel_rfl) rfl (by kernel_rfl) rfl (by repeat constructor) rfl ?_) | (refine dN 3 [0] [0,4,8,13,16,20,24,29,32,36,40,45,48,52,56,60] rfl (by kernel_rfl) rfl (by kernel_rfl) rfl (by repeat constructor) rfl ?_) | (refine (atDrawnN 5) ?_; refine Nx.drawnF [0] [.pure 0, .pure 1, .pure 2, .pure 3, .held 4, .pure 5, .held 6] (PF.alt 7 true (PF.pre [.pure 8, .pure 9, .pure 10, .ex 11 true, .ex 12 false, .pure 13] PF.nil) (PF.alt 11 true (PF.pre [.ex 7 true, .pure 8, .pure 9, .pure 10, .ex 12 false, .pure 13] PF.nil) PF.nil)) rfl (by kernel_rfl) (by kernel_rfl) rfl (by repeat (first | exact subB.nil _ | refine subB.cons rfl ?_)) rfl ?_) | (refine atFork ?_; first | exact Nx.forkN | refine Nx.forkE ?_ | refine Nx.forkF ?_ ?_) | (refine atAftK ?_; refine Nx.keepN [0] rfl (by repeat constructor) (by repeat constructor) rfl ?_) | (refine atCall 12 ?_; refine cE [0] [0] rfl rfl rfl rfl rfl (hev) rfl ?_) | (refine atHoLoad ?_; first | refine hL1 rfl rfl rfl rfl (SeesAt.sub (by assumption) _ rfl) (by repeat constructor) rfl ?_ | refine hL1 rfl rfl rfl rfl (by assumption) (by repeat constructor) rfl ?_ | refine hLm rfl rfl rfl rfl (by assumption) (by repeat constructor) rfl rfl ?_) | (refine atStore ?_; refine Nx.storeW 0 (M.setR k y).sp rfl rfl rfl rfl rfl rfl rfl rfl rfl (MdH.setR_sp hx (by decide) (by rw [hy]) (by rw [hy]; rfl) (by rw [hy]) (by rw [hy])) ?_) | (refine atRet ?_; refine Nx.ret [0] Try.func46 rfl rfl ?_; (exact MdQ.no (M := M.setR k y) rfl ep)) | refine Nx.late ?_)
    · cases he : M.p.event x.r.ring n.seq with
      | none =>
        rw [he] at hev
        rw [if_pos (by rfl)]
        refine FnOk.start Try.func46 rfl rfl rfl rfl fun F os tape output => ?_
        refine go 200 ?_
        conv => whnf
        refine Nx.bind (l := 5) (fun _ => ?_) rfl
        repeat' (first | ((first | refine BrM.yes (by omega) ?_ | refine BrM.not (by omega) ?_ | refine BrM.t rfl ?_ | refine BrM.f rfl ?_ | refine BrM.dec (fun _ => ?_) (fun _ => ?_) | refine BrM.mk (fun _ => ?_) (fun _ => ?_) | refine Ar.i64 (by omega) (by omega) ?_ | refine gO rfl ?_ | refine gP rfl (by repeat constructor) ?_) <;> conv => whnf) | (refine dN 1 [0] [0,5,8,12,16,21,24,28,32,36,41,44,49,52,56,60] rfl (by kernel_rfl) rfl (by kernel_rfl) rfl (by repeat constructor) rfl ?_) | (refine dN 3 [0] [0,4,8,13,16,20,24,29,32,36,40,45,48,52,56,60] rfl (by kernel_rfl) rfl (by kernel_rfl) rfl (by repeat constructor) rfl ?_) | (refine (atDrawnN 5) ?_; refine Nx.drawnF [0] [.pure 0, .pure 1, .pure 2, .pure 3, .held 4, .pure 5, .held 6] (PF.alt 7 true (PF.pre [.pure 8, .pure 9, .pure 10, .ex 11 true, .ex 12 false, .pure 13] PF.nil) (PF.alt 11 true (PF.pre [.ex 7 true, .pure 8, .pure 9, .pure 10, .ex 12 false, .pure 13] PF.nil) PF.nil)) rfl (by kernel_rfl) (by kernel_rfl) rfl (by repeat (first | exact subB.nil _ | refine subB.cons rfl ?_)) rfl ?_) | (refine atFork ?_; first | exact Nx.forkN | refine Nx.forkE ?_ | refine Nx.forkF ?_ ?_) | (refine atAftK ?_; refine Nx.keepN [0] rfl (by repeat constructor) (by repeat constructor) rfl ?_) | (refine atCall 12 ?_; refine cE [0] [0] rfl rfl rfl rfl rfl (hev) rfl ?_) | (refine atHoLoad ?_; first | refine hL1 rfl rfl rfl rfl (SeesAt.sub (by assumption) _ rfl) (by repeat constructor) rfl ?_ | refine hL1 rfl rfl rfl rfl (by assumption) (by repeat constructor) rfl ?_ | refine hLm rfl rfl rfl rfl (by assumption) (by repeat constructor) rfl rfl ?_) | (refine (atCall 37) ?_; refine Nx.call [] [9] rfl rfl rfl rfl rfl ((wrong_ok _ _ 3)) rfl fun v Q hQ => ?_; obtain ⟨b,rfl,rfl⟩ := hQ) | (refine atRet ?_; refine Nx.ret [0,9] Try.func46 rfl rfl ?_; (exact MdQ.yes rfl (by decide))) | refine Nx.late ?_)
      | some e =>
        rw [he] at hev
        rw [if_neg (by simp)]
        obtain ⟨y, hy⟩ : ∃ y : RdH, y = { x with r := { x.r with cursor := n.seq } } := ⟨_, rfl⟩
        have ep : (M.setR k y).p = M.p.setR k fun r => { r with cursor := n.seq } := MdH.setR_p hx (by rw [hy])
        refine FnOk.start Try.func46 rfl rfl rfl rfl fun F os tape output => ?_
        refine go 200 ?_
        conv => whnf
        refine Nx.bind (l := 5) (fun _ => ?_) rfl
        repeat' (first | ((first | refine BrM.yes (by omega) ?_ | refine BrM.not (by omega) ?_ | refine BrM.t rfl ?_ | refine BrM.f rfl ?_ | refine BrM.dec (fun _ => ?_) (fun _ => ?_) | refine BrM.mk (fun _ => ?_) (fun _ => ?_) | refine Ar.i64 (by omega) (by omega) ?_ | refine gO rfl ?_ | refine gP rfl (by repeat constructor) ?_) <;> conv => whnf) | (refine dN 1 [0] [0,5,8,12,16,21,24,28,32,36,41,44,49,52,56,60] rfl (by kernel_rfl) rfl (by kernel_rfl) rfl (by repeat constructor) rfl ?_) | (refine dN 3 [0] [0,4,8,13,16,20,24,29,32,36,40,45,48,52,56,60] rfl (by kernel_rfl) rfl (by kernel_rfl) rfl (by repeat constructor) rfl ?_) | (refine (atDrawnN 5) ?_; refine Nx.drawnF [0] [.pure 0, .pure 1, .pure 2, .pure 3, .held 4, .pure 5, .held 6] (PF.alt 7 true (PF.pre [.pure 8, .pure 9, .pure 10, .ex 11 true, .ex 12 false, .pure 13] PF.nil) (PF.alt 11 true (PF.pre [.ex 7 true, .pure 8, .pure 9, .pure 10, .ex 12 false, .pure 13] PF.nil) PF.nil)) rfl (by kernel_rfl) (by kernel_rfl) rfl (by repeat (first | exact subB.nil _ | refine subB.cons rfl ?_)) rfl ?_) | (refine atFork ?_; first | exact Nx.forkN | refine Nx.forkE ?_ | refine Nx.forkF ?_ ?_) | (refine atAftK ?_; refine Nx.keepN [0] rfl (by repeat constructor) (by repeat constructor) rfl ?_) | (refine atCall 12 ?_; refine cE [0] [0] rfl rfl rfl rfl rfl (hev) rfl ?_) | (refine atHoLoad ?_; first | refine hL1 rfl rfl rfl rfl (SeesAt.sub (by assumption) _ rfl) (by repeat constructor) rfl ?_ | refine hL1 rfl rfl rfl rfl (by assumption) (by repeat constructor) rfl ?_ | refine hLm rfl rfl rfl rfl (by assumption) (by repeat constructor) rfl rfl ?_) | (refine atStore ?_; refine Nx.storeW 0 (M.setR k y).sp rfl rfl rfl rfl rfl rfl rfl rfl rfl (MdH.setR_sp hx (by decide) (by rw [hy]) (by rw [hy]; rfl) (by rw [hy]) (by rw [hy])) ?_) | (refine atRet ?_; refine Nx.ret [0] Try.func46 rfl rfl ?_; (exact MdQ.no (M := M.setR k y) rfl ep)) | refine Nx.late ?_)
  · rw [if_pos (.inl h1)]
    refine FnOk.start Try.func46 rfl rfl rfl rfl fun F os tape output => ?_
    refine go 200 ?_
    conv => whnf
    refine Nx.bind (l := 5) (fun _ => ?_) rfl
    repeat' (first | ((first | refine BrM.yes (by omega) ?_ | refine BrM.not (by omega) ?_ | refine BrM.t rfl ?_ | refine BrM.f rfl ?_ | refine BrM.dec (fun _ => ?_) (fun _ => ?_) | refine BrM.mk (fun _ => ?_) (fun _ => ?_) | refine Ar.i64 (by omega) (by omega) ?_ | refine gO rfl ?_ | refine gP rfl (by repeat constructor) ?_) <;> conv => whnf) | (refine dN 1 [0] [0,5,8,12,16,21,24,28,32,36,41,44,49,52,56,60] rfl (by kernel_rfl) rfl (by kernel_rfl) rfl (by repeat constructor) rfl ?_) | (refine atHoLoad ?_; first | refine hL1 rfl rfl rfl rfl (SeesAt.sub (by assumption) _ rfl) (by repeat constructor) rfl ?_ | refine hL1 rfl rfl rfl rfl (by assumption) (by repeat constructor) rfl ?_ | refine hLm rfl rfl rfl rfl (by assumption) (by repeat constructor) rfl rfl ?_) | (refine (atCall 37) ?_; refine Nx.call [] [9] rfl rfl rfl rfl rfl ((wrong_ok _ _ 1)) rfl fun v Q hQ => ?_; obtain ⟨b,rfl,rfl⟩ := hQ) | (refine atRet ?_; refine Nx.ret [0,9] Try.func46 rfl rfl ?_; (exact MdQ.yes rfl (by decide))) | refine Nx.late ?_)
end Go.Proofs.Ytngfadijcpnblaa

/- Rules: the exact address of an element of a slice of the call's own; a store of two cells. -/
namespace Go.Proofs.Ytngfadijcpnblaa
open Go.RowKit
section
variable {g : Cx} {β : Nat → Nat} {env : Env} {mem : Mem} {bnd : Bnd} {L : Res} {a : Act} {w : World} {N : Act → World → Prop} {Q : Exit → Act → World → Prop}
/-- A look that reckons the address of an element of a slice of the call's own. -/
theorem Nx.hoIdxT (nm : Nat) {o : Oper} {t e e2 : TypeId} {x i : Operand} {A : Option Addr} {n c : Nat} {kk : IntKind} {iv : Int} {L' : Res} {sz j by_ : Nat} {cells : List Value} {T : World → Prop}
    (ho : o.op = .indexAddr t x i) (hx : ev env x = some (.c (.v (.slice A n c)))) (hi : ev env i = some (.c (.v (.int kk iv)))) (ht : g.P.underlying t = some (.slice e)) (he : elemI g.P e = some (sz, by_)) (hd : dstOk g.n o.dst = true)
    (hp : takeR nm L = some (ownT e2 A n c sz cells, L')) (hj : iv = j) (hlt : j < n)
    (hk : ∀ b p, A = some ⟨b, p, none⟩ → Nx g (putE o.dst (.c (.v (.pointer (some ⟨b, p + j * sz, none⟩)))) env) mem bnd L N) : Nx g env mem bnd L (HoC g T o N) := by
  subst hj
  intro β a w hr
  obtain ⟨ei, zz, hei, hz, hzs, hpos, hez, hby⟩ := elemI_ok he
  obtain ⟨r, h, x1, x2, x3, r1, h1', h2', y1, y2, y3, y4, ⟨q1, q2, q3, q4⟩, y6⟩ := hr.picked (takeR_pick hp)
  rcases q4 with ⟨q4, _⟩ | ⟨b, p, cur, hA, _, _, _⟩
  · omega
  subst hA
  refine ⟨.pointer (some ⟨b, p + j * sz, none⟩), fun w' _ => ?_, hk b p rfl β _ w (hr.put o.dst (.c (.v (.pointer (some ⟨b, p + j * sz, none⟩)))) hd)⟩
  have e1 : a.eval x = .slice (some ⟨b, p, none⟩) n c := hr.ev hx
  have e2 : a.eval i = .int kk j := hr.ev hi
  have e3 : (j : Int) < n := by omega
  simp [execOp, ho, e1, e2, Instr.indexAt, asIntOf, run_underlying ht, sizeOf, typeInfo, hei, hez, add_plain']
  intro hbad
  omega
/-- A store of two cells. -/
theorem Nx.storeW2 (nm : Nat) {S S1 : SP} (S' : SP) {o : Oper} {t : TypeId} {x z : Operand} {b q : Nat} {L' : Res} {s : SV} {y1 y2 : Value} {cs : List Ce}
    (ho : o.op = .store t x z) (hx : ev env x = some (.c (.v (.pointer (some ⟨b, q, none⟩))))) (hz : ev env z = some s) (hcs : cellsS s = some cs) (hv : cesV bnd cs = some [y1, y2]) (ht : (g.P.info? t).map (·.size) = some 2)
    (hone1 : y1.oneCell' = true) (hone2 : y2.oneCell' = true) (hd : dstOk g.n o.dst = true) (hp : takeR nm L = some (S, L')) (hs1 : SetAt S b q y1 S1) (hs2 : SetAt S1 b (q + 1) y2 S')
    (hk : Nx g (putE o.dst (.c (.v undef)) env) mem bnd ((nm, S') :: L') N) : Nx g env mem bnd L (OneC g o N Q) := by
  intro β a w hr
  obtain ⟨⟨cs1, tt, hb, hlt⟩, hsat1⟩ := (hr.picked (takeR_pick hp)).setAt hs1
  obtain ⟨⟨cs2, tt2, hb2, hlt2⟩, hsat⟩ := SatW.setAt hsat1 hs2
  have hcs2 : cs2 = cs1.setIfInBounds q y1 ∧ tt2 = tt := by
    have : (w.setCell ⟨b, q, none⟩ y1).heap[b]? = some (.cells (cs1.setIfInBounds q y1) tt (0, 0)) := by
      unfold World.setCell
      simp [Array.getElem?_modify, hb]
    rw [this] at hb2
    simp only [Option.some.injEq, Obj.cells.injEq] at hb2
    exact ⟨hb2.1.symm, hb2.2.1.symm⟩
  obtain ⟨rfl, rfl⟩ := hcs2
  have hlt2' : q + 1 < cs1.size := by simpa using hlt2
  obtain ⟨i, hi, hsz⟩ : ∃ i, g.P.info? t = some i ∧ i.size = 2 := by
    cases hi : g.P.info? t with
    | none => rw [hi] at ht; cases ht
    | some i => rw [hi] at ht; exact ⟨i, rfl, by simpa using ht⟩
  have hcells : (s.den β).cells = #[y1, y2] := by
    rw [cellsS_den hcs β]
    unfold cellsOf
    rw [cesV_den hr.bnd hv]
  have e1 : a.eval x = .pointer (some ⟨b, q, none⟩) := hr.ev hx
  have e2 : a.eval z = s.den β := hr.ev hz
  have hst := run_storeCells_cells (P := g.P) b q [y1, y2] 0 w (fun j hj => by
    have hj2 : j < 2 := hj
    have : q + 0 + j < cs1.size := by omega
    unfold World.cell?
    simp only
    rw [hb]
    simp only [if_true]
    rw [Array.getElem?_eq_getElem this]
    rfl) (fun j hj => by
    unfold World.frozen?
    simp only
    rw [hb]
    simp) (fun v hv => by
    simp only [List.mem_cons, List.mem_nil_iff, or_false] at hv
    rcases hv with rfl | rfl
    · exact hone1
    · exact hone2)
  have hrun : (storeCells ⟨b, q, none⟩ [y1, y2]).run g.P w = .ok () ((w.setCell ⟨b, q, none⟩ y1).setCell ⟨b, q + 1, none⟩ y2) := by
    simpa [storeCells, World.setCells] using hst
  have h5 : SatW ([S'] ++ (memSP β mem ++ (L'.map (·.2) ++ g.F))) ((w.setCell ⟨b, q, none⟩ y1).setCell ⟨b, q + 1, none⟩ y2) := hsat
  refine wp_skip' (w' := (w.setCell ⟨b, q, none⟩ y1).setCell ⟨b, q + 1, none⟩ y2) ?_ (hk β _ _ ((hr.unpicked (ns := [nm]) (Ps := [_]) h5 rfl rfl rfl).put o.dst (.c (.v undef)) hd))
  have e3 : (s.den β).cells.size = i.size := by rw [hcells, hsz]; rfl
  have e4 : (s.den β).cells.toList = [y1, y2] := by rw [hcells]
  simp [execOp, ho, e1, e2, Instr.storeAt, Instr.sureAddr, storeVar, sizeOf, typeInfo, hi, e3, e4, hrun]
/-- A slice of the call's own whose block's number is known. -/
theorem Nx.realS (s : Nat) {l o n c b : Nat} (hl : look env s = some (.c (.locs l o n c))) (hb : lookB bnd l = some b) (h : Nx g ((s, .c (.v (.slice (some ⟨b, o, none⟩) n c))) :: env) mem bnd L N) : Nx g env mem bnd L N := by
  intro β a w hr
  refine h β a w ⟨hr.defers, hr.size, fun k x hx => ?_, hr.bnd, hr.os, hr.tape, hr.output, hr.sat⟩
  rw [look_cons] at hx
  split at hx
  · rename_i e
    subst e
    cases hx
    have := hr.env _ _ hl
    rw [this]
    simp only [SV.den, Ce.den, hr.bnd l b hb]
  · exact hr.env k x hx
end
theorem own_blk {e : TypeId} {b : Nat} {cells : List Value} (h : cells.length ≤ maxLen) : ∀ r m, blk b (.cells cells.toArray e (0, 0)) r m → ownS e (some ⟨b, 0, none⟩) cells.length cells.length 1 cells r m := by
  intro r m hb
  refine ⟨by simp, .inr ⟨_, _, rfl, hb, Nat.le_refl _, h, by simp, by rw [Nat.mul_one]; exact List.take_of_length_le (by simp)⟩⟩
end Go.Proofs.Ytngfadijcpnblaa

/- The program's model: put. -/
namespace Go.Proofs.Ytngfadijcpnblaa
open Go.RowKit
set_option maxRecDepth 20000
set_option maxHeartbeats 4000000
theorem evC_set : ∀ (l : List Ev) (i : Nat) (e : Ev), ((l.flatMap evC).set (i * 2) (.int .i64 e.key)).set (i * 2 + 1) (.int .i64 e.val) = if i < l.length then (l.set i e).flatMap evC else l.flatMap evC
  | [], i, e => by simp
  | a :: l, 0, e => by simp [evC]
  | a :: l, i + 1, e => by
    have h := evC_set l i e
    have e1 : (i + 1) * 2 = i * 2 + 2 := by omega
    have e2 : (a :: l).flatMap evC = Value.int .i64 a.key :: Value.int .i64 a.val :: l.flatMap evC := rfl
    rw [e1, e2]
    have e3 : i * 2 + 2 + 1 = (i * 2 + 1) + 2 := by omega
    rw [e3]
    simp only [List.set_cons_succ, h]
    by_cases hi : i < l.length
    · rw [if_pos hi, if_pos (by simpa using hi)]; rfl
    · rw [if_neg hi, if_neg (by simpa using hi)]
theorem boC_set : ∀ (l : List Bool) (i : Nat) (b : Bool), (l.flatMap boC).set (i * 1) (.bool b) = (l.set i b).flatMap boC
  | [], i, e => by simp
  | a :: l, 0, e => by simp [boC]
  | a :: l, i + 1, e => by
    have h := boC_set l i e
    rw [Nat.mul_one] at h ⊢
    have e2 : (a :: l).flatMap boC = Value.bool a :: l.flatMap boC := rfl
    rw [e2]
    simp only [List.set_cons_succ, h]
    rfl
structure PutX where
  X : LogH
  j : Nat
attribute [local irreducible] Nx Ar BrM headC OneC HoC AftC planHead endF
theorem put_ok (x : LogH) (hl : x.g.there.length = x.g.l.length) (h2m : x.g.l.length ≤ 2100000) (i : Nat) (hi : i ≤ 2100000) (e : Ev) :
    FnOk Try.prog 67 [ptr x.b, .int .i64 i, .agg #[.int .i64 e.key, .int .i64 e.val]] [x.sp] (fun _ Q => ∃ x' : LogH, x'.b = x.b ∧ x'.g = x.g.put i e ∧ Q = [x'.sp]) := by
  refine FnOk.start Try.func67 rfl rfl rfl rfl fun F os tape output => ?_
  refine go 200 ?_
  conv => whnf
  refine Nx.bind (l := 5) (fun b5 => ?_) rfl
  refine Nx.turn [0] [11, 12, 13] [blk x.b (.cells x.cells.toArray 90 (0, 0)), ownT 39 x.lA x.g.l.length x.lc 2 (x.g.l.flatMap evC), ownT 4 x.tA x.g.there.length x.tc 1 (x.g.there.flatMap boC)] rfl sat_unstar ?_
  refine Nx.loop (X := PutX) (fun z => z.j ≤ i + 1 - x.g.l.length ∧ z.X.b = x.b ∧ z.X.g = ⟨x.g.size, x.g.many, x.g.l ++ List.replicate z.j ⟨0, 0⟩, x.g.there ++ List.replicate z.j false⟩) (fun z => i + 1 - x.g.l.length - z.j)
    (fun z => [(0, .c (.v (ptr x.b))), (1, iv i), (5, .c (.loc 5 0))]) (fun _ => [(5, 39, [.v (.int .i64 e.key), .v (.int .i64 e.val)])]) [(5, b5)]
    (fun z => [(11, blk x.b (.cells z.X.cells.toArray 90 (0, 0))), (12, ownT 39 z.X.lA z.X.g.l.length z.X.lc 2 (z.X.g.l.flatMap evC)), (13, ownT 4 z.X.tA z.X.g.there.length z.X.tc 1 (z.X.g.there.flatMap boC))]) ⟨x, 0⟩ ⟨Nat.zero_le _, rfl, by simp⟩ ?_ ?_ ?_ ?_ ?_
  all_goals repeat (first | exact .nil _ | refine .cons rfl ?_ | refine .cons rfl rfl ?_ | refine .cons rfl rfl rfl ?_ | refine .cons' rfl (fun _ => rfl) ?_)
  intro ⟨X, j⟩ ⟨hj, hb, hg⟩ ih
  dsimp only at hj hb hg ih ⊢
  have gl : X.g.l.length = x.g.l.length + j := by rw [hg]; simp
  have gt : X.g.there.length = X.g.l.length := by rw [hg]; simp [hl]
  have hB : SeesAt (blk x.b (.cells X.cells.toArray 90 (0, 0))) x.b 0 X.cells := blk_at _ _ _
  have b2 := hB.sub 2 rfl
  have b3 := hB.sub 3 rfl
  clear hB
  by_cases hlt : X.g.l.length ≤ i
  · repeat' (first | ((first | refine BrM.yes (by omega) ?_ | refine BrM.t rfl ?_ | refine BrM.f rfl ?_ | refine BrM.dec (fun _ => ?_) (fun _ => ?_) | refine BrM.mk (fun _ => ?_) (fun _ => ?_) | refine Ar.i64 (by omega) (by omega) ?_ | refine gO rfl ?_ | refine gP rfl (by repeat constructor) ?_) <;> conv => whnf) | (refine atLoad ?_; refine Nx.load1 11 rfl rfl rfl rfl (b2) rfl ?_) | (refine (atDrawnN 2) ?_; refine Nx.drawnF [11] [.pure 0, .pure 1, .pure 2, .pure 3, .pure 4, .held 5, .pure 6, .pure 9, .pure 10, .pure 11, .held 12] (PF.alt 7 true (PF.pre [] (PF.alt 8 true (PF.pre [.ex 13 true, .ex 14 true, .pure 15, .pure 16, .ex 17 false, .pure 18, .pure 19, .ex 20 false] PF.nil) (PF.alt 13 true (PF.pre [.ex 8 true, .ex 14 true, .pure 15, .pure 16, .ex 17 false, .pure 18, .pure 19, .ex 20 false] PF.nil) PF.nil))) (PF.alt 13 true (PF.pre [.ex 7 true, .ex 8 true, .ex 14 true, .pure 15, .pure 16, .ex 17 false, .pure 18, .pure 19, .ex 20 false] PF.nil) PF.nil)) rfl (by kernel_rfl) (by kernel_rfl) rfl (by repeat (first | exact subB.nil _ | refine subB.cons rfl ?_)) rfl ?_) | (refine atHoLoad ?_; first | refine hL1 rfl rfl rfl rfl (SeesAt.sub (by assumption) _ rfl) (by repeat constructor) rfl ?_ | refine hL1 rfl rfl rfl rfl (by assumption) (by repeat constructor) rfl ?_ | refine hLm rfl rfl rfl rfl (by assumption) (by repeat constructor) rfl rfl ?_) | (refine atFork ?_; first | exact Nx.forkN | refine Nx.forkE ?_ | refine Nx.forkF ?_ ?_) | (refine atAftK ?_; refine Nx.keepN [11] rfl (by repeat constructor) (by repeat constructor) rfl ?_) | (refine atApp ?_; refine Nx.appendT 12 (sz := 2) (by_ := 16) (news := [.int .i64 0, .int .i64 0]) rfl rfl rfl rfl rfl Try.underlying36 rfl rfl rfl rfl rfl (by decide) (by unfold maxLen; omega) (by omega) fun Bl bl => ?_) | (refine atApp ?_; refine Nx.appendT 13 (sz := 1) (by_ := 1) (news := [.bool false]) rfl rfl rfl rfl rfl Try.underlying88 rfl rfl rfl rfl rfl (by decide) (by unfold maxLen; omega) (by omega) fun Bt bt => ?_) | (refine atStore ?_; refine Nx.storeW 11 _ rfl rfl rfl rfl rfl rfl rfl rfl rfl (blk_set (by first | (show 2 < 4; decide) | (show 3 < 4; decide))) ?_) | refine Nx.late ?_)
    all_goals
      obtain ⟨Y, hY⟩ : ∃ Y : LogH, Y = ⟨X.b, ⟨X.g.size, X.g.many, X.g.l ++ [⟨0, 0⟩], X.g.there ++ [false]⟩, Bl, bl, Bt, bt⟩ := ⟨_, rfl⟩
      refine Nx.turn [11, 12, 13] [11, 12, 13] [blk x.b (.cells Y.cells.toArray 90 (0, 0)), ownT 39 Y.lA Y.g.l.length Y.lc 2 (Y.g.l.flatMap evC), ownT 4 Y.tA Y.g.there.length Y.tc 1 (Y.g.there.flatMap boC)] rfl (fun r h hs => by
        rw [hY]
        simp only [LogH.cells, List.flatMap_append, List.flatMap_cons, List.flatMap_nil, List.length_append, List.length_singleton, List.append_nil]
        exact hs) ?_
      refine (ih ⟨Y, j + 1⟩ ⟨by dsimp only; omega, by rw [hY]; exact hb, by rw [hY]; dsimp only; rw [hg]; simp only [List.replicate_succ', List.append_assoc]⟩ (by dsimp only; omega)).weak ?_ ?_ ?_ ?_
      all_goals repeat (first | exact .nil _ | refine .cons rfl ?_ | refine .cons rfl rfl ?_ | refine .cons rfl rfl rfl ?_ | refine .cons' rfl (fun _ => rfl) ?_)
  · have ej : j = i + 1 - x.g.l.length := by omega
    have hin : i < X.g.l.length := by omega
    repeat' (first | ((first | refine BrM.not (by omega) ?_ | refine BrM.t rfl ?_ | refine BrM.f rfl ?_ | refine BrM.dec (fun _ => ?_) (fun _ => ?_) | refine BrM.mk (fun _ => ?_) (fun _ => ?_) | refine Ar.i64 (by omega) (by omega) ?_ | refine gO rfl ?_ | refine gP rfl (by repeat constructor) ?_) <;> conv => whnf) | (refine atLoad ?_; refine Nx.load1 11 rfl rfl rfl rfl (b2) rfl ?_) | (refine dN 3 [11] [0,4,8,13,16,20,24,28,33,36,41,44,51,52,59] rfl (by kernel_rfl) rfl (by kernel_rfl) rfl (by repeat constructor) rfl ?_) | (refine atHoLoad ?_; first | refine hL1 rfl rfl rfl rfl (SeesAt.sub (by assumption) _ rfl) (by repeat constructor) rfl ?_ | refine hL1 rfl rfl rfl rfl (by assumption) (by repeat constructor) rfl ?_ | refine hLm rfl rfl rfl rfl (by assumption) (by repeat constructor) rfl rfl ?_) | (refine atHoIdx ?_; refine Nx.hoIdxT 12 (j := i) rfl rfl rfl Try.underlying36 rfl rfl rfl rfl hin fun Bl pl hBl => ?_) | (refine atHoIdx ?_; refine Nx.hoIdxT 13 (j := i) rfl rfl rfl Try.underlying88 rfl rfl rfl rfl (by omega) fun Bt pt hBt => ?_) | (refine atStore ?_; refine Nx.storeW2 12 (S1 := ownT 39 X.lA X.g.l.length X.lc 2 ((X.g.l.flatMap evC).set (i * 2) (.int .i64 e.key))) (ownT 39 X.lA X.g.l.length X.lc 2 (((X.g.l.flatMap evC).set (i * 2) (.int .i64 e.key)).set (i * 2 + 1) (.int .i64 e.val))) rfl rfl rfl rfl rfl rfl rfl rfl rfl rfl (by rw [hBl]; exact ownT_set (j := i * 2) (by omega)) (by rw [hBl]; exact ownT_set (j := i * 2 + 1) (by omega)) ?_) | (refine atStore ?_; refine Nx.storeW 13 (ownT 4 X.tA X.g.there.length X.tc 1 ((X.g.there.flatMap boC).set (i * 1) (.bool true))) rfl rfl rfl rfl rfl rfl rfl rfl rfl (by rw [hBt]; exact ownT_set (j := i * 1) (by omega)) ?_) | refine Nx.late ?_)
    obtain ⟨Y, hY⟩ : ∃ Y : LogH, Y = ⟨X.b, ⟨X.g.size, X.g.many, X.g.l.set i e, X.g.there.set i true⟩, X.lA, X.lc, X.tA, X.tc⟩ := ⟨_, rfl⟩
    refine Nx.turn [11, 12, 13] [0] [Y.sp] rfl (fun r h hs => by
      refine sat_restar ?_
      rw [evC_set, if_pos hin, boC_set] at hs
      have eb : Y.b = x.b := by rw [hY]; exact hb
      rw [eb, hY]
      simp only [LogH.cells, List.length_set]
      exact hs) ?_
    have eg : Y.g = x.g.put i e := by
      rw [hY]
      unfold LogP.put
      dsimp only
      rw [hg, ej]
    have eb : Y.b = x.b := by rw [hY]; exact hb
    repeat' (first | ((first | refine BrM.t rfl ?_ | refine BrM.f rfl ?_ | refine BrM.dec (fun _ => ?_) (fun _ => ?_) | refine BrM.mk (fun _ => ?_) (fun _ => ?_) | refine Ar.i64 (by omega) (by omega) ?_ | refine gO rfl ?_ | refine gP rfl (by repeat constructor) ?_) <;> conv => whnf) | (refine atEnd ?_; refine Nx.done [0] rfl rfl rfl ?_; (exact ⟨Y, eb, eg, rfl⟩)) | refine Nx.late ?_)
end Go.Proofs.Ytngfadijcpnblaa

/- The program's model: handles. -/
namespace Go.Proofs.Ytngfadijcpnblaa
open Go.RowKit
set_option maxRecDepth 20000
set_option maxHeartbeats 4000000
theorem partM {t : TypeId} {cs : Array Value} {o n : Nat} {w : World} (ht : aggOf Try.prog t = .many n) : (part t cs o).run Try.prog w = .ok (.agg (cs.extract o (o + n))) w := by
  obtain ⟨h1, h2⟩ := aggOf_many ht w
  simp [part, h1, h2]
theorem part1 {t : TypeId} {cs : Array Value} {o : Nat} {v : Value} {w : World} (ht : aggOf Try.prog t = .one) (hv : cs[o]? = some v) : (part t cs o).run Try.prog w = .ok v w := by
  simp [part, aggOf_one ht, hv]
theorem eqI64 (d : Nat) (t : TypeId) (w : World) (a b : Int) (ht : Try.prog.underlying t = some (.int .i64)) : (Op.equalIn (d + 1) t (.int .i64 a) (.int .i64 b)).run Try.prog w = .ok (a == b) w := run_equalIn_int w d t .i64 .i64 a b ht
theorem eq39d (d : Nat) (x y : Ev) (w : World) : (Op.equalIn (d + 2) 39 (.agg (evC x).toArray) (.agg (evC y).toArray)).run Try.prog w = .ok (decide (x = y)) w := by
  rw [run_equalIn_agg w (d + 1) 39 _ _ rfl (by kernel_rfl)]
  have hf : (Try.prog.fieldsOf 39).toList = [{ name := "Key", type := 2, offset := 0, embedded := false, tag := "", pkgPath := "", byteOffset := 0 }, { name := "Val", type := 2, offset := 1, embedded := false, tag := "", pkgPath := "", byteOffset := 8 }] := rfl
  rw [hf]
  have p : ∀ (s : Ev) (j : Nat) (v : Value), (evC s)[j]? = some v → (part 2 (evC s).toArray j).run Try.prog w = .ok v w := fun s j v hv => part1 rfl (by simpa using hv)
  simp only [Op.eqFields, Sem.run_bind, Sem.run_ite, p x 0 _ rfl, p y 0 _ rfl, p x 1 _ rfl, p y 1 _ rfl, Result.andThen_ok, eqI64 d 2 w _ _ Try.underlying2, Sem.run_pure]
  obtain ⟨a, b⟩ := x
  obtain ⟨c, e⟩ := y
  by_cases h1 : a = c <;> by_cases h2 : b = e <;> simp [h1, h2]
theorem eq39 (x y : Ev) (w : World) : (Op.equalIn 10000 39 (.agg (evC x).toArray) (.agg (evC y).toArray)).run Try.prog w = .ok (decide (x = y)) w := eq39d 9998 x y w
end Go.Proofs.Ytngfadijcpnblaa

/- The program's model: handles. -/
namespace Go.Proofs.Ytngfadijcpnblaa
open Go.RowKit
set_option maxRecDepth 20000
set_option maxHeartbeats 4000000
theorem event_bound {M : MdH} (hm : MdW M.p) {r i : Int} {e : Ev} (h : M.p.event r i = some e) : 0 ≤ i ∧ i < 2000000 := by
  unfold MdP.event at h
  split at h
  · cases h
  split at h
  · cases h
  rename_i g hg
  split at h
  · rename_i hp
    have h1 := hm.gl g (List.mem_of_getElem? hg)
    have := pub_lt h1.1 hp
    have h0 : 0 ≤ i := by
      unfold LogP.pub at hp
      simp only [Bool.and_eq_true, decide_eq_true_eq] at hp
      exact hp.1
    omega
  · cases h
theorem MdH.setP_p {M : MdH} {k : Nat} {x y : PlH} {f : PlP → PlP} (hk : M.pools[k]? = some x) (h : y.p = f x.p) : (M.setP k y).p = { M.p with pools := M.p.pools.modify k f } := by
  have := map_set_modify (f := PlH.p) (u := f) hk h
  simp only [MdH.setP, MdH.p, this]
structure PlX where
  X : PlH
  j : Nat
attribute [local irreducible] Nx Ar BrM headC OneC HoC AftC planHead endF
theorem handles_ok (M : MdH) (hm : MdW M.p) {k : Nat} {x : RdH} (hx : M.readers[k]? = some x) (n : Nt) : FnOk Try.prog 45 [ptr M.b, ptr x.b, n.v] [M.sp] (MdQ M.b (M.p.handles k x.r n)) := by
  have hxm := List.mem_of_getElem? hx
  have hxp := List.mem_map_of_mem (f := RdH.r) hxm
  have hr := MdH.rat (M := M) hxm
  have hb := hm.rb x.r hxp
  have hA := MdH.rah (M := M) hxm
  have hal := hm.ral x.r hxp
  have hPl := M.seeP
  have hnp := hm.np
  simp only [MdH.p, List.length_map] at hnp
  have r1 := hr.sub 1 rfl
  have r2 := hr.sub 2 rfl
  have r5 := hr.sub 5 rfl
  have r6 := hr.sub 6 rfl
  have m3 := M.seeM.sub 3 rfl
  have hev := Event_ok M hm x.r.ring n.seq
  unfold MdP.handles
  unfold Nt.v
  cases he : M.p.event x.r.ring n.seq with
  | none =>
    rw [he] at hev
    dsimp only
    refine FnOk.start Try.func45 rfl rfl rfl rfl fun F os tape output => ?_
    refine go 200 ?_
    conv => whnf
    refine Nx.bind (l := 5) (fun b5 => ?_) rfl
    repeat' (first | ((first | refine BrM.t rfl ?_ | refine BrM.f rfl ?_ | refine BrM.dec (fun _ => ?_) (fun _ => ?_) | refine BrM.mk (fun _ => ?_) (fun _ => ?_) | refine Ar.i64 (by omega) (by omega) ?_ | refine gO rfl ?_ | refine gP rfl (by repeat constructor) ?_) <;> conv => whnf) | (refine (atDrawnN 1) ?_; refine Nx.drawnF [0] [.pure 0, .pure 1, .pure 2, .pure 3, .held 4, .pure 5, .held 6] (PF.alt 7 true (PF.pre [.pure 8, .pure 9, .pure 10, .ex 11 true, .ex 12 false, .pure 13] PF.nil) (PF.alt 11 true (PF.pre [.ex 7 true, .pure 8, .pure 9, .pure 10, .ex 12 false, .pure 13] PF.nil) PF.nil)) rfl (by kernel_rfl) (by kernel_rfl) rfl (by repeat (first | exact subB.nil _ | refine subB.cons rfl ?_)) rfl ?_) | (refine atFork ?_; first | exact Nx.forkN | refine Nx.forkE ?_ | refine Nx.forkF ?_ ?_) | (refine atAftK ?_; refine Nx.keepN [0] rfl (by repeat constructor) (by repeat constructor) rfl ?_) | (refine atCall 12 ?_; refine cE [0] [0] rfl rfl rfl rfl rfl (hev) rfl ?_) | (refine atHoLoad ?_; first | refine hL1 rfl rfl rfl rfl (SeesAt.sub (by assumption) _ rfl) (by repeat constructor) rfl ?_ | refine hL1 rfl rfl rfl rfl (by assumption) (by repeat constructor) rfl ?_ | refine hLm rfl rfl rfl rfl (by assumption) (by repeat constructor) rfl rfl ?_) | (refine (atCall 37) ?_; refine Nx.call [] [9] rfl rfl rfl rfl rfl ((wrong_ok _ _ 3)) rfl fun v Q hQ => ?_; obtain ⟨b,rfl,rfl⟩ := hQ) | (refine atRet ?_; refine Nx.ret [0,9] Try.func45 rfl rfl ?_; (exact MdQ.yes rfl (by decide))) | refine Nx.late ?_)
  | some e =>
  rw [he] at hev
  dsimp only
  obtain ⟨hs0, hs1⟩ := event_bound hm he
  refine FnOk.start Try.func45 rfl rfl rfl rfl fun F os tape output => ?_
  refine go 200 ?_
  conv => whnf
  refine Nx.bind (l := 5) (fun b5 => ?_) rfl
  refine Nx.joinR (E := [(0, .c (.v (ptr M.b))), (1, .c (.v (ptr x.b))), (5, .c (.loc 5 0)), (6, .c (.v .nilIface)), (7, .c (.loc 7 0)), (8, bv true)]) (M := [(7, 39, [.v (.int .i64 e.key), .v (.int .i64 e.val)]), (5, 42, [.v (.int .i64 n.who), .v (.int .i64 n.ring), .v (.int .i64 n.deed), .v (.int .i64 n.lo), .v (.int .i64 n.seq), .v (.int .i64 n.x.key), .v (.int .i64 n.x.val), .v (.int .i64 n.code)])]) (B := [(5, b5)]) (R := [(0, M.sp)]) (fun K => ?_) ?_
  · repeat' (first | (with_reducible refine Nx.weak K ?_ ?_ ?_ ?_) <;> (first | ((repeat (first | exact .nil _ | refine .cons rfl ?_ | refine .cons rfl rfl ?_ | refine .cons rfl rfl rfl ?_ | refine .cons' rfl (fun _ => rfl) ?_)); done) | omega | (dsimp only; omega) | (repeat (first | exact subE.nil _ | refine subE.cons rfl rfl ?_ | refine subE.cons' rfl (fun _ => rfl) ?_ | (refine subE.cons rfl ?_ ?_; · (simp; done))); done) | skip) | ((first | refine BrM.t rfl ?_ | refine BrM.f rfl ?_ | refine BrM.dec (fun _ => ?_) (fun _ => ?_) | refine BrM.mk (fun _ => ?_) (fun _ => ?_) | refine Ar.i64 (by omega) (by omega) ?_ | refine gR rfl ?_ | refine gP rfl (by repeat constructor) ?_) <;> conv => whnf) | (refine (atDrawnN 1) ?_; refine Nx.drawnF [0] [.pure 0, .pure 1, .pure 2, .pure 3, .held 4, .pure 5, .held 6] (PF.alt 7 true (PF.pre [.pure 8, .pure 9, .pure 10, .ex 11 true, .ex 12 false, .pure 13] PF.nil) (PF.alt 11 true (PF.pre [.ex 7 true, .pure 8, .pure 9, .pure 10, .ex 12 false, .pure 13] PF.nil) PF.nil)) rfl (by kernel_rfl) (by kernel_rfl) rfl (by repeat (first | exact subB.nil _ | refine subB.cons rfl ?_)) rfl ?_) | (refine atFork ?_; first | exact Nx.forkN | refine Nx.forkE ?_ | refine Nx.forkF ?_ ?_) | (refine atAftK ?_; refine Nx.keepN [0] rfl (by repeat constructor) (by repeat constructor) rfl ?_) | (refine atCall 12 ?_; refine cE [0] [0] rfl rfl rfl rfl rfl (hev) rfl ?_) | (refine atHoLoad ?_; first | refine hL1 rfl rfl rfl rfl (SeesAt.sub (by assumption) _ rfl) (by repeat constructor) rfl ?_ | refine hL1 rfl rfl rfl rfl (by assumption) (by repeat constructor) rfl ?_ | refine hLm rfl rfl rfl rfl (by assumption) (by repeat constructor) rfl rfl ?_) | refine Nx.late ?_)
  by_cases h1 : n.lo ≠ n.seq
  · rw [if_pos h1]
    repeat' (first | ((first | refine BrM.yes (by omega) ?_ | refine BrM.not (by omega) ?_ | refine BrM.t rfl ?_ | refine BrM.f rfl ?_ | refine BrM.dec (fun _ => ?_) (fun _ => ?_) | refine BrM.mk (fun _ => ?_) (fun _ => ?_) | refine Ar.i64 (by omega) (by omega) ?_ | refine gO rfl ?_ | refine gP rfl (by repeat constructor) ?_) <;> conv => whnf) | (refine (atCall 37) ?_; refine Nx.call [] [9] rfl rfl rfl rfl rfl ((wrong_ok _ _ 3)) rfl fun v Q hQ => ?_; obtain ⟨b,rfl,rfl⟩ := hQ) | (refine atRet ?_; refine Nx.ret [0,9] Try.func45 rfl rfl ?_; (exact MdQ.yes rfl (by decide))) | refine Nx.late ?_)
  rw [if_neg (by omega)]
  by_cases h2 : e ≠ n.x
  · rw [if_pos h2]
    have hbt : (if BinOp.neq = BinOp.eql then decide (e = n.x) else !decide (e = n.x)) = true := by simp [h2]
    repeat' (first | (refine atBr ?_; refine BrM.t (hbt) ?_; conv => whnf) | ((first | refine BrM.not (by omega) ?_ | refine BrM.t rfl ?_ | refine BrM.f rfl ?_ | refine BrM.dec (fun _ => ?_) (fun _ => ?_) | refine BrM.mk (fun _ => ?_) (fun _ => ?_) | refine Ar.i64 (by omega) (by omega) ?_ | refine gO rfl ?_ | refine gP rfl (by repeat constructor) ?_) <;> conv => whnf) | (refine atOne ?_; refine Nx.eqS rfl (.inr rfl) rfl rfl rfl rfl (by kernel_rfl) (eq39 e n.x) rfl ?_) | (refine (atCall 37) ?_; refine Nx.call [] [9] rfl rfl rfl rfl rfl ((wrong_ok _ _ 6)) rfl fun v Q hQ => ?_; obtain ⟨b,rfl,rfl⟩ := hQ) | (refine atRet ?_; refine Nx.ret [0,9] Try.func45 rfl rfl ?_; (exact MdQ.yes rfl (by decide))) | refine Nx.late ?_)
  rw [if_neg h2]
  have h2 : e = n.x := Decidable.not_not.1 h2
  have hbf : (if BinOp.neq = BinOp.eql then decide (e = n.x) else !decide (e = n.x)) = false := by simp [h2]
  repeat' (first | (refine atBr ?_; refine BrM.f (hbf) ?_; conv => whnf) | ((first | refine BrM.not (by omega) ?_ | refine BrM.t rfl ?_ | refine BrM.f rfl ?_ | refine BrM.dec (fun _ => ?_) (fun _ => ?_) | refine BrM.mk (fun _ => ?_) (fun _ => ?_) | refine Ar.i64 (by omega) (by omega) ?_ | refine gO rfl ?_ | refine gP rfl (by repeat constructor) ?_) <;> conv => whnf) | (refine atOne ?_; refine Nx.eqS rfl (.inr rfl) rfl rfl rfl rfl (by kernel_rfl) (eq39 e n.x) rfl ?_) | (refine atLoad ?_; refine Nx.load1 0 rfl rfl rfl rfl (r6) rfl ?_) | refine Nx.late ?_)
  refine Nx.loop (X := Nat) (fun j => j ≤ x.r.ahead.length ∧ ∀ q, (hq : q < j) → (hl : q < x.r.ahead.length) → M.p.blocks x.r.ring n.seq x.r.ahead[q] = false) (fun j => x.r.ahead.length - j)
    (fun j => [(0, .c (.v (ptr M.b))), (1, .c (.v (ptr x.b))), (5, .c (.loc 5 0)), (48, sl x.aA x.r.ahead.length x.ac), (49, iv x.r.ahead.length), (50, iv j)]) (fun _ => [(5, 42, [.v (.int .i64 n.who), .v (.int .i64 n.ring), .v (.int .i64 n.deed), .v (.int .i64 n.lo), .v (.int .i64 n.seq), .v (.int .i64 n.x.key), .v (.int .i64 n.x.val), .v (.int .i64 n.code)])]) [(5, b5)] (fun _ => [(0, M.sp)]) 0 ⟨Nat.zero_le _, fun i hi => by omega⟩ ?_ ?_ ?_ ?_ ?_
  all_goals repeat (first | exact .nil _ | refine .cons rfl ?_ | refine .cons rfl rfl ?_ | refine .cons rfl rfl rfl ?_ | refine .cons' rfl (fun _ => rfl) ?_)
  intro j ⟨hj, hno⟩ ih
  by_cases hlt : j < x.r.ahead.length
  · have hat := at_ok M hm x.r.ahead[j] x.r.ring
    have hsome := hm.rah x.r hxp _ (List.getElem_mem hlt)
    obtain ⟨o, ho⟩ := Option.isSome_iff_exists.1 hsome
    obtain ⟨hol, _, _, hop⟩ := at_mem ho
    rw [ho, hop] at hat
    obtain ⟨y, hy⟩ : ∃ y, y = M.readers[o] := ⟨_, rfl⟩
    rw [← hy] at hat
    have hym : y ∈ M.readers := by rw [hy]; exact List.getElem_mem hol
    have hyp := List.mem_map_of_mem (f := RdH.r) hym
    have hyat := MdH.rat (M := M) hym
    have y3 := hyat.sub 3 rfl
    have y5 := hyat.sub 5 rfl
    have hpl := hm.rpool y.r hyp
    have eb : M.p.blocks x.r.ring n.seq x.r.ahead[j] = if y.r.pool < 0 then decide (y.r.cursor < n.seq) else match M.p.pools[y.r.pool.toNat]? with | none => false | some p => !p.has n.seq := by
      unfold MdP.blocks
      rw [ho]
      have : M.p.readers[o]? = some y.r := by rw [hy]; simp [MdH.p, List.getElem?_eq_getElem hol]
      dsimp only
      rw [this]
      rfl
    have hyes : M.p.blocks x.r.ring n.seq x.r.ahead[j] = true → (x.r.ahead.any (M.p.blocks x.r.ring n.seq)) = true := fun h => List.any_eq_true.2 ⟨_, List.getElem_mem hlt, h⟩
    have next : M.p.blocks x.r.ring n.seq x.r.ahead[j] = false → ∀ q, (hq : q < j + 1) → (hl : q < x.r.ahead.length) → M.p.blocks x.r.ring n.seq x.r.ahead[q] = false := fun h q hq hl => by
      by_cases e : q = j
      · subst e; exact h
      · exact hno q (by omega) hl
    by_cases c1 : y.r.pool < 0
    · rw [if_pos c1] at eb
      by_cases c2 : y.r.cursor < n.seq
      · rw [hyes (by rw [eb]; simp [c2]), if_pos rfl]
        repeat' (first | ((first | refine BrM.yes (by omega) ?_ | refine BrM.not (by omega) ?_ | refine BrM.t rfl ?_ | refine BrM.f rfl ?_ | refine BrM.dec (fun _ => ?_) (fun _ => ?_) | refine BrM.mk (fun _ => ?_) (fun _ => ?_) | refine Ar.i64 (by omega) (by omega) ?_ | refine gO rfl ?_ | refine gP rfl (by repeat constructor) ?_) <;> conv => whnf) | (refine atIdx ?_; refine Nx.idx 0 (j := j) rfl rfl rfl Try.underlying35 rfl rfl rfl inC_len hA rfl (by omega) (by omega) fun _ _ _ => ?_) | (refine atLoad ?_; first | (refine Nx.load1 0 rfl rfl rfl rfl (SeesAt.sub (by assumption) _ rfl) rfl ?_) | (refine Nx.load1 0 rfl rfl rfl rfl (by assumption) rfl ?_) | (refine Nx.load 0 rfl rfl rfl rfl (by assumption) rfl rfl ?_)) | (refine atLoad ?_; refine Nx.load1 0 rfl rfl rfl rfl (r1) rfl ?_) | (refine atCall 36 ?_; refine cE [0] [0] rfl rfl rfl rfl rfl (hat) rfl ?_) | (refine dN 10 [0] [0,4,8,13,16,20,24,28,32,37,40,45,48,52,56,60,64,68,73,76,80,84,88,92,97,100,104,108,113,116,121,124,129,134,136,140,144] rfl (by kernel_rfl) rfl (by kernel_rfl) rfl (by repeat constructor) rfl ?_) | (refine atHoLoad ?_; first | refine hL1 rfl rfl rfl rfl (SeesAt.sub (by assumption) _ rfl) (by repeat constructor) rfl ?_ | refine hL1 rfl rfl rfl rfl (by assumption) (by repeat constructor) rfl ?_ | refine hLm rfl rfl rfl rfl (by assumption) (by repeat constructor) rfl rfl ?_) | (refine (atCall 37) ?_; refine Nx.call [] [9] rfl rfl rfl rfl rfl ((wrong_ok _ _ 12)) rfl fun v Q hQ => ?_; obtain ⟨b,rfl,rfl⟩ := hQ) | (refine atRet ?_; refine Nx.ret [0,9] Try.func45 rfl rfl ?_; (exact MdQ.yes rfl (by decide))) | refine Nx.late ?_)
      · repeat' (first | ((first | refine BrM.yes (by omega) ?_ | refine BrM.not (by omega) ?_ | refine BrM.t rfl ?_ | refine BrM.f rfl ?_ | refine BrM.dec (fun _ => ?_) (fun _ => ?_) | refine BrM.mk (fun _ => ?_) (fun _ => ?_) | refine Ar.i64 (by omega) (by omega) ?_ | refine gO rfl ?_ | refine gP rfl (by repeat constructor) ?_) <;> conv => whnf) | (refine atIdx ?_; refine Nx.idx 0 (j := j) rfl rfl rfl Try.underlying35 rfl rfl rfl inC_len hA rfl (by omega) (by omega) fun _ _ _ => ?_) | (refine atLoad ?_; first | (refine Nx.load1 0 rfl rfl rfl rfl (SeesAt.sub (by assumption) _ rfl) rfl ?_) | (refine Nx.load1 0 rfl rfl rfl rfl (by assumption) rfl ?_) | (refine Nx.load 0 rfl rfl rfl rfl (by assumption) rfl rfl ?_)) | (refine atLoad ?_; refine Nx.load1 0 rfl rfl rfl rfl (r1) rfl ?_) | (refine atCall 36 ?_; refine cE [0] [0] rfl rfl rfl rfl rfl (hat) rfl ?_) | (refine dN 10 [0] [0,4,8,13,16,20,24,28,32,37,40,45,48,52,56,60,64,68,73,76,80,84,88,92,97,100,104,108,113,116,121,124,129,134,136,140,144] rfl (by kernel_rfl) rfl (by kernel_rfl) rfl (by repeat constructor) rfl ?_) | (refine atHoLoad ?_; first | refine hL1 rfl rfl rfl rfl (SeesAt.sub (by assumption) _ rfl) (by repeat constructor) rfl ?_ | refine hL1 rfl rfl rfl rfl (by assumption) (by repeat constructor) rfl ?_ | refine hLm rfl rfl rfl rfl (by assumption) (by repeat constructor) rfl rfl ?_) | refine Nx.late ?_)
        refine (ih (j + 1) ⟨by omega, next (by rw [eb]; simp [c2])⟩ (by omega)).weak ?_ ?_ ?_ ?_
        all_goals repeat (first | exact .nil _ | refine .cons rfl ?_ | refine .cons rfl rfl ?_ | refine .cons rfl rfl rfl ?_ | refine .cons' rfl (fun _ => rfl) ?_)
    · rw [if_neg c1] at eb
      obtain ⟨p, hp⟩ : ∃ p : Nat, y.r.pool = p := ⟨y.r.pool.toNat, by omega⟩
      have hpl2 : p < M.pools.length := by
        have := hpl.2
        simp only [MdH.p, List.length_map] at this
        omega
      have hzm := List.getElem_mem hpl2
      have hz := hm.pl (M.pools[p]).p (List.mem_map_of_mem hzm)
      have hhas := has_ok M hzm hz n.seq (by omega)
      have ez : M.p.pools[y.r.pool.toNat]? = some (M.pools[p]).p := by
        have : y.r.pool.toNat = p := by omega
        rw [this]
        simp [MdH.p, List.getElem?_eq_getElem hpl2]
      rw [ez] at eb
      dsimp only at eb
      cases hh : (M.pools[p]).p.has n.seq with
      | true =>
        rw [hh] at hhas eb
        repeat' (first | ((first | refine BrM.yes (by omega) ?_ | refine BrM.not (by omega) ?_ | refine BrM.t rfl ?_ | refine BrM.f rfl ?_ | refine BrM.dec (fun _ => ?_) (fun _ => ?_) | refine BrM.mk (fun _ => ?_) (fun _ => ?_) | refine Ar.i64 (by omega) (by omega) ?_ | refine gO rfl ?_ | refine gP rfl (by repeat constructor) ?_) <;> conv => whnf) | (refine atIdx ?_; refine Nx.idx 0 (j := j) rfl rfl rfl Try.underlying35 rfl rfl rfl inC_len hA rfl (by omega) (by omega) fun _ _ _ => ?_) | (refine atLoad ?_; first | (refine Nx.load1 0 rfl rfl rfl rfl (SeesAt.sub (by assumption) _ rfl) rfl ?_) | (refine Nx.load1 0 rfl rfl rfl rfl (by assumption) rfl ?_) | (refine Nx.load 0 rfl rfl rfl rfl (by assumption) rfl rfl ?_)) | (refine atLoad ?_; refine Nx.load1 0 rfl rfl rfl rfl (r1) rfl ?_) | (refine atCall 36 ?_; refine cE [0] [0] rfl rfl rfl rfl rfl (hat) rfl ?_) | (refine dN 10 [0] [0,4,8,13,16,20,24,28,32,37,40,45,48,52,56,60,64,68,73,76,80,84,88,92,97,100,104,108,113,116,121,124,129,134,136,140,144] rfl (by kernel_rfl) rfl (by kernel_rfl) rfl (by repeat constructor) rfl ?_) | (refine atHoIdx ?_; refine Nx.hoIdx 0 (j := p) rfl rfl rfl Try.underlying76 rfl rfl rfl PlH.pt_len hPl rfl (by omega) (by omega) fun _ _ _ => ?_) | (refine atHoLoad ?_; first | refine hL1 rfl rfl rfl rfl (SeesAt.sub (by assumption) _ rfl) (by repeat constructor) rfl ?_ | refine hL1 rfl rfl rfl rfl (by assumption) (by repeat constructor) rfl ?_ | refine hLm rfl rfl rfl rfl (by assumption) (by repeat constructor) rfl rfl ?_) | (refine atCall 61 ?_; refine cE [0] [0] rfl rfl rfl rfl rfl (hhas) rfl ?_) | (refine atAftK ?_; refine Nx.keepN [0] rfl (by repeat constructor) (by repeat constructor) rfl ?_) | refine Nx.late ?_)
        refine (ih (j + 1) ⟨by omega, next (by rw [eb]; rfl)⟩ (by omega)).weak ?_ ?_ ?_ ?_
        all_goals repeat (first | exact .nil _ | refine .cons rfl ?_ | refine .cons rfl rfl ?_ | refine .cons rfl rfl rfl ?_ | refine .cons' rfl (fun _ => rfl) ?_)
      | false =>
        rw [hh] at hhas eb
        rw [hyes (by rw [eb]; rfl), if_pos rfl]
        repeat' (first | ((first | refine BrM.yes (by omega) ?_ | refine BrM.not (by omega) ?_ | refine BrM.t rfl ?_ | refine BrM.f rfl ?_ | refine BrM.dec (fun _ => ?_) (fun _ => ?_) | refine BrM.mk (fun _ => ?_) (fun _ => ?_) | refine Ar.i64 (by omega) (by omega) ?_ | refine gO rfl ?_ | refine gP rfl (by repeat constructor) ?_) <;> conv => whnf) | (refine atIdx ?_; refine Nx.idx 0 (j := j) rfl rfl rfl Try.underlying35 rfl rfl rfl inC_len hA rfl (by omega) (by omega) fun _ _ _ => ?_) | (refine atLoad ?_; first | (refine Nx.load1 0 rfl rfl rfl rfl (SeesAt.sub (by assumption) _ rfl) rfl ?_) | (refine Nx.load1 0 rfl rfl rfl rfl (by assumption) rfl ?_) | (refine Nx.load 0 rfl rfl rfl rfl (by assumption) rfl rfl ?_)) | (refine atLoad ?_; refine Nx.load1 0 rfl rfl rfl rfl (r1) rfl ?_) | (refine atCall 36 ?_; refine cE [0] [0] rfl rfl rfl rfl rfl (hat) rfl ?_) | (refine dN 10 [0] [0,4,8,13,16,20,24,28,32,37,40,45,48,52,56,60,64,68,73,76,80,84,88,92,97,100,104,108,113,116,121,124,129,134,136,140,144] rfl (by kernel_rfl) rfl (by kernel_rfl) rfl (by repeat constructor) rfl ?_) | (refine atHoIdx ?_; refine Nx.hoIdx 0 (j := p) rfl rfl rfl Try.underlying76 rfl rfl rfl PlH.pt_len hPl rfl (by omega) (by omega) fun _ _ _ => ?_) | (refine atHoLoad ?_; first | refine hL1 rfl rfl rfl rfl (SeesAt.sub (by assumption) _ rfl) (by repeat constructor) rfl ?_ | refine hL1 rfl rfl rfl rfl (by assumption) (by repeat constructor) rfl ?_ | refine hLm rfl rfl rfl rfl (by assumption) (by repeat constructor) rfl rfl ?_) | (refine atCall 61 ?_; refine cE [0] [0] rfl rfl rfl rfl rfl (hhas) rfl ?_) | (refine atAftK ?_; refine Nx.keepN [0] rfl (by repeat constructor) (by repeat constructor) rfl ?_) | (refine (atCall 37) ?_; refine Nx.call [] [9] rfl rfl rfl rfl rfl ((wrong_ok _ _ 12)) rfl fun v Q hQ => ?_; obtain ⟨b,rfl,rfl⟩ := hQ) | (refine atRet ?_; refine Nx.ret [0,9] Try.func45 rfl rfl ?_; (exact MdQ.yes rfl (by decide))) | refine Nx.late ?_)
  have ea : (x.r.ahead.any (M.p.blocks x.r.ring n.seq)) = false := by
    rw [List.any_eq_false]
    intro a hqa
    obtain ⟨q, hql, rfl⟩ := List.getElem_of_mem hqa
    rw [hno q (by omega) hql]; decide
  rw [ea, if_neg (by decide)]
  by_cases h3 : x.r.pool < 0
  · rw [if_pos h3]
    by_cases h4 : n.seq ≠ x.r.next
    · rw [if_pos h4]
      repeat' (first | ((first | refine BrM.yes (by omega) ?_ | refine BrM.not (by omega) ?_ | refine BrM.t rfl ?_ | refine BrM.f rfl ?_ | refine BrM.dec (fun _ => ?_) (fun _ => ?_) | refine BrM.mk (fun _ => ?_) (fun _ => ?_) | refine Ar.i64 (by omega) (by omega) ?_ | refine gO rfl ?_ | refine gP rfl (by repeat constructor) ?_) <;> conv => whnf) | (refine atLoad ?_; refine Nx.load1 0 rfl rfl rfl rfl (r5) rfl ?_) | (refine dN 14 [0] [0,5,8,12,16,21,24] rfl (by kernel_rfl) rfl (by kernel_rfl) rfl (by repeat constructor) rfl ?_) | (refine atHoLoad ?_; first | refine hL1 rfl rfl rfl rfl (SeesAt.sub (by assumption) _ rfl) (by repeat constructor) rfl ?_ | refine hL1 rfl rfl rfl rfl (by assumption) (by repeat constructor) rfl ?_ | refine hLm rfl rfl rfl rfl (by assumption) (by repeat constructor) rfl rfl ?_) | (refine (atCall 37) ?_; refine Nx.call [] [9] rfl rfl rfl rfl rfl ((wrong_ok _ _ 1)) rfl fun v Q hQ => ?_; obtain ⟨b,rfl,rfl⟩ := hQ) | (refine atRet ?_; refine Nx.ret [0,9] Try.func45 rfl rfl ?_; (exact MdQ.yes rfl (by decide))) | refine Nx.late ?_)
    rw [if_neg (by omega)]
    obtain ⟨y, hy⟩ : ∃ y : RdH, y = { x with r := { x.r with next := x.r.next + 1 } } := ⟨_, rfl⟩
    have ep : (M.setR k y).p = M.p.setR k fun r => { r with next := r.next + 1 } := MdH.setR_p hx (by rw [hy])
    repeat' (first | ((first | refine BrM.yes (by omega) ?_ | refine BrM.not (by omega) ?_ | refine BrM.t rfl ?_ | refine BrM.f rfl ?_ | refine BrM.dec (fun _ => ?_) (fun _ => ?_) | refine BrM.mk (fun _ => ?_) (fun _ => ?_) | refine Ar.i64 (by omega) (by omega) ?_ | refine gO rfl ?_ | refine gP rfl (by repeat constructor) ?_) <;> conv => whnf) | (refine atLoad ?_; refine Nx.load1 0 rfl rfl rfl rfl (r5) rfl ?_) | (refine dN 14 [0] [0,5,8,12,16,21,24] rfl (by kernel_rfl) rfl (by kernel_rfl) rfl (by repeat constructor) rfl ?_) | (refine atHoLoad ?_; first | refine hL1 rfl rfl rfl rfl (SeesAt.sub (by assumption) _ rfl) (by repeat constructor) rfl ?_ | refine hL1 rfl rfl rfl rfl (by assumption) (by repeat constructor) rfl ?_ | refine hLm rfl rfl rfl rfl (by assumption) (by repeat constructor) rfl rfl ?_) | (refine atLoad ?_; refine Nx.load1 0 rfl rfl rfl rfl (r2) rfl ?_) | (refine atStore ?_; refine Nx.storeW 0 (M.setR k y).sp rfl rfl rfl rfl rfl rfl rfl rfl rfl (MdH.setR_sp hx (by decide) (by rw [hy]) (by rw [hy]; rfl) (by rw [hy]) (by rw [hy])) ?_) | (refine atRet ?_; refine Nx.ret [0] Try.func45 rfl rfl ?_; (exact MdQ.no (M := M.setR k y) rfl ep)) | refine Nx.late ?_)
  rw [if_neg h3]
  have hpl := hm.rpool x.r hxp
  obtain ⟨p, hp⟩ : ∃ p : Nat, x.r.pool = p := ⟨x.r.pool.toNat, by omega⟩
  have hpl2 : p < M.pools.length := by
    have := hpl.2
    simp only [MdH.p, List.length_map] at this
    omega
  obtain ⟨z, hz⟩ : ∃ z, z = M.pools[p] := ⟨_, rfl⟩
  have hzk : M.pools[p]? = some z := by rw [hz]; exact List.getElem?_eq_getElem hpl2
  have hzm : z ∈ M.pools := List.mem_of_getElem? hzk
  have hzb := hm.pl z.p (List.mem_map_of_mem hzm)
  have hhas := has_ok M hzm hzb n.seq (by omega)
  have epn : x.r.pool.toNat = p := by omega
  have ez : M.p.pools[x.r.pool.toNat]? = some z.p := by
    rw [epn, hz]
    simp [MdH.p, List.getElem?_eq_getElem hpl2]
  have hzat := MdH.pat (M := M) hzm
  rw [ez]
  dsimp only
  cases hh : z.p.has n.seq with
  | true =>
    rw [hh, hz] at hhas
    rw [if_pos rfl]
    repeat' (first | ((first | refine BrM.yes (by omega) ?_ | refine BrM.not (by omega) ?_ | refine BrM.t rfl ?_ | refine BrM.f rfl ?_ | refine BrM.dec (fun _ => ?_) (fun _ => ?_) | refine BrM.mk (fun _ => ?_) (fun _ => ?_) | refine Ar.i64 (by omega) (by omega) ?_ | refine gO rfl ?_ | refine gP rfl (by repeat constructor) ?_) <;> conv => whnf) | (refine atLoad ?_; refine Nx.load1 0 rfl rfl rfl rfl (r5) rfl ?_) | (refine dN 18 [0] [0,4,8,13,16,20,24,29,32,37,40] rfl (by kernel_rfl) rfl (by kernel_rfl) rfl (by repeat constructor) rfl ?_) | (refine atHoIdx ?_; refine Nx.hoIdx 0 (j := p) rfl rfl rfl Try.underlying76 rfl rfl rfl PlH.pt_len hPl rfl (by omega) (by omega) fun _ _ _ => ?_) | (refine atHoLoad ?_; first | refine hL1 rfl rfl rfl rfl (SeesAt.sub (by assumption) _ rfl) (by repeat constructor) rfl ?_ | refine hL1 rfl rfl rfl rfl (by assumption) (by repeat constructor) rfl ?_ | refine hLm rfl rfl rfl rfl (by assumption) (by repeat constructor) rfl rfl ?_) | (refine atCall 61 ?_; refine cE [0] [0] rfl rfl rfl rfl rfl (hhas) rfl ?_) | (refine (atCall 37) ?_; refine Nx.call [] [9] rfl rfl rfl rfl rfl ((wrong_ok _ _ 4)) rfl fun v Q hQ => ?_; obtain ⟨b,rfl,rfl⟩ := hQ) | (refine atRet ?_; refine Nx.ret [0,9] Try.func45 rfl rfl ?_; (exact MdQ.yes rfl (by decide))) | refine Nx.late ?_)
  | false =>
  have hst : z.p.start ≤ n.seq := by
    unfold PlP.has at hh
    simp only [Bool.or_eq_false_iff, decide_eq_false_iff_not] at hh
    omega
  rw [hh, hz] at hhas
  rw [if_neg (by decide)]
  repeat' (first | ((first | refine BrM.yes (by omega) ?_ | refine BrM.not (by omega) ?_ | refine BrM.t rfl ?_ | refine BrM.f rfl ?_ | refine BrM.dec (fun _ => ?_) (fun _ => ?_) | refine BrM.mk (fun _ => ?_) (fun _ => ?_) | refine Ar.i64 (by omega) (by omega) ?_ | refine gO rfl ?_ | refine gP rfl (by repeat constructor) ?_) <;> conv => whnf) | (refine atLoad ?_; refine Nx.load1 0 rfl rfl rfl rfl (r5) rfl ?_) | (refine dN 18 [0] [0,4,8,13,16,20,24,29,32,37,40] rfl (by kernel_rfl) rfl (by kernel_rfl) rfl (by repeat constructor) rfl ?_) | (refine atHoIdx ?_; refine Nx.hoIdx 0 (j := p) rfl rfl rfl Try.underlying76 rfl rfl rfl PlH.pt_len hPl rfl (by omega) (by omega) fun _ _ _ => ?_) | (refine atHoLoad ?_; first | refine hL1 rfl rfl rfl rfl (SeesAt.sub (by assumption) _ rfl) (by repeat constructor) rfl ?_ | refine hL1 rfl rfl rfl rfl (by assumption) (by repeat constructor) rfl ?_ | refine hLm rfl rfl rfl rfl (by assumption) (by repeat constructor) rfl rfl ?_) | (refine atCall 61 ?_; refine cE [0] [0] rfl rfl rfl rfl rfl (hhas) rfl ?_) | refine Nx.late ?_)
  rw [← hz]
  obtain ⟨i, hi⟩ : ∃ i : Nat, n.seq - z.p.start = i := ⟨(n.seq - z.p.start).toNat, by omega⟩
  refine Nx.turn [0] [10, 0] [z.sp, M.holeP p] rfl (MdH.outP hzk) ?_
  refine Nx.turn [10] [10, 11] [blk z.b (.cells z.cells.toArray 109 (0, 0)), ownT 4 z.tA z.p.taken.length z.tc 1 (z.p.taken.flatMap boC)] rfl sat_unstar ?_
  refine Nx.loop (X := PlX) (fun w => w.j ≤ i + 1 - z.p.taken.length ∧ w.X.b = z.b ∧ w.X.p = ⟨z.p.start, z.p.taken ++ List.replicate w.j false⟩) (fun w => i + 1 - z.p.taken.length - w.j)
    (fun w => [(0, .c (.v (ptr M.b))), (1, .c (.v (ptr x.b))), (5, .c (.loc 5 0)), (12, .c (.v (ptr z.b)))]) (fun _ => [(5, 42, [.v (.int .i64 n.who), .v (.int .i64 n.ring), .v (.int .i64 n.deed), .v (.int .i64 n.lo), .v (.int .i64 n.seq), .v (.int .i64 n.x.key), .v (.int .i64 n.x.val), .v (.int .i64 n.code)])]) [(5, b5)]
    (fun w => [(10, blk z.b (.cells w.X.cells.toArray 109 (0, 0))), (11, ownT 4 w.X.tA w.X.p.taken.length w.X.tc 1 (w.X.p.taken.flatMap boC)), (0, M.holeP p)]) ⟨z, 0⟩ ⟨Nat.zero_le _, rfl, by simp⟩ ?_ ?_ ?_ ?_ ?_
  all_goals repeat (first | exact .nil _ | refine .cons rfl ?_ | refine .cons rfl rfl ?_ | refine .cons rfl rfl rfl ?_ | refine .cons' rfl (fun _ => rfl) ?_)
  clear ih
  intro ⟨X, j⟩ ⟨hj, hXb, hXp⟩ ih
  dsimp only at hj hXb hXp ih ⊢
  have hXs : X.p.start = z.p.start := by rw [hXp]
  have hXl : X.p.taken.length = z.p.taken.length + j := by rw [hXp]; simp
  have hB : SeesAt (blk z.b (.cells X.cells.toArray 109 (0, 0))) z.b 0 X.cells := blk_at _ _ _
  have b0 := hB.sub 0 rfl
  have b1 := hB.sub 1 rfl
  rw [hXs] at b0
  clear hB
  by_cases hlt : X.p.taken.length ≤ i
  · repeat' (first | ((first | refine BrM.yes (by omega) ?_ | refine BrM.t rfl ?_ | refine BrM.f rfl ?_ | refine BrM.dec (fun _ => ?_) (fun _ => ?_) | refine BrM.mk (fun _ => ?_) (fun _ => ?_) | refine Ar.i64 (by omega) (by omega) ?_ | refine gO rfl ?_ | refine gP rfl (by repeat constructor) ?_) <;> conv => whnf) | (refine dN 21 [10] [0,4,8,13,16,20,25,28,32,36,41,44,48] rfl (by kernel_rfl) rfl (by kernel_rfl) rfl (by repeat constructor) rfl ?_) | (refine atHoLoad ?_; first | refine hL1 rfl rfl rfl rfl (SeesAt.sub (by assumption) _ rfl) (by repeat constructor) rfl ?_ | refine hL1 rfl rfl rfl rfl (by assumption) (by repeat constructor) rfl ?_ | refine hLm rfl rfl rfl rfl (by assumption) (by repeat constructor) rfl rfl ?_) | (refine atLoad ?_; refine Nx.load1 10 rfl rfl rfl rfl (b1) rfl ?_) | (refine atApp ?_; refine Nx.appendT 11 (sz := 1) (by_ := 1) (news := [.bool false]) rfl rfl rfl rfl rfl Try.underlying88 rfl rfl rfl rfl rfl (by decide) (by unfold maxLen; omega) (by omega) fun Bt bt => ?_) | (refine atStore ?_; refine Nx.storeW 10 _ rfl rfl rfl rfl rfl rfl rfl rfl rfl (blk_set (by show 1 < 2; decide)) ?_) | refine Nx.late ?_)
    obtain ⟨Y, hY⟩ : ∃ Y : PlH, Y = ⟨X.b, ⟨X.p.start, X.p.taken ++ [false]⟩, Bt, bt⟩ := ⟨_, rfl⟩
    refine Nx.turn [10, 11] [10, 11] [blk z.b (.cells Y.cells.toArray 109 (0, 0)), ownT 4 Y.tA Y.p.taken.length Y.tc 1 (Y.p.taken.flatMap boC)] rfl (fun r h hs => by
      rw [hY]
      simp only [PlH.cells, List.flatMap_append, List.flatMap_cons, List.flatMap_nil, List.length_append, List.length_singleton, List.append_nil]
      exact hs) ?_
    refine (ih ⟨Y, j + 1⟩ ⟨by dsimp only; omega, by rw [hY]; exact hXb, by rw [hY]; dsimp only; rw [hXp]; simp only [List.replicate_succ', List.append_assoc]⟩ (by dsimp only; omega)).weak ?_ ?_ ?_ ?_
    all_goals repeat (first | exact .nil _ | refine .cons rfl ?_ | refine .cons rfl rfl ?_ | refine .cons rfl rfl rfl ?_ | refine .cons' rfl (fun _ => rfl) ?_)
  · have ej : j = i + 1 - z.p.taken.length := by omega
    have hin : i < X.p.taken.length := by omega
    repeat' (first | ((first | refine BrM.not (by omega) ?_ | refine BrM.t rfl ?_ | refine BrM.f rfl ?_ | refine BrM.dec (fun _ => ?_) (fun _ => ?_) | refine BrM.mk (fun _ => ?_) (fun _ => ?_) | refine Ar.i64 (by omega) (by omega) ?_ | refine gO rfl ?_ | refine gP rfl (by repeat constructor) ?_) <;> conv => whnf) | (refine dN 21 [10] [0,4,8,13,16,20,25,28,32,36,41,44,48] rfl (by kernel_rfl) rfl (by kernel_rfl) rfl (by repeat constructor) rfl ?_) | (refine dN 23 [10] [0,4,8,13,16,21,24,28,32,37,40,44,51] rfl (by kernel_rfl) rfl (by kernel_rfl) rfl (by repeat constructor) rfl ?_) | (refine atHoLoad ?_; first | refine hL1 rfl rfl rfl rfl (SeesAt.sub (by assumption) _ rfl) (by repeat constructor) rfl ?_ | refine hL1 rfl rfl rfl rfl (by assumption) (by repeat constructor) rfl ?_ | refine hLm rfl rfl rfl rfl (by assumption) (by repeat constructor) rfl rfl ?_) | (refine atHoIdx ?_; refine Nx.hoIdxT 11 (j := i) rfl rfl rfl Try.underlying88 rfl rfl rfl hi hin fun Bt pt hBt => ?_) | (refine atStore ?_; refine Nx.storeW 11 (ownT 4 X.tA X.p.taken.length X.tc 1 ((X.p.taken.flatMap boC).set (i * 1) (.bool true))) rfl rfl rfl rfl rfl rfl rfl rfl rfl (by rw [hBt]; exact ownT_set (j := i * 1) (by omega)) ?_) | refine Nx.late ?_)
    obtain ⟨Y, hY⟩ : ∃ Y : PlH, Y = ⟨X.b, ⟨X.p.start, X.p.taken.set i true⟩, X.tA, X.tc⟩ := ⟨_, rfl⟩
    have eYb : Y.b = z.b := by rw [hY]; exact hXb
    refine Nx.turn [10, 11] [10] [Y.sp] rfl (fun r h hs => by
      refine sat_restar ?_
      rw [boC_set] at hs
      rw [eYb, hY]
      simp only [PlH.cells, List.length_set]
      exact hs) ?_
    refine Nx.turn [10, 0] [0] [(M.setP p Y).sp] rfl (MdH.inP hzk eYb) ?_
    have ep : (M.setP p Y).p = { M.p with pools := M.p.pools.modify x.r.pool.toNat fun p => p.put (n.seq - p.start).toNat } := by
      rw [epn]
      refine MdH.setP_p hzk ?_
      rw [hY]
      unfold PlP.put
      have e1 : (n.seq - z.p.start).toNat = i := by omega
      dsimp only
      rw [e1, hXp, ej]
    repeat' (first | ((first | refine BrM.t rfl ?_ | refine BrM.f rfl ?_ | refine BrM.dec (fun _ => ?_) (fun _ => ?_) | refine BrM.mk (fun _ => ?_) (fun _ => ?_) | refine Ar.i64 (by omega) (by omega) ?_ | refine gO rfl ?_ | refine gP rfl (by repeat constructor) ?_) <;> conv => whnf) | (refine atRet ?_; refine Nx.ret [0] Try.func45 rfl rfl ?_; (exact MdQ.no (M := M.setP p Y) rfl ep)) | refine Nx.late ?_)
end Go.Proofs.Ytngfadijcpnblaa
