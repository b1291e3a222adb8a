/- Rules: contracts, calls, the end, loops, weaker states, assertions. -/
import Derived.Test.YtngfadijcpnblaaSxf
namespace Go.Proofs.Ytngfadijcpnblaa
open Go.RowKit

/-! ### Contracts -/
/-- Called with these arguments where Pre holds, the function returns a value, and Post says which, and what holds then; all else stays. -/
def FnOk (P : Program) (f : FuncId) (args : List Value) (Pre : List SP) (Post : Value → List SP → Prop) : Prop :=
  (∀ (as : Array Value) (w : World), (callFunc f as).run P w = .ok (.enter f as) w) ∧
  ∀ (F : List SP) (w : World), SatW (Pre ++ F) w → Calls P f args.toArray w fun e w' =>
    ∃ v Q, e = .returned v ∧ Post v Q ∧ w'.os = w.os ∧ w'.tape = w.tape ∧ w'.output = w.output ∧ SatW (Q ++ F) w'

theorem FnOk.mono {P : Program} {f : FuncId} {args : List Value} {Pre : List SP} {Post Post' : Value → List SP → Prop} (h : FnOk P f args Pre Post) (k : ∀ v Q, Post v Q → Post' v Q) : FnOk P f args Pre Post' :=
  ⟨h.1, fun F w hs => (h.2 F w hs).mono fun e w' ⟨v, Q, h1, h2, h3⟩ => ⟨v, Q, h1, k v Q h2, h3⟩⟩

def argE : Nat → List Value → Env
  | _, [] => []
  | k, v :: r => (k, ofV v) :: argE (k + 1) r
theorem look_argE (β : Nat → Nat) : ∀ (vs : List Value) (k s : Nat) (x : SV), look (argE k vs) s = some x → k ≤ s ∧ vs[s - k]? = some (x.den β)
  | [], k, s, x, h => by cases h
  | v :: r, k, s, x, h => by
    simp only [argE, look_cons] at h
    by_cases e : k = s
    · subst e
      simp at h
      subst h
      simp [ofV_den]
    · rw [if_neg e] at h
      obtain ⟨h1, h2⟩ := look_argE β r (k + 1) s x h
      refine ⟨by omega, ?_⟩
      rw [show s - k = (s - (k + 1)) + 1 from by omega]
      exact h2
def nameL : Nat → List SP → Res
  | _, [] => []
  | k, P :: r => (k, P) :: nameL (k + 1) r
theorem nameL_snd : ∀ (L : List SP) (k : Nat), (nameL k L).map (·.2) = L
  | [], _ => rfl
  | P :: r, k => by simp [nameL, nameL_snd r (k + 1)]

theorem FnOk.start {P : Program} {f n : Nat} {fn : Func} {c : Code} {args : List Value} {Pre : List SP} {Post : Value → List SP → Prop} (hf : P.funcs[f]? = some fn) (hb : fn.body = some c) (hn : fn.ntmps = n)
    (hname : (fn.name == "runtime.NumGoroutine") = false) (ha : Nat.ble args.length n = true)
    (h : ∀ F os tape output, Nx ⟨P, f, fn, n, Post, F, os, tape, output⟩ (argE 0 args) [] [] (nameL 0 Pre) (RunC ⟨P, f, fn, n, Post, F, os, tape, output⟩ [.code c])) : FnOk P f args Pre Post := by
  have hname' : ¬ fn.name = "runtime.NumGoroutine" := by simpa using hname
  refine ⟨fun as w => by simp [callFunc, hf, hname', hb], fun F w hs cs => ?_⟩
  have henter : Frame.enter P f args.toArray .normal = (base ⟨P, f, fn, n, Post, F, w.os, w.tape, w.output⟩).at { tmps := args.toArray ++ Array.replicate (fn.ntmps - args.toArray.size) undef, defers := [] } [.code c] := by
    simp [Frame.enter, Frame.at, hf, hb, base]
  have hal : args.length ≤ n := by simpa using ha
  have hr : Rel ⟨P, f, fn, n, Post, F, w.os, w.tape, w.output⟩ (fun _ => 0) (argE 0 args) [] [] (nameL 0 Pre) { tmps := args.toArray ++ Array.replicate (fn.ntmps - args.toArray.size) undef, defers := [] } w := by
    refine ⟨rfl, by simp [hn]; omega, ?_, fun l b h => (by cases h), rfl, rfl, rfl, (by rw [nameL_snd]; exact hs)⟩
    intro s x hx
    obtain ⟨_, h2⟩ := look_argE (fun _ => 0) args 0 s x hx
    rw [Nat.sub_zero] at h2
    have hlt : s < args.length := by
      rcases Nat.lt_or_ge s args.length with h | h
      · exact h
      · rw [List.getElem?_eq_none h] at h2; cases h2
    rw [Array.getElem?_append_left (by simpa using hlt)]
    simpa using h2
  obtain ⟨e, w', fr, ⟨v, Q, h1, h2, h3, h4, h5, h6⟩, hc, hfn, hl⟩ := h F w.os w.tape w.output _ _ w hr cs
  rw [henter]
  exact ⟨e, w', fr, ⟨v, Q, h1, h2, h3, h4, h5, h6⟩, hc, hfn, hl⟩

/-! ### Assertions by their names -/
def takeR (n : Nat) : Res → Option (SP × Res)
  | [] => none
  | (k, P) :: r => match Nat.beq k n with
    | true => some (P, r)
    | false => match takeR n r with
      | some (Q, r') => some (Q, (k, P) :: r')
      | none => none
def pick : List Nat → Res → Option (List SP × Res)
  | [], L => some ([], L)
  | n :: ns, L => match takeR n L with
    | some (P, L') => match pick ns L' with
      | some (Ps, L'') => some (P :: Ps, L'')
      | none => none
    | none => none
theorem takeR_perm : ∀ {L L' : Res} {n : Nat} {P : SP}, takeR n L = some (P, L') → (L.map (·.2)).Perm (P :: L'.map (·.2))
  | [], _, _, _, h => by cases h
  | (k, P) :: r, L', n, Q, h => by
    simp only [takeR] at h
    cases hk : Nat.beq k n with
    | true => rw [hk] at h; cases h; exact List.Perm.refl _
    | false =>
      rw [hk] at h
      cases hr : takeR n r with
      | none => rw [hr] at h; cases h
      | some q =>
        obtain ⟨Q', r'⟩ := q
        rw [hr] at h
        cases h
        exact (List.Perm.cons _ (takeR_perm hr)).trans (List.Perm.swap _ _ _)
theorem pick_perm : ∀ {ns : List Nat} {L L' : Res} {Ps : List SP}, pick ns L = some (Ps, L') → (L.map (·.2)).Perm (Ps ++ L'.map (·.2))
  | [], L, L', Ps, h => by cases h; exact List.Perm.refl _
  | n :: ns, L, L', Ps, h => by
    simp only [pick] at h
    cases h1 : takeR n L with
    | none => rw [h1] at h; cases h
    | some q =>
      obtain ⟨P, L1⟩ := q
      simp only [h1] at h
      cases h2 : pick ns L1 with
      | none => rw [h2] at h; cases h
      | some q2 =>
        obtain ⟨Ps', L2⟩ := q2
        rw [h2] at h
        cases h
        exact (takeR_perm h1).trans (List.Perm.cons _ (pick_perm h2))

section
variable {g : Cx} {β : Nat → Nat} {env : Env} {mem : Mem} {bnd : Bnd} {L : Res} {a : Act} {w : World} {N : Act → World → Prop} {Q : Exit → Act → World → Prop}

/-- The assertions of a state are turned. -/
theorem Rel.turn {L' : Res} (h : Rel g β env mem bnd L a w) (k : ∀ M, SatW (M ++ (L.map (·.2) ++ g.F)) w → SatW (M ++ (L'.map (·.2) ++ g.F)) w) : Rel g β env mem bnd L' a w :=
  ⟨h.defers, h.size, h.env, h.bnd, h.os, h.tape, h.output, k _ h.sat⟩
theorem SatW.swapHead {M A B : List SP} (H : SatW (M ++ (A ++ B)) w) : SatW (A ++ (M ++ B)) w := by
  refine H.perm ?_
  rw [← List.append_assoc, ← List.append_assoc]
  exact List.Perm.append_right _ List.perm_append_comm
theorem Rel.picked {ns : List Nat} {Ps : List SP} {L' : Res} (h : Rel g β env mem bnd L a w) (hp : pick ns L = some (Ps, L')) : SatW (Ps ++ (memSP β mem ++ (L'.map (·.2) ++ g.F))) w := by
  have h1 : SatW (memSP β mem ++ ((Ps ++ L'.map (·.2)) ++ g.F)) w := h.sat.perm (List.Perm.append_left _ (List.Perm.append_right _ (pick_perm hp)))
  rw [List.append_assoc] at h1
  exact h1.swapHead
theorem Rel.unpicked {Ps : List SP} {ns : List Nat} {L' : Res} {w' : World} (h : Rel g β env mem bnd L a w) (hs : SatW (Ps ++ (memSP β mem ++ (L'.map (·.2) ++ g.F))) w')
    (e1 : w'.os = w.os) (e2 : w'.tape = w.tape) (e3 : w'.output = w.output) : Rel g β env mem bnd (ns.zip Ps ++ L') a w' := by
  refine ⟨h.defers, h.size, h.env, h.bnd, e1.trans h.os, e2.trans h.tape, e3.trans h.output, ?_⟩
  have h1 := hs.swapHead
  rw [List.map_append, List.append_assoc]
  obtain ⟨r, hh, x1, x2, x3, x4⟩ := h1.swapHead
  have drop : ∀ (ns : List Nat) (Ps : List SP) (M : List SP) (r h : PH), Sat (Ps ++ M) r h → Sat ((ns.zip Ps).map (·.2) ++ M) r h := by
    intro ns
    induction ns with
    | nil => intro Ps M r h H; simpa using H.app_right
    | cons n ns ih =>
      intro Ps M r h H
      cases Ps with
      | nil => simpa using H
      | cons P Ps => exact H.cons_imp fun h' k => ih Ps M r h' k
  exact SatW.swapHead ⟨r, hh, x1, x2, x3, drop ns Ps _ _ _ x4⟩

/-- Some assertions are turned into others. -/
theorem Nx.turn (ns : List Nat) (ns' : List Nat) {Ps : List SP} {L' : Res} (Ps' : List SP) (hp : pick ns L = some (Ps, L')) (k : ∀ r h, Sat Ps r h → Sat Ps' r h) (h : Nx g env mem bnd (ns'.zip Ps' ++ L') N) : Nx g env mem bnd L N :=
  fun β a w hr => h β a w (hr.unpicked ((hr.picked hp).turn k) rfl rfl rfl)
/-- An assertion speaks of something. -/
theorem Nx.ex {X : Type} (n : Nat) {P : SP} {L' : Res} (F : X → SP) (hp : takeR n L = some (P, L')) (k : ∀ r h, P r h → ∃ x, F x r h) (h : ∀ x, Nx g env mem bnd ((n, F x) :: L') N) : Nx g env mem bnd L N := by
  intro β a w hr
  have hp' : pick [n] L = some ([P], L') := by simp [pick, hp]
  obtain ⟨x, hx⟩ := (hr.picked hp').ex k
  have := hr.unpicked (ns := [n]) (Ps := [F x]) hx rfl rfl rfl
  exact h x β a w this
/-- What an assertion says beside. -/
theorem Nx.fact (n : Nat) {P : SP} {p : Prop} {L' : Res} (hp : takeR n L = some (P, L')) (k : ∀ r h, P r h → p) (h : p → Nx g env mem bnd L N) : Nx g env mem bnd L N := by
  intro β a w hr
  have hp' : pick [n] L = some ([P], L') := by simp [pick, hp]
  exact h ((hr.picked hp').pure k) β a w hr
/-- What is owned may be given to all for reading. -/
theorem Nx.share (n : Nat) {P : SP} {L' : Res} (P' : SP) (hp : takeR n L = some (P, L')) (k : ∀ r h, r.dj h → P r h → P' (r.un h) PH.em) (h : Nx g env mem bnd ((n, P') :: L') N) : Nx g env mem bnd L N := by
  intro β a w hr
  have hp' : pick [n] L = some ([P], L') := by simp [pick, hp]
  exact h β a w (hr.unpicked (ns := [n]) (Ps := [P']) ((hr.picked hp').share k) rfl rfl rfl)
/-- What only reads may be had once more, under another name. -/
theorem Nx.also (n m : Nat) {P : SP} {L' : Res} (P' : SP) (hp : takeR n L = some (P, L')) (k : ∀ r h, P r h → P' r PH.em) (h : Nx g env mem bnd ((m, P') :: (n, P) :: L') N) : Nx g env mem bnd L N := by
  intro β a w hr
  have hp' : pick [n] L = some ([P], L') := by simp [pick, hp]
  exact h β a w (hr.unpicked (ns := [m, n]) (Ps := [P', P]) ((hr.picked hp').also k) rfl rfl rfl)

/-! ### Weaker states -/
inductive subE : Env → Env → Prop where
  | nil (env : Env) : subE [] env
  | cons {s : Nat} {x y : SV} {r env : Env} (h : look env s = some y) (e : y = x) (t : subE r env) : subE ((s, x) :: r) env
  | cons' {s : Nat} {x y : SV} {r env : Env} (h : look env s = some y) (e : ∀ β, y.den β = x.den β) (t : subE r env) : subE ((s, x) :: r) env
inductive subM : Mem → Mem → Prop where
  | nil (mem : Mem) : subM [] mem
  | cons {l t : Nat} {cs cs' : List Ce} {r mem mem' : Mem} (h : lookM mem l = some (t, cs')) (e : cs' = cs) (hd : delM mem l = mem') (k : subM r mem') : subM ((l, t, cs) :: r) mem
inductive subB : Bnd → Bnd → Prop where
  | nil (bnd : Bnd) : subB [] bnd
  | cons {l b : Nat} {r bnd : Bnd} (h : lookB bnd l = some b) (t : subB r bnd) : subB ((l, b) :: r) bnd
inductive subR : Res → Res → Prop where
  | nil (L : Res) : subR [] L
  | cons {n : Nat} {P P' : SP} {r L L' : Res} (h : takeR n L = some (P', L')) (e : P' = P) (k : subR r L') : subR ((n, P) :: r) L

theorem subE.look {E env : Env} (h : subE E env) {s : Nat} {x : SV} (hx : Ytngfadijcpnblaa.look E s = some x) : ∃ y, Ytngfadijcpnblaa.look env s = some y ∧ ∀ β, y.den β = x.den β := by
  induction h with
  | nil env => cases hx
  | cons h e t ih =>
    rw [look_cons] at hx
    split at hx
    · rename_i es; subst es; cases hx; exact ⟨_, h, fun β => by rw [e]⟩
    · exact ih hx
  | cons' h e t ih =>
    rw [look_cons] at hx
    split at hx
    · rename_i es; subst es; cases hx; exact ⟨_, h, e⟩
    · exact ih hx
theorem subB.look {B bnd : Bnd} (h : subB B bnd) {l b : Nat} (hx : lookB B l = some b) : lookB bnd l = some b := by
  induction h with
  | nil env => cases hx
  | cons h t ih =>
    rw [lookB_cons] at hx
    split at hx
    · rename_i es; subst es; cases hx; exact h
    · exact ih hx
theorem subM.sat {M mem : Mem} (h : subM M mem) : ∀ (X : List SP) (w : World), SatW (memSP β mem ++ X) w → SatW (memSP β M ++ X) w := by
  induction h with
  | nil mem => exact fun X w H => H.app_right
  | cons h e hd k ih =>
    intro X w H
    subst e
    subst hd
    have H1 := H.perm ((lookM_perm h).append_right _)
    have H2 := ih (_ :: X) w (H1.perm (List.perm_middle.symm))
    exact H2.perm List.perm_middle
theorem subR.sat {R L : Res} (h : subR R L) : ∀ (X : List SP) (w : World), SatW (L.map (·.2) ++ X) w → SatW (R.map (·.2) ++ X) w := by
  induction h with
  | nil mem => exact fun X w H => H.app_right
  | cons h e k ih =>
    intro X w H
    subst e
    have H1 := H.perm ((takeR_perm h).append_right _)
    have H2 := ih (_ :: X) w (H1.perm (List.perm_middle.symm))
    exact H2.perm List.perm_middle

theorem Nx.weak {E : Env} {M : Mem} {B : Bnd} {R : Res} (h : Nx g E M B R N) (hE : subE E env) (hM : subM M mem) (hB : subB B bnd) (hR : subR R L) : Nx g env mem bnd L N := by
  intro β a w hr
  refine h β a w ⟨hr.defers, hr.size, fun s x hx => (let ⟨y, h1, h2⟩ := hE.look hx; (h2 β) ▸ hr.env s y h1), fun l b hb => hr.bnd l b (hB.look hb), hr.os, hr.tape, hr.output, ?_⟩
  exact ((hR.sat _ w (hM.sat _ w hr.sat).swapHead)).swapHead
/-- First a weaker state. -/
theorem Nx.cut {E : Env} {M : Mem} {B : Bnd} {R : Res} (hE : subE E env) (hM : subM M mem) (hB : subB B bnd) (hR : subR R L) (h : Nx g E M B R N) : Nx g env mem bnd L N := h.weak hE hM hB hR

/-! ### Loops -/
theorem Nx.loop {X : Type} {c : Code} {k : List Item} (I : X → Prop) (μ : X → Nat) (E : X → Env) (M : X → Mem) (B : Bnd) (R : X → Res) (x0 : X) (h0 : I x0)
    (hE : subE (E x0) env) (hM : subM (M x0) mem) (hB : subB B bnd) (hR : subR (R x0) L)
    (hr : ∀ x, I x → (∀ x', I x' → μ x' < μ x → Nx g (E x') (M x') B (R x') (RunC g (.inLoop c :: k))) → Nx g (E x) (M x) B (R x) (RunC g (.code c :: .inLoop c :: k))) :
    Nx g env mem bnd L (RunC g (.code (.loop c) :: k)) := by
  have key : ∀ n x, μ x = n → I x → Nx g (E x) (M x) B (R x) (RunC g (.code c :: .inLoop c :: k)) := by
    intro n
    induction n using Nat.strongRecOn with
    | _ n ih =>
      intro x hx hI
      refine hr x hI fun x' hI' hlt => ?_
      intro β a w hrel
      exact Ret.one (fun cs => step_inLoop) (ih (μ x') (hx ▸ hlt) x' rfl hI' β a w hrel)
  refine Nx.weak (E := E x0) (M := M x0) (B := B) (R := R x0) ?_ hE hM hB hR
  intro β a w hrel
  exact Ret.one (fun cs => step_loop) (key _ x0 rfl h0 β a w hrel)

/-! ### Blocks in and out of the state -/
/-- A block of the call's own becomes an assertion like others. -/
theorem Nx.out (l : Nat) {t b : Nat} {cs : List Ce} {vs : List Value} {mem' : Mem} (hl : lookM mem l = some (t, cs)) (hb : lookB bnd l = some b) (hv : cesV bnd cs = some vs) (hd : delMo mem l = some mem')
    (h : Nx g env mem' bnd ((l, blk b (.cells vs.toArray t (0, 0))) :: L) N) : Nx g env mem bnd L N := by
  intro β a w hr
  rw [delMo_eq] at hd
  cases hd
  refine h β a w ⟨hr.defers, hr.size, hr.env, hr.bnd, hr.os, hr.tape, hr.output, ?_⟩
  have h1 := hr.sat.perm ((lookM_perm hl).append_right _)
  have e1 : β l = b := hr.bnd l b hb
  have e2 : cellsOf β cs = vs.toArray := by unfold cellsOf; rw [cesV_den hr.bnd hv]
  rw [e1, e2] at h1
  exact h1.perm List.perm_middle.symm
def pointsTo (env : Env) (b : Nat) : List Nat → Prop
  | [] => True
  | s :: r => look env s = some (.c (.v (.pointer (some ⟨b, 0, none⟩)))) ∧ pointsTo env b r
def locE (l : Nat) : List Nat → Env → Env
  | [], env => env
  | s :: r, env => (s, .c (.loc l 0)) :: locE l r env
/-- An assertion of a block becomes part of the state; slots that point to it are read as such. -/
theorem Nx.inn (l : Nat) {b t : Nat} {vs : List Value} {cs : List Ce} {L' : Res} (ss : List Nat) (hp : takeR l L = some (blk b (.cells vs.toArray t (0, 0)), L')) (hl : lookB bnd l = none ∧ fresh l env mem bnd = true) (hcs : valsO vs = some cs) (hs : pointsTo env b ss)
    (h : Nx g (locE l ss env) ((l, t, cs) :: mem) ((l, b) :: bnd) L' N) : Nx g env mem bnd L N := by
  intro β a w hr
  obtain ⟨f1, f2, f3⟩ := fresh_parts hl.2
  rw [valsO_eq] at hcs
  cases hcs
  have hp' : pick [l] L = some ([blk b (.cells vs.toArray t (0, 0))], L') := by simp [pick, hp]
  have h1 := hr.picked hp'
  refine h (upd β l b) a w ⟨hr.defers, hr.size, ?_, ?_, hr.os, hr.tape, hr.output, ?_⟩
  · intro s x hx
    have base : ∀ s x, look env s = some x → a.tmps[s]? = some (x.den (upd β l b)) := fun s x hx => by
      rw [SV.den_upd (freshE_look f1 s x hx)]
      exact hr.env s x hx
    clear h h1 hp hp'
    induction ss with
    | nil => exact base s x hx
    | cons s0 r ih =>
      simp only [locE, look_cons] at hx
      split at hx
      · rename_i e
        subst e
        cases hx
        rw [hr.env _ _ hs.1]
        simp [SV.den, Ce.den, upd_self]
      · exact ih hs.2 hx
  · intro k x hk
    rw [lookB_cons] at hk
    split at hk
    · rename_i e; subst e; cases hk; exact upd_self _ _ _
    · rw [upd_ne (freshB_look f3 k x hk)]; exact hr.bnd k x hk
  · have e : memSP (upd β l b) ((l, t, vs.map .v) :: mem) = blk b (.cells vs.toArray t (0, 0)) :: memSP β mem := by
      have e1 := freshM_mem (β := β) (b := b) f2
      have e2 : (Ce.den (upd β l b) ∘ Ce.v) = id := rfl
      simp only [memSP, List.map_cons, cellsOf, upd_self] at e1 ⊢
      rw [e1]
      simp [e2]
    rw [e]
    exact h1
/-- The same, where the block was part of the state before. -/
theorem Nx.back (l : Nat) {b t : Nat} {vs : List Value} {cs : List Ce} {L' : Res} (hp : takeR l L = some (blk b (.cells vs.toArray t (0, 0)), L')) (hb : lookB bnd l = some b) (hcs : valsO vs = some cs)
    (h : Nx g env ((l, t, cs) :: mem) bnd L' N) : Nx g env mem bnd L N := by
  intro β a w hr
  rw [valsO_eq] at hcs
  cases hcs
  have hp' : pick [l] L = some ([blk b (.cells vs.toArray t (0, 0))], L') := by simp [pick, hp]
  have h1 := hr.picked hp'
  refine h β a w ⟨hr.defers, hr.size, hr.env, hr.bnd, hr.os, hr.tape, hr.output, ?_⟩
  have e2 : (Ce.den β ∘ Ce.v) = id := rfl
  have e : memSP β ((l, t, vs.map .v) :: mem) = blk b (.cells vs.toArray t (0, 0)) :: memSP β mem := by
    simp [memSP, cellsOf, hr.bnd l b hb, e2]
  rw [e]
  exact h1

/-! ### The end -/
def retV (env : Env) (bnd : Bnd) : List ResultVar → Option (List Value)
  | [] => some []
  | .tmp t :: r => match look env t with
    | some s => match svV bnd s with
      | some v => match retV env bnd r with
        | some vs => some (v :: vs)
        | none => none
      | none => none
    | none => none
  | .cell _ _ :: _ => none
def retM (P : Program) (env : Env) (mem : Mem) (bnd : Bnd) : List ResultVar → Option (List Value)
  | [] => some []
  | .tmp t :: r => match look env t with
    | some s => match svV bnd s with
      | some v => match retM P env mem bnd r with
        | some vs => some (v :: vs)
        | none => none
      | none => none
    | none => none
  | .cell x t :: r => match look env x with
    | some (.c (.loc l o)) => match lookM mem l with
      | some (_, cs) => match aggOf P t with
        | .one => match getL cs o with
          | some y => match ceV bnd y with
            | some v => match retM P env mem bnd r with
              | some vs => some (v :: vs)
              | none => none
            | none => none
          | none => none
        | .many n => match cutL cs o n with
          | some ys => match cesV bnd ys with
            | some zs => match retM P env mem bnd r with
              | some vs => some (.agg zs.toArray :: vs)
              | none => none
            | none => none
          | none => none
        | .no => none
      | none => none
    | _ => none
def oneV : List Value → Value
  | [v] => v
  | vs => .tuple vs.toArray

def resS (tmps : Array Value) : ResultVar → Sem Value
  | .tmp t => pure (tmps.getD t undef)
  | .cell x t => do loadVar t (← asAddr (tmps.getD x undef))
theorem retM_run (hr : Rel g β env mem bnd L a w) : ∀ (rs : List ResultVar) (vs : List Value), retM g.P env mem bnd rs = some vs →
    Sem.run g.P (rs.mapM (resS a.tmps)) w = .ok vs w
  | [], vs, h => by simp only [retM, Option.some.injEq] at h; subst h; rfl
  | .tmp t :: r, vs, h => by
    simp only [retM] at h
    cases h1 : look env t with
    | none => rw [h1] at h; cases h
    | some s =>
      rw [h1] at h
      cases h2 : svV bnd s with
      | none => simp only [h2] at h; cases h
      | some v =>
        simp only [h2] at h
        cases h3 : retM g.P env mem bnd r with
        | none => rw [h3] at h; cases h
        | some us =>
          rw [h3] at h
          cases h
          have ih := retM_run hr r us h3
          have he : a.tmps.getD t undef = v := by
            rw [Array.getD_eq_getD_getElem?, hr.env t s h1, Option.getD_some, svV_den hr.bnd h2]
          rw [List.mapM_cons]
          simp only [resS, Sem.run_bind, Sem.run_pure, Result.andThen_ok, he, ih]
  | .cell x t :: r, vs, h => by
    simp only [retM] at h
    split at h
    · rename_i l o hx
      have he : a.tmps.getD x undef = .pointer (some ⟨β l, o, none⟩) := by
        rw [Array.getD_eq_getD_getElem?, hr.env x _ hx]; rfl
      split at h
      · rename_i tt cs hl
        split at h
        · rename_i ha
          split at h
          · rename_i y hy
            split at h
            · rename_i v hv
              split at h
              · rename_i us h3
                cases h
                have ih := retM_run hr r us h3
                rw [List.mapM_cons]
                simp only [resS, Sem.run_bind, Sem.run_pure, Result.andThen_ok, he, asAddr, run_load_one hr hl ha hy, ceV_den hr.bnd hv, ih]
              · cases h
            · cases h
          · cases h
        · rename_i n ha
          split at h
          · rename_i ys hy
            split at h
            · rename_i zs hz
              split at h
              · rename_i us h3
                cases h
                have ih := retM_run hr r us h3
                rw [List.mapM_cons]
                have e : cellsOf β ys = zs.toArray := by unfold cellsOf; rw [cesV_den hr.bnd hz]
                simp only [resS, Sem.run_bind, Sem.run_pure, Result.andThen_ok, he, asAddr, run_load_many hr hl ha hy, e, ih]
              · cases h
            · cases h
          · cases h
        · cases h
      · cases h
    · cases h

theorem results_run (hr : Rel g β env mem bnd L a w) {vs : List Value} (h : retM g.P env mem bnd g.fn.results.toList = some vs) : (results g.fn a.tmps).run g.P w = .ok (oneV vs) w := by
  have h1 := retM_run hr _ _ h
  have e : results g.fn a.tmps = (do
      let vs ← g.fn.results.mapM (resS a.tmps)
      pure (if h : vs.size = 1 then vs[0] else .tuple vs)) := by
    unfold results
    congr 1
  rw [e, Array.mapM_eq_mapM_toList]
  simp only [Sem.run_bind, Sem.run_map, h1]
  simp only [Result.andThen_ok, Sem.run_pure]
  match vs with
  | [] => rfl
  | [v] => rfl
  | v :: u :: r => rfl

theorem Ret.leave {fr : Frame} {v : Value} (hf : g.P.funcs[g.f]? = some g.fn) (hd : a.defers = []) {k : List Item} (hk : ∀ cs, step g.P (lone ((base g).at a k) cs w) = .next (lone { (base g).at a k with mode := .returning } cs w))
    (hv : (results g.fn a.tmps).run g.P w = .ok v w) (hdone : Done g (.returned v) w) (_ : fr = fr) : Ret g k a w := by
  intro cs
  refine ⟨.returned v, w, { (base g).at a k with mode := .returning }, hdone, .one (hk cs), rfl, ?_⟩
  exact ⟨rfl, hd, rfl, g.fn, hf, hv⟩

theorem Nx.ret (ns : List Nat) {vs : List Value} {Qs : List SP} {L' : Res} {k : List Item} (hf : g.P.funcs[g.f]? = some g.fn) (hv : retM g.P env mem bnd g.fn.results.toList = some vs) (hp : pick ns L = some (Qs, L')) (hR : g.R (oneV vs) Qs) :
    Nx g env mem bnd L (RunC g (.code .ret :: k)) := by
  intro β a w hr
  refine Ret.leave (fr := default) hf hr.defers (fun cs => step_ret) (results_run hr hv) ⟨_, Qs, rfl, hR, hr.os, hr.tape, hr.output, ?_⟩ rfl
  have := hr.picked hp
  rw [← List.append_assoc] at this
  rw [← List.append_assoc] at this
  have h2 : SatW ((Qs ++ g.F) ++ (memSP β mem ++ L'.map (·.2))) w := this.perm (by
    rw [List.append_assoc, List.append_assoc, List.append_assoc]
    refine List.Perm.append_left _ ?_
    rw [← List.append_assoc]
    exact List.perm_append_comm)
  exact h2.app_left
theorem Nx.done (ns : List Nat) {vs : List Value} {Qs : List SP} {L' : Res} (hf : g.P.funcs[g.f]? = some g.fn) (hv : retM g.P env mem bnd g.fn.results.toList = some vs) (hp : pick ns L = some (Qs, L')) (hR : g.R (oneV vs) Qs) :
    Nx g env mem bnd L (RunC g []) := by
  intro β a w hr
  refine Ret.leave (fr := default) hf hr.defers (fun cs => step_end) (results_run hr hv) ⟨_, Qs, rfl, hR, hr.os, hr.tape, hr.output, ?_⟩ rfl
  have := hr.picked hp
  rw [← List.append_assoc] at this
  rw [← List.append_assoc] at this
  have h2 : SatW ((Qs ++ g.F) ++ (memSP β mem ++ L'.map (·.2))) w := this.perm (by
    rw [List.append_assoc, List.append_assoc, List.append_assoc]
    refine List.Perm.append_left _ ?_
    rw [← List.append_assoc]
    exact List.perm_append_comm)
  exact h2.app_left

/-! ### Calls -/
theorem Nx.call (ns ns' : List Nat) {o : Oper} {x : Operand} {as : Array Operand} {ts : Array TypeId} {f : Nat} {first cap : Array Value} {vs args : List Value} {Pre : List SP} {Post : Value → List SP → Prop} {L' : Res}
    (ho : o.op = .call ⟨.value x, as, ts⟩) (hx : ev env x = some (.c (.v (.func (.func f) first cap)))) (hv : opsV env bnd as.toList = some vs) (ha : first.toList ++ (vs ++ cap.toList) = args) (hd : dstOk g.n o.dst = true)
    (h : FnOk g.P f args Pre Post) (hp : pick ns L = some (Pre, L'))
    (hk : ∀ v Qs, Post v Qs → Nx g (putE o.dst (ofV v) env) mem bnd (ns'.zip Qs ++ L') N) : Nx g env mem bnd L (OneC g o N Q) := by
  intro β a w hr
  have hargs : as.map a.eval = vs.toArray := by
    apply Array.ext'
    simpa using opsV_eval hr hv
  have hrun : (execOp a.eval o).run g.P w = .ok (.enter f args.toArray) w := by
    have hex : a.eval x = .func (.func f) first cap := hr.ev hx
    have e : first ++ vs.toArray ++ cap = args.toArray := by
      apply Array.ext'
      simp [← ha]
    simp only [execOp, ho, resolve, hargs, hex, Deferred.ofValue, Sem.run_bind, Sem.run_pure, Result.andThen_ok, invoke, h.1, e]
  have hc := h.2 _ w (hr.picked hp)
  show o.wp g.P a w N Q
  unfold Oper.wp
  rw [hrun]
  refine hc.mono ?_
  rintro e w' ⟨v, Qs, rfl, h1, h2, h3, h4, h5⟩
  have hR := (hr.unpicked (ns := ns') h5 h2 h3 h4).put o.dst (ofV v) hd
  rw [ofV_den] at hR
  exact hk v Qs h1 β _ _ hR
end
end Go.Proofs.Ytngfadijcpnblaa
