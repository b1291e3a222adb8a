/- Partial heaps and a small affine separation logic over the model's worlds: the base of all walks of this seat. -/
import Derived.WalkKit
namespace Go.Proofs.Ytngfadijcpnblaa

/-- A partial heap: some blocks of the memory. -/
def PH := Nat → Option Obj
def PH.le (a b : PH) : Prop := ∀ n o, a n = some o → b n = some o
def PH.dj (a b : PH) : Prop := ∀ n, a n = none ∨ b n = none
def PH.em : PH := fun _ => none
def PH.one (n : Nat) (o : Obj) : PH := fun k => if k = n then some o else none
def PH.sub (a b : PH) : PH := fun n => match b n with | none => a n | some _ => none
def PH.un (a b : PH) : PH := fun n => match a n with | none => b n | some o => some o
/-- The whole memory of a world. -/
def hw (w : World) : PH := fun n => w.heap[n]?

theorem PH.le_refl (a : PH) : a.le a := fun _ _ h => h
theorem PH.le_trans {a b c : PH} (h : a.le b) (k : b.le c) : a.le c := fun n o x => k n o (h n o x)
theorem PH.em_le (a : PH) : PH.em.le a := fun _ _ h => by cases h
theorem PH.em_dj (a : PH) : PH.em.dj a := fun _ => .inl rfl
theorem PH.dj_em (a : PH) : a.dj PH.em := fun _ => .inr rfl
theorem PH.dj_symm {a b : PH} (h : a.dj b) : b.dj a := fun n => (h n).symm
theorem PH.none_of_le {a b : PH} (h : a.le b) {n : Nat} (hb : b n = none) : a n = none := by
  cases ha : a n with
  | none => rfl
  | some o => rw [h n o ha] at hb; cases hb
theorem PH.dj_mono {a b c d : PH} (h : c.dj d) (ha : a.le c) (hb : b.le d) : a.dj b :=
  fun n => (h n).imp (PH.none_of_le ha) (PH.none_of_le hb)
theorem PH.sub_le (a b : PH) : (a.sub b).le a := fun n o h => by
  unfold PH.sub at h
  cases hb : b n with
  | none => rw [hb] at h; exact h
  | some x => rw [hb] at h; cases h
theorem PH.sub_dj (a b : PH) : b.dj (a.sub b) := fun n => by
  cases hb : b n with
  | none => exact .inl rfl
  | some x => right; unfold PH.sub; rw [hb]
theorem PH.le_sub {a b c : PH} (h : a.le c) (d : a.dj b) : a.le (c.sub b) := fun n o ha => by
  rcases d n with h0 | h0
  · rw [h0] at ha; cases ha
  · unfold PH.sub; rw [h0]; exact h n o ha
theorem PH.one_self (n : Nat) (o : Obj) : PH.one n o n = some o := by simp [PH.one]
theorem PH.one_le {n : Nat} {o : Obj} {a : PH} (h : a n = some o) : (PH.one n o).le a := fun k x hx => by
  unfold PH.one at hx
  split at hx
  · rename_i e; subst e; rw [h]; exact hx
  · cases hx
theorem PH.le_un_left (a b : PH) : a.le (a.un b) := fun n o h => by unfold PH.un; rw [h]
theorem PH.le_un_right {a b : PH} (d : a.dj b) : b.le (a.un b) := fun n o h => by
  rcases d n with h0 | h0
  · unfold PH.un; rw [h0]; exact h
  · rw [h0] at h; cases h
theorem PH.un_le {a b c : PH} (ha : a.le c) (hb : b.le c) : (a.un b).le c := fun n o h => by
  unfold PH.un at h
  cases h0 : a n with
  | none => rw [h0] at h; exact hb n o h
  | some x => rw [h0] at h; exact ha n o (h0.trans h)
theorem PH.un_dj {a b c : PH} (ha : a.dj c) (hb : b.dj c) : (a.un b).dj c := fun n => by
  rcases hb n with h | h
  · rcases ha n with h' | h'
    · left; unfold PH.un; rw [h']; exact h
    · exact .inr h'
  · exact .inr h

/-- An assertion: of the part of memory that nobody writes any more, and of a part that is owned. -/
def SP := PH → PH → Prop

/-- Each assertion of a list holds, of parts that are apart from each other. -/
def Sat : List SP → PH → PH → Prop
  | [], _, _ => True
  | P :: L, r, h => ∃ r' h1 h2, PH.le r' r ∧ PH.le h1 h ∧ PH.le h2 h ∧ PH.dj h1 h2 ∧ P r' h1 ∧ Sat L r h2

theorem Sat.mono {L : List SP} : ∀ {r h r' h' : PH}, Sat L r h → r.le r' → h.le h' → Sat L r' h' := by
  induction L with
  | nil => intro _ _ _ _ _ _ _; trivial
  | cons P L ih =>
    rintro r h r' h' ⟨r0, h1, h2, a, b, c, d, e, f⟩ hr hh
    exact ⟨r0, h1, h2, PH.le_trans a hr, PH.le_trans b hh, PH.le_trans c hh, d, e, ih f hr (PH.le_refl _)⟩

theorem Sat.swap {P Q : SP} {L : List SP} {r h : PH} (H : Sat (P :: Q :: L) r h) : Sat (Q :: P :: L) r h := by
  obtain ⟨r1, h1, h2, a1, a2, a3, a4, a5, r3, h3, h4, b1, b2, b3, b4, b5, b6⟩ := H
  refine ⟨r3, h3, h.sub h3, b1, PH.le_trans b2 a3, PH.sub_le _ _, PH.sub_dj _ _, b5, r1, h1, h4, a1, PH.le_sub a2 (PH.dj_mono a4 (PH.le_refl _) b2), PH.le_sub (PH.le_trans b3 a3) (PH.dj_symm b4), PH.dj_mono a4 (PH.le_refl _) b3, a5, b6⟩

theorem Sat.cons_imp {P : SP} {L L' : List SP} {r h : PH} (H : Sat (P :: L) r h) (k : ∀ h', Sat L r h' → Sat L' r h') : Sat (P :: L') r h := by
  obtain ⟨r1, h1, h2, a1, a2, a3, a4, a5, a6⟩ := H
  exact ⟨r1, h1, h2, a1, a2, a3, a4, a5, k _ a6⟩

theorem Sat.perm {L L' : List SP} (p : L.Perm L') : ∀ {r h : PH}, Sat L r h → Sat L' r h := by
  induction p with
  | nil => exact fun h => h
  | cons x _ ih => exact fun H => H.cons_imp fun _ k => ih k
  | swap x y l => exact fun H => H.swap
  | trans _ _ ih1 ih2 => exact fun H => ih2 (ih1 H)

theorem Sat.tail {P : SP} {L : List SP} {r h : PH} (H : Sat (P :: L) r h) : Sat L r h := by
  obtain ⟨r1, h1, h2, a1, a2, a3, a4, a5, a6⟩ := H
  exact a6.mono (PH.le_refl _) a3

theorem Sat.app_left {L L' : List SP} : ∀ {r h : PH}, Sat (L ++ L') r h → Sat L r h := by
  induction L with
  | nil => intro _ _ _; trivial
  | cons P L ih => exact fun H => H.cons_imp fun _ k => ih k

theorem Sat.app_right {L L' : List SP} : ∀ {r h : PH}, Sat (L ++ L') r h → Sat L' r h := by
  induction L with
  | nil => exact fun h => h
  | cons P L ih => exact fun H => ih H.tail

theorem Sat.split {L L' : List SP} : ∀ {r h : PH}, Sat (L ++ L') r h → ∃ h1 h2, h1.le h ∧ h2.le h ∧ h1.dj h2 ∧ Sat L r h1 ∧ Sat L' r h2 := by
  induction L with
  | nil => intro r h H; exact ⟨PH.em, h, PH.em_le _, PH.le_refl _, PH.em_dj _, trivial, H⟩
  | cons P L ih =>
    rintro r h ⟨r1, h1, h2, a1, a2, a3, a4, a5, a6⟩
    obtain ⟨k1, k2, b1, b2, b3, b4, b5⟩ := ih a6
    have d1 : h1.dj k1 := PH.dj_mono a4 (PH.le_refl _) b1
    refine ⟨h1.un k1, k2, PH.un_le a2 (PH.le_trans b1 a3), PH.le_trans b2 a3, PH.un_dj (PH.dj_mono a4 (PH.le_refl _) b2) b3, ⟨r1, h1, k1, a1, PH.le_un_left _ _, PH.le_un_right d1, d1, a5, b4⟩, b5⟩

theorem Sat.join {L L' : List SP} : ∀ {r h h1 h2 : PH}, Sat L r h1 → Sat L' r h2 → h1.le h → h2.le h → h1.dj h2 → Sat (L ++ L') r h := by
  induction L with
  | nil => intro r h h1 h2 _ H _ b _; exact H.mono (PH.le_refl _) b
  | cons P L ih =>
    rintro r h h1 h2 ⟨r1, k1, k2, a1, a2, a3, a4, a5, a6⟩ H b1 b2 b3
    have d2 : k2.dj h2 := PH.dj_mono b3 a3 (PH.le_refl _)
    refine ⟨r1, k1, k2.un h2, a1, PH.le_trans a2 b1, PH.un_le (PH.le_trans a3 b1) b2, PH.dj_symm (PH.un_dj (PH.dj_symm a4) (PH.dj_symm (PH.dj_mono b3 a2 (PH.le_refl _)))), a5, ih a6 H (PH.le_un_left _ _) (PH.le_un_right d2) d2⟩

/-- Replaces the part of L by one that holds wherever L does. -/
theorem Sat.imp_left {L M L' : List SP} {r h : PH} (H : Sat (L ++ L') r h) (k : ∀ h', Sat L r h' → Sat M r h') : Sat (M ++ L') r h := by
  obtain ⟨h1, h2, a, b, c, d, e⟩ := H.split
  exact (k _ d).join e a b c

/-- The same of a world. -/
def SatW (L : List SP) (w : World) : Prop := ∃ r h, PH.le r (hw w) ∧ PH.le h (hw w) ∧ PH.dj r h ∧ Sat L r h

section
variable {L L' : List SP} {w w' : World} {P Q : SP}

theorem SatW.perm (H : SatW L w) (p : L.Perm L') : SatW L' w := by
  obtain ⟨r, h, a, b, c, d⟩ := H
  exact ⟨r, h, a, b, c, d.perm p⟩
theorem SatW.tail (H : SatW (P :: L) w) : SatW L w := by
  obtain ⟨r, h, a, b, c, d⟩ := H
  exact ⟨r, h, a, b, c, d.tail⟩
theorem SatW.app_right (H : SatW (L ++ L') w) : SatW L' w := by
  obtain ⟨r, h, a, b, c, d⟩ := H
  exact ⟨r, h, a, b, c, d.app_right⟩
theorem SatW.app_left (H : SatW (L ++ L') w) : SatW L w := by
  obtain ⟨r, h, a, b, c, d⟩ := H
  exact ⟨r, h, a, b, c, d.app_left⟩
theorem SatW.nil (w : World) : SatW [] w := ⟨PH.em, PH.em, PH.em_le _, PH.em_le _, PH.em_dj _, trivial⟩
/-- Only the blocks count. -/
theorem SatW.heap (H : SatW L w) (e : w'.heap = w.heap) : SatW L w' := by
  obtain ⟨r, h, a, b, c, d⟩ := H
  have : hw w' = hw w := by unfold hw; rw [e]
  exact ⟨r, h, this ▸ a, this ▸ b, c, d⟩
/-- A memory that has all that there was. -/
theorem SatW.more (H : SatW L w) (e : PH.le (hw w) (hw w')) : SatW L w' := by
  obtain ⟨r, h, a, b, c, d⟩ := H
  exact ⟨r, h, PH.le_trans a e, PH.le_trans b e, c, d⟩
theorem SatW.imp (H : SatW (P :: L) w) (k : ∀ r h, P r h → Q r h) : SatW (Q :: L) w := by
  obtain ⟨r, h, a, b, c, r1, h1, h2, a1, a2, a3, a4, a5, a6⟩ := H
  exact ⟨r, h, a, b, c, r1, h1, h2, a1, a2, a3, a4, k _ _ a5, a6⟩
end

/-- A block is just this. -/
def blk (b : Nat) (o : Obj) : SP := fun _ h => h b = some o
/-- A block is this, and stays so. -/
def ro (b : Nat) (o : Obj) : SP := fun r _ => r b = some o
/-- All of these blocks are as they are, and stay so. -/
def roAll (m : PH) : SP := fun r _ => m.le r
/-- Several assertions as one. -/
def star (L : List SP) : SP := fun r h => Sat L r h

section
variable {L L' : List SP} {w w' : World} {P Q : SP}

theorem le_hw_alloc (w : World) (o : Obj) : PH.le (hw w) (hw (w.alloc o)) := fun n x h => by
  unfold hw at *
  have hn : n < w.heap.size := (Array.getElem?_eq_some_iff.1 h).1
  rw [RowKit.Below.heap_alloc w o n hn]; exact h

theorem SatW.alloc (H : SatW L w) (o : Obj) : SatW (blk w.heap.size o :: L) (w.alloc o) := by
  obtain ⟨r, h, a, b, c, d⟩ := H
  have hnew : hw (w.alloc o) w.heap.size = some o := heap_alloc_new w o
  have hno : hw w w.heap.size = none := by unfold hw; simp
  have d1 : (PH.one w.heap.size o).dj h := fun n => by
    by_cases e : n = w.heap.size
    · subst e; exact .inr (PH.none_of_le b hno)
    · left; simp [PH.one, e]
  have d2 : r.dj (PH.one w.heap.size o) := fun n => by
    by_cases e : n = w.heap.size
    · subst e; exact .inl (PH.none_of_le a hno)
    · right; simp [PH.one, e]
  refine ⟨r, (PH.one w.heap.size o).un h, PH.le_trans a (le_hw_alloc w o), PH.un_le (PH.one_le hnew) (PH.le_trans b (le_hw_alloc w o)), PH.dj_symm (PH.un_dj (PH.dj_symm d2) (PH.dj_symm c)), ?_⟩
  exact ⟨PH.em, PH.one w.heap.size o, h, PH.em_le _, PH.le_un_left _ _, PH.le_un_right d1, d1, PH.one_self _ _, d⟩

theorem SatW.get {b : Nat} {o : Obj} (H : SatW (blk b o :: L) w) : w.heap[b]? = some o := by
  obtain ⟨r, h, a, hb, c, r1, h1, h2, a1, a2, a3, a4, a5, a6⟩ := H
  exact hb b o (a2 b o a5)

/-- What an assertion says of a block, of the world. -/
theorem SatW.reads {b : Nat} {o : Obj} (H : SatW (P :: L) w) (k : ∀ r h, r.dj h → P r h → (r.un h) b = some o) : w.heap[b]? = some o := by
  obtain ⟨r, h, a, hb, c, r1, h1, h2, a1, a2, a3, a4, a5, a6⟩ := H
  exact (PH.un_le (PH.le_trans a1 a) (PH.le_trans a2 hb)) b o (k r1 h1 (PH.dj_mono c a1 a2) a5)

theorem SatW.pure {p : Prop} (H : SatW (P :: L) w) (k : ∀ r h, P r h → p) : p := by
  obtain ⟨r, h, a, hb, c, r1, h1, h2, a1, a2, a3, a4, a5, a6⟩ := H
  exact k _ _ a5

theorem SatW.set {b : Nat} {o o' : Obj} (H : SatW (blk b o :: L) w) (hs : ∀ n, n ≠ b → w'.heap[n]? = w.heap[n]?) (hb' : w'.heap[b]? = some o') : SatW (blk b o' :: L) w' := by
  obtain ⟨r, h, a, hb, c, r1, h1, h2, a1, a2, a3, a4, a5, a6⟩ := H
  have hb5 : h1 b = some o := a5
  have h2b : h2 b = none := (a4 b).resolve_left (by rw [hb5]; simp)
  have rb : r b = none := (c b).resolve_right (by rw [a2 b o a5]; simp)
  have keep : ∀ x : PH, x.le (hw w) → x b = none → x.le (hw w') := fun x hx hxb n y hy => by
    by_cases e : n = b
    · subst e; rw [hxb] at hy; cases hy
    · show w'.heap[n]? = some y
      rw [hs n e]; exact hx n y hy
  have d1 : (PH.one b o').dj h2 := fun n => by
    by_cases e : n = b
    · subst e; exact .inr h2b
    · left; simp [PH.one, e]
  refine ⟨r, (PH.one b o').un h2, keep r a rb, PH.un_le (PH.one_le hb') (keep h2 (PH.le_trans a3 hb) h2b), PH.dj_symm (PH.un_dj (fun n => ?_) (PH.dj_symm (PH.dj_mono c (PH.le_refl _) a3))), ?_⟩
  · by_cases e : n = b
    · subst e; exact .inr rb
    · left; simp [PH.one, e]
  · exact ⟨PH.em, PH.one b o', h2, PH.em_le _, PH.le_un_left _ _, PH.le_un_right d1, d1, PH.one_self _ _, a6⟩

/-- What is owned may be given to all for reading, for good. -/
theorem SatW.share (H : SatW (P :: L) w) (k : ∀ r h, r.dj h → P r h → Q (r.un h) PH.em) : SatW (Q :: L) w := by
  obtain ⟨r, h, a, hb, c, r1, h1, h2, a1, a2, a3, a4, a5, a6⟩ := H
  have d : r.dj h1 := PH.dj_mono c (PH.le_refl _) a2
  have d' : r1.dj h1 := PH.dj_mono d a1 (PH.le_refl _)
  refine ⟨r.un h1, h2, PH.un_le a (PH.le_trans a2 hb), PH.le_trans a3 hb, PH.un_dj (PH.dj_mono c (PH.le_refl _) a3) a4, r1.un h1, PH.em, h2, PH.un_le (PH.le_trans a1 (PH.le_un_left _ _)) (PH.le_un_right d), PH.em_le _, PH.le_refl _, PH.em_dj _, k _ _ d' a5, a6.mono (PH.le_un_left _ _) (PH.le_refl _)⟩

/-- What only reads what all may read may be had twice. -/
def Pers (P : SP) : Prop := ∀ r h, P r h → P r PH.em
theorem SatW.dup (H : SatW (P :: L) w) (k : Pers P) : SatW (P :: P :: L) w := by
  obtain ⟨r, h, a, hb, c, r1, h1, h2, a1, a2, a3, a4, a5, a6⟩ := H
  exact ⟨r, h, a, hb, c, r1, PH.em, h, a1, PH.em_le _, PH.le_refl _, PH.em_dj _, k _ _ a5, r1, h1, h2, a1, a2, a3, a4, a5, a6⟩
/-- Such an assertion follows from another one, which stays. -/
theorem SatW.also (H : SatW (P :: L) w) (k : ∀ r h, P r h → Q r PH.em) : SatW (Q :: P :: L) w := by
  obtain ⟨r, h, a, hb, c, r1, h1, h2, a1, a2, a3, a4, a5, a6⟩ := H
  exact ⟨r, h, a, hb, c, r1, PH.em, h, a1, PH.em_le _, PH.le_refl _, PH.em_dj _, k _ _ a5, r1, h1, h2, a1, a2, a3, a4, a5, a6⟩

theorem SatW.unstar {M : List SP} (H : SatW (star M :: L) w) : SatW (M ++ L) w := by
  obtain ⟨r, h, a, hb, c, r1, h1, h2, a1, a2, a3, a4, a5, a6⟩ := H
  exact ⟨r, h, a, hb, c, Sat.join (Sat.mono (show Sat M r1 h1 from a5) a1 (PH.le_refl _)) a6 a2 a3 a4⟩
theorem SatW.restar {M : List SP} (H : SatW (M ++ L) w) : SatW (star M :: L) w := by
  obtain ⟨r, h, a, hb, c, d⟩ := H
  obtain ⟨h1, h2, b1, b2, b3, b4, b5⟩ := d.split
  exact ⟨r, h, a, hb, c, r, h1, h2, PH.le_refl _, b1, b2, b3, b4, b5⟩
/-- A list of assertions is turned into another one. -/
theorem SatW.turn {M M' : List SP} (H : SatW (M ++ L) w) (k : ∀ r h, Sat M r h → Sat M' r h) : SatW (M' ++ L) w := by
  obtain ⟨r, h, a, hb, c, d⟩ := H
  exact ⟨r, h, a, hb, c, d.imp_left fun h' x => k _ _ x⟩
/-- Out of an assertion: something of which it speaks. -/
theorem SatW.ex {X : Type} {F : X → SP} (H : SatW (P :: L) w) (k : ∀ r h, P r h → ∃ x, F x r h) : ∃ x, SatW (F x :: L) w := by
  obtain ⟨r, h, a, hb, c, r1, h1, h2, a1, a2, a3, a4, a5, a6⟩ := H
  obtain ⟨x, hx⟩ := k _ _ a5
  exact ⟨x, r, h, a, hb, c, r1, h1, h2, a1, a2, a3, a4, hx, a6⟩
theorem SatW.pull {p : Prop} (H : SatW (P :: L) w) (k : ∀ r h, P r h → p) : p ∧ SatW (P :: L) w := ⟨H.pure k, H⟩
end

theorem pers_ro (b : Nat) (o : Obj) : Pers (ro b o) := fun _ _ h => h
theorem pers_roAll (m : PH) : Pers (roAll m) := fun _ _ h => h

/-- The start: all memory is for reading. -/
theorem SatW.start (w : World) : SatW [roAll (hw w)] w :=
  ⟨hw w, PH.em, PH.le_refl _, PH.em_le _, PH.dj_em _, hw w, PH.em, PH.em, PH.le_refl _, PH.em_le _, PH.em_le _, PH.em_dj _, PH.le_refl _, trivial⟩
/-- The end: all that was to be read is as it was. -/
theorem SatW.stays {m : PH} {L : List SP} {w : World} (H : SatW (roAll m :: L) w) : PH.le m (hw w) := by
  obtain ⟨r, h, a, hb, c, r1, h1, h2, a1, a2, a3, a4, a5, a6⟩ := H
  exact PH.le_trans (show PH.le m r1 from a5) (PH.le_trans a1 a)
end Go.Proofs.Ytngfadijcpnblaa
