/- More rules: slices of slices; maps from integers. -/
import Derived.WalkKit
import Derived.Maps.AppendAt
import Derived.OrdersHeld
import Derived.MapKept
set_option linter.unusedSimpArgs false
set_option linter.unusedVariables false
/- Partial heaps and a small affine separation logic over the model's worlds: the base of all walks of this seat. -/
namespace Go.Proofs.YtkfnbpbhcnekiaaGreatDoor

/-- A partial heap: some blocks of the memory. -/
def PH := Nat → Option Obj
def PH.le (a b : PH) : Prop := ∀ n o, a n = some o → b n = some o
def PH.dj (a b : PH) : Prop := ∀ n, a n = none ∨ b n = none
def PH.em : PH := fun _ => none
def PH.one (n : Nat) (o : Obj) : PH := fun k => if k = n then some o else none
def PH.sub (a b : PH) : PH := fun n => match b n with | none => a n | some _ => none
def PH.un (a b : PH) : PH := fun n => match a n with | none => b n | some o => some o
/-- The whole memory of a world. -/
def hw (w : World) : PH := fun n => w.heap[n]?

theorem PH.le_refl (a : PH) : a.le a := fun _ _ h => h
theorem PH.le_trans {a b c : PH} (h : a.le b) (k : b.le c) : a.le c := fun n o x => k n o (h n o x)
theorem PH.em_le (a : PH) : PH.em.le a := fun _ _ h => by cases h
theorem PH.em_dj (a : PH) : PH.em.dj a := fun _ => .inl rfl
theorem PH.dj_em (a : PH) : a.dj PH.em := fun _ => .inr rfl
theorem PH.dj_symm {a b : PH} (h : a.dj b) : b.dj a := fun n => (h n).symm
theorem PH.none_of_le {a b : PH} (h : a.le b) {n : Nat} (hb : b n = none) : a n = none := by
  cases ha : a n with
  | none => rfl
  | some o => rw [h n o ha] at hb; cases hb
theorem PH.dj_mono {a b c d : PH} (h : c.dj d) (ha : a.le c) (hb : b.le d) : a.dj b :=
  fun n => (h n).imp (PH.none_of_le ha) (PH.none_of_le hb)
theorem PH.sub_le (a b : PH) : (a.sub b).le a := fun n o h => by
  unfold PH.sub at h
  cases hb : b n with
  | none => rw [hb] at h; exact h
  | some x => rw [hb] at h; cases h
theorem PH.sub_dj (a b : PH) : b.dj (a.sub b) := fun n => by
  cases hb : b n with
  | none => exact .inl rfl
  | some x => right; unfold PH.sub; rw [hb]
theorem PH.le_sub {a b c : PH} (h : a.le c) (d : a.dj b) : a.le (c.sub b) := fun n o ha => by
  rcases d n with h0 | h0
  · rw [h0] at ha; cases ha
  · unfold PH.sub; rw [h0]; exact h n o ha
theorem PH.one_self (n : Nat) (o : Obj) : PH.one n o n = some o := by simp [PH.one]
theorem PH.one_le {n : Nat} {o : Obj} {a : PH} (h : a n = some o) : (PH.one n o).le a := fun k x hx => by
  unfold PH.one at hx
  split at hx
  · rename_i e; subst e; rw [h]; exact hx
  · cases hx
theorem PH.le_un_left (a b : PH) : a.le (a.un b) := fun n o h => by unfold PH.un; rw [h]
theorem PH.le_un_right {a b : PH} (d : a.dj b) : b.le (a.un b) := fun n o h => by
  rcases d n with h0 | h0
  · unfold PH.un; rw [h0]; exact h
  · rw [h0] at h; cases h
theorem PH.un_le {a b c : PH} (ha : a.le c) (hb : b.le c) : (a.un b).le c := fun n o h => by
  unfold PH.un at h
  cases h0 : a n with
  | none => rw [h0] at h; exact hb n o h
  | some x => rw [h0] at h; exact ha n o (h0.trans h)
theorem PH.un_dj {a b c : PH} (ha : a.dj c) (hb : b.dj c) : (a.un b).dj c := fun n => by
  rcases hb n with h | h
  · rcases ha n with h' | h'
    · left; unfold PH.un; rw [h']; exact h
    · exact .inr h'
  · exact .inr h

/-- An assertion: of the part of memory that nobody writes any more, and of a part that is owned. -/
def SP := PH → PH → Prop

/-- Each assertion of a list holds, of parts that are apart from each other. -/
def Sat : List SP → PH → PH → Prop
  | [], _, _ => True
  | P :: L, r, h => ∃ r' h1 h2, PH.le r' r ∧ PH.le h1 h ∧ PH.le h2 h ∧ PH.dj h1 h2 ∧ P r' h1 ∧ Sat L r h2

theorem Sat.mono {L : List SP} : ∀ {r h r' h' : PH}, Sat L r h → r.le r' → h.le h' → Sat L r' h' := by
  induction L with
  | nil => intro _ _ _ _ _ _ _; trivial
  | cons P L ih =>
    rintro r h r' h' ⟨r0, h1, h2, a, b, c, d, e, f⟩ hr hh
    exact ⟨r0, h1, h2, PH.le_trans a hr, PH.le_trans b hh, PH.le_trans c hh, d, e, ih f hr (PH.le_refl _)⟩

theorem Sat.swap {P Q : SP} {L : List SP} {r h : PH} (H : Sat (P :: Q :: L) r h) : Sat (Q :: P :: L) r h := by
  obtain ⟨r1, h1, h2, a1, a2, a3, a4, a5, r3, h3, h4, b1, b2, b3, b4, b5, b6⟩ := H
  refine ⟨r3, h3, h.sub h3, b1, PH.le_trans b2 a3, PH.sub_le _ _, PH.sub_dj _ _, b5, r1, h1, h4, a1, PH.le_sub a2 (PH.dj_mono a4 (PH.le_refl _) b2), PH.le_sub (PH.le_trans b3 a3) (PH.dj_symm b4), PH.dj_mono a4 (PH.le_refl _) b3, a5, b6⟩

theorem Sat.cons_imp {P : SP} {L L' : List SP} {r h : PH} (H : Sat (P :: L) r h) (k : ∀ h', Sat L r h' → Sat L' r h') : Sat (P :: L') r h := by
  obtain ⟨r1, h1, h2, a1, a2, a3, a4, a5, a6⟩ := H
  exact ⟨r1, h1, h2, a1, a2, a3, a4, a5, k _ a6⟩

theorem Sat.perm {L L' : List SP} (p : L.Perm L') : ∀ {r h : PH}, Sat L r h → Sat L' r h := by
  induction p with
  | nil => exact fun h => h
  | cons x _ ih => exact fun H => H.cons_imp fun _ k => ih k
  | swap x y l => exact fun H => H.swap
  | trans _ _ ih1 ih2 => exact fun H => ih2 (ih1 H)

theorem Sat.tail {P : SP} {L : List SP} {r h : PH} (H : Sat (P :: L) r h) : Sat L r h := by
  obtain ⟨r1, h1, h2, a1, a2, a3, a4, a5, a6⟩ := H
  exact a6.mono (PH.le_refl _) a3

theorem Sat.app_left {L L' : List SP} : ∀ {r h : PH}, Sat (L ++ L') r h → Sat L r h := by
  induction L with
  | nil => intro _ _ _; trivial
  | cons P L ih => exact fun H => H.cons_imp fun _ k => ih k

theorem Sat.app_right {L L' : List SP} : ∀ {r h : PH}, Sat (L ++ L') r h → Sat L' r h := by
  induction L with
  | nil => exact fun h => h
  | cons P L ih => exact fun H => ih H.tail

theorem Sat.split {L L' : List SP} : ∀ {r h : PH}, Sat (L ++ L') r h → ∃ h1 h2, h1.le h ∧ h2.le h ∧ h1.dj h2 ∧ Sat L r h1 ∧ Sat L' r h2 := by
  induction L with
  | nil => intro r h H; exact ⟨PH.em, h, PH.em_le _, PH.le_refl _, PH.em_dj _, trivial, H⟩
  | cons P L ih =>
    rintro r h ⟨r1, h1, h2, a1, a2, a3, a4, a5, a6⟩
    obtain ⟨k1, k2, b1, b2, b3, b4, b5⟩ := ih a6
    have d1 : h1.dj k1 := PH.dj_mono a4 (PH.le_refl _) b1
    refine ⟨h1.un k1, k2, PH.un_le a2 (PH.le_trans b1 a3), PH.le_trans b2 a3, PH.un_dj (PH.dj_mono a4 (PH.le_refl _) b2) b3, ⟨r1, h1, k1, a1, PH.le_un_left _ _, PH.le_un_right d1, d1, a5, b4⟩, b5⟩

theorem Sat.join {L L' : List SP} : ∀ {r h h1 h2 : PH}, Sat L r h1 → Sat L' r h2 → h1.le h → h2.le h → h1.dj h2 → Sat (L ++ L') r h := by
  induction L with
  | nil => intro r h h1 h2 _ H _ b _; exact H.mono (PH.le_refl _) b
  | cons P L ih =>
    rintro r h h1 h2 ⟨r1, k1, k2, a1, a2, a3, a4, a5, a6⟩ H b1 b2 b3
    have d2 : k2.dj h2 := PH.dj_mono b3 a3 (PH.le_refl _)
    refine ⟨r1, k1, k2.un h2, a1, PH.le_trans a2 b1, PH.un_le (PH.le_trans a3 b1) b2, PH.dj_symm (PH.un_dj (PH.dj_symm a4) (PH.dj_symm (PH.dj_mono b3 a2 (PH.le_refl _)))), a5, ih a6 H (PH.le_un_left _ _) (PH.le_un_right d2) d2⟩

/-- Replaces the part of L by one that holds wherever L does. -/
theorem Sat.imp_left {L M L' : List SP} {r h : PH} (H : Sat (L ++ L') r h) (k : ∀ h', Sat L r h' → Sat M r h') : Sat (M ++ L') r h := by
  obtain ⟨h1, h2, a, b, c, d, e⟩ := H.split
  exact (k _ d).join e a b c

/-- The same of a world. -/
def SatW (L : List SP) (w : World) : Prop := ∃ r h, PH.le r (hw w) ∧ PH.le h (hw w) ∧ PH.dj r h ∧ Sat L r h

section
variable {L L' : List SP} {w w' : World} {P Q : SP}

theorem SatW.perm (H : SatW L w) (p : L.Perm L') : SatW L' w := by
  obtain ⟨r, h, a, b, c, d⟩ := H
  exact ⟨r, h, a, b, c, d.perm p⟩
theorem SatW.tail (H : SatW (P :: L) w) : SatW L w := by
  obtain ⟨r, h, a, b, c, d⟩ := H
  exact ⟨r, h, a, b, c, d.tail⟩
theorem SatW.app_right (H : SatW (L ++ L') w) : SatW L' w := by
  obtain ⟨r, h, a, b, c, d⟩ := H
  exact ⟨r, h, a, b, c, d.app_right⟩
theorem SatW.app_left (H : SatW (L ++ L') w) : SatW L w := by
  obtain ⟨r, h, a, b, c, d⟩ := H
  exact ⟨r, h, a, b, c, d.app_left⟩
theorem SatW.nil (w : World) : SatW [] w := ⟨PH.em, PH.em, PH.em_le _, PH.em_le _, PH.em_dj _, trivial⟩
/-- Only the blocks count. -/
theorem SatW.heap (H : SatW L w) (e : w'.heap = w.heap) : SatW L w' := by
  obtain ⟨r, h, a, b, c, d⟩ := H
  have : hw w' = hw w := by unfold hw; rw [e]
  exact ⟨r, h, this ▸ a, this ▸ b, c, d⟩
/-- A memory that has all that there was. -/
theorem SatW.more (H : SatW L w) (e : PH.le (hw w) (hw w')) : SatW L w' := by
  obtain ⟨r, h, a, b, c, d⟩ := H
  exact ⟨r, h, PH.le_trans a e, PH.le_trans b e, c, d⟩
theorem SatW.imp (H : SatW (P :: L) w) (k : ∀ r h, P r h → Q r h) : SatW (Q :: L) w := by
  obtain ⟨r, h, a, b, c, r1, h1, h2, a1, a2, a3, a4, a5, a6⟩ := H
  exact ⟨r, h, a, b, c, r1, h1, h2, a1, a2, a3, a4, k _ _ a5, a6⟩
end

/-- A block is just this. -/
def blk (b : Nat) (o : Obj) : SP := fun _ h => h b = some o
/-- A block is this, and stays so. -/
def ro (b : Nat) (o : Obj) : SP := fun r _ => r b = some o
/-- All of these blocks are as they are, and stay so. -/
def roAll (m : PH) : SP := fun r _ => m.le r
/-- Several assertions as one. -/
def star (L : List SP) : SP := fun r h => Sat L r h

section
variable {L L' : List SP} {w w' : World} {P Q : SP}

theorem le_hw_alloc (w : World) (o : Obj) : PH.le (hw w) (hw (w.alloc o)) := fun n x h => by
  unfold hw at *
  have hn : n < w.heap.size := (Array.getElem?_eq_some_iff.1 h).1
  rw [RowKit.Below.heap_alloc w o n hn]; exact h

theorem SatW.alloc (H : SatW L w) (o : Obj) : SatW (blk w.heap.size o :: L) (w.alloc o) := by
  obtain ⟨r, h, a, b, c, d⟩ := H
  have hnew : hw (w.alloc o) w.heap.size = some o := heap_alloc_new w o
  have hno : hw w w.heap.size = none := by unfold hw; simp
  have d1 : (PH.one w.heap.size o).dj h := fun n => by
    by_cases e : n = w.heap.size
    · subst e; exact .inr (PH.none_of_le b hno)
    · left; simp [PH.one, e]
  have d2 : r.dj (PH.one w.heap.size o) := fun n => by
    by_cases e : n = w.heap.size
    · subst e; exact .inl (PH.none_of_le a hno)
    · right; simp [PH.one, e]
  refine ⟨r, (PH.one w.heap.size o).un h, PH.le_trans a (le_hw_alloc w o), PH.un_le (PH.one_le hnew) (PH.le_trans b (le_hw_alloc w o)), PH.dj_symm (PH.un_dj (PH.dj_symm d2) (PH.dj_symm c)), ?_⟩
  exact ⟨PH.em, PH.one w.heap.size o, h, PH.em_le _, PH.le_un_left _ _, PH.le_un_right d1, d1, PH.one_self _ _, d⟩

theorem SatW.get {b : Nat} {o : Obj} (H : SatW (blk b o :: L) w) : w.heap[b]? = some o := by
  obtain ⟨r, h, a, hb, c, r1, h1, h2, a1, a2, a3, a4, a5, a6⟩ := H
  exact hb b o (a2 b o a5)

/-- What an assertion says of a block, of the world. -/
theorem SatW.reads {b : Nat} {o : Obj} (H : SatW (P :: L) w) (k : ∀ r h, r.dj h → P r h → (r.un h) b = some o) : w.heap[b]? = some o := by
  obtain ⟨r, h, a, hb, c, r1, h1, h2, a1, a2, a3, a4, a5, a6⟩ := H
  exact (PH.un_le (PH.le_trans a1 a) (PH.le_trans a2 hb)) b o (k r1 h1 (PH.dj_mono c a1 a2) a5)

theorem SatW.pure {p : Prop} (H : SatW (P :: L) w) (k : ∀ r h, P r h → p) : p := by
  obtain ⟨r, h, a, hb, c, r1, h1, h2, a1, a2, a3, a4, a5, a6⟩ := H
  exact k _ _ a5

theorem SatW.set {b : Nat} {o o' : Obj} (H : SatW (blk b o :: L) w) (hs : ∀ n, n ≠ b → w'.heap[n]? = w.heap[n]?) (hb' : w'.heap[b]? = some o') : SatW (blk b o' :: L) w' := by
  obtain ⟨r, h, a, hb, c, r1, h1, h2, a1, a2, a3, a4, a5, a6⟩ := H
  have hb5 : h1 b = some o := a5
  have h2b : h2 b = none := (a4 b).resolve_left (by rw [hb5]; simp)
  have rb : r b = none := (c b).resolve_right (by rw [a2 b o a5]; simp)
  have keep : ∀ x : PH, x.le (hw w) → x b = none → x.le (hw w') := fun x hx hxb n y hy => by
    by_cases e : n = b
    · subst e; rw [hxb] at hy; cases hy
    · show w'.heap[n]? = some y
      rw [hs n e]; exact hx n y hy
  have d1 : (PH.one b o').dj h2 := fun n => by
    by_cases e : n = b
    · subst e; exact .inr h2b
    · left; simp [PH.one, e]
  refine ⟨r, (PH.one b o').un h2, keep r a rb, PH.un_le (PH.one_le hb') (keep h2 (PH.le_trans a3 hb) h2b), PH.dj_symm (PH.un_dj (fun n => ?_) (PH.dj_symm (PH.dj_mono c (PH.le_refl _) a3))), ?_⟩
  · by_cases e : n = b
    · subst e; exact .inr rb
    · left; simp [PH.one, e]
  · exact ⟨PH.em, PH.one b o', h2, PH.em_le _, PH.le_un_left _ _, PH.le_un_right d1, d1, PH.one_self _ _, a6⟩

/-- What is owned may be given to all for reading, for good. -/
theorem SatW.share (H : SatW (P :: L) w) (k : ∀ r h, r.dj h → P r h → Q (r.un h) PH.em) : SatW (Q :: L) w := by
  obtain ⟨r, h, a, hb, c, r1, h1, h2, a1, a2, a3, a4, a5, a6⟩ := H
  have d : r.dj h1 := PH.dj_mono c (PH.le_refl _) a2
  have d' : r1.dj h1 := PH.dj_mono d a1 (PH.le_refl _)
  refine ⟨r.un h1, h2, PH.un_le a (PH.le_trans a2 hb), PH.le_trans a3 hb, PH.un_dj (PH.dj_mono c (PH.le_refl _) a3) a4, r1.un h1, PH.em, h2, PH.un_le (PH.le_trans a1 (PH.le_un_left _ _)) (PH.le_un_right d), PH.em_le _, PH.le_refl _, PH.em_dj _, k _ _ d' a5, a6.mono (PH.le_un_left _ _) (PH.le_refl _)⟩

/-- What only reads what all may read may be had twice. -/
def Pers (P : SP) : Prop := ∀ r h, P r h → P r PH.em
theorem SatW.dup (H : SatW (P :: L) w) (k : Pers P) : SatW (P :: P :: L) w := by
  obtain ⟨r, h, a, hb, c, r1, h1, h2, a1, a2, a3, a4, a5, a6⟩ := H
  exact ⟨r, h, a, hb, c, r1, PH.em, h, a1, PH.em_le _, PH.le_refl _, PH.em_dj _, k _ _ a5, r1, h1, h2, a1, a2, a3, a4, a5, a6⟩
/-- Such an assertion follows from another one, which stays. -/
theorem SatW.also (H : SatW (P :: L) w) (k : ∀ r h, P r h → Q r PH.em) : SatW (Q :: P :: L) w := by
  obtain ⟨r, h, a, hb, c, r1, h1, h2, a1, a2, a3, a4, a5, a6⟩ := H
  exact ⟨r, h, a, hb, c, r1, PH.em, h, a1, PH.em_le _, PH.le_refl _, PH.em_dj _, k _ _ a5, r1, h1, h2, a1, a2, a3, a4, a5, a6⟩

theorem SatW.unstar {M : List SP} (H : SatW (star M :: L) w) : SatW (M ++ L) w := by
  obtain ⟨r, h, a, hb, c, r1, h1, h2, a1, a2, a3, a4, a5, a6⟩ := H
  exact ⟨r, h, a, hb, c, Sat.join (Sat.mono (show Sat M r1 h1 from a5) a1 (PH.le_refl _)) a6 a2 a3 a4⟩
theorem SatW.restar {M : List SP} (H : SatW (M ++ L) w) : SatW (star M :: L) w := by
  obtain ⟨r, h, a, hb, c, d⟩ := H
  obtain ⟨h1, h2, b1, b2, b3, b4, b5⟩ := d.split
  exact ⟨r, h, a, hb, c, r, h1, h2, PH.le_refl _, b1, b2, b3, b4, b5⟩
/-- A list of assertions is turned into another one. -/
theorem SatW.turn {M M' : List SP} (H : SatW (M ++ L) w) (k : ∀ r h, Sat M r h → Sat M' r h) : SatW (M' ++ L) w := by
  obtain ⟨r, h, a, hb, c, d⟩ := H
  exact ⟨r, h, a, hb, c, d.imp_left fun h' x => k _ _ x⟩
/-- Out of an assertion: something of which it speaks. -/
theorem SatW.ex {X : Type} {F : X → SP} (H : SatW (P :: L) w) (k : ∀ r h, P r h → ∃ x, F x r h) : ∃ x, SatW (F x :: L) w := by
  obtain ⟨r, h, a, hb, c, r1, h1, h2, a1, a2, a3, a4, a5, a6⟩ := H
  obtain ⟨x, hx⟩ := k _ _ a5
  exact ⟨x, r, h, a, hb, c, r1, h1, h2, a1, a2, a3, a4, hx, a6⟩
theorem SatW.pull {p : Prop} (H : SatW (P :: L) w) (k : ∀ r h, P r h → p) : p ∧ SatW (P :: L) w := ⟨H.pure k, H⟩
end

theorem pers_ro (b : Nat) (o : Obj) : Pers (ro b o) := fun _ _ h => h
theorem pers_roAll (m : PH) : Pers (roAll m) := fun _ _ h => h

/-- The start: all memory is for reading. -/
theorem SatW.start (w : World) : SatW [roAll (hw w)] w :=
  ⟨hw w, PH.em, PH.le_refl _, PH.em_le _, PH.dj_em _, hw w, PH.em, PH.em, PH.le_refl _, PH.em_le _, PH.em_le _, PH.em_dj _, PH.le_refl _, trivial⟩
/-- The end: all that was to be read is as it was. -/
theorem SatW.stays {m : PH} {L : List SP} {w : World} (H : SatW (roAll m :: L) w) : PH.le m (hw w) := by
  obtain ⟨r, h, a, hb, c, r1, h1, h2, a1, a2, a3, a4, a5, a6⟩ := H
  exact PH.le_trans (show PH.le m r1 from a5) (PH.le_trans a1 a)
end Go.Proofs.YtkfnbpbhcnekiaaGreatDoor

/- Symbolic values, what a symbolic state says of a frame and a world, and what single operations do to it. -/
namespace Go.Proofs.YtkfnbpbhcnekiaaGreatDoor
open Go.RowKit

/-- One cell: a value, or an address, or a slice, of a block of the call's own that bears a label. -/
inductive Ce where
  | v (x : Value)
  | loc (l o : Nat)
  | locs (l o n c : Nat)
  /-- An interface that holds such an address. -/
  | ifl (t l o : Nat)
  /-- A slice that reaches to the end of a block that may grow: label l + 1 bears its capacity. -/
  | gro (l o n e : Nat)
  /-- What is left behind the last one of k elements of such a slice: its place hangs on the capacity. -/
  | tl (l o k sz e : Nat)
/-- A value in a slot. -/
inductive SV where
  | c (x : Ce)
  | agg (cs : List Ce)
  | tup (vs : List Value)
  | kb (b : Bool)
  /-- Several results: true: a struct or an array. -/
  | tps (vs : List (Bool × List Ce))

def Ce.den (β : Nat → Nat) : Ce → Value
  | .v x => x
  | .loc l o => .pointer (some ⟨β l, o, none⟩)
  | .locs l o n c => .slice (some ⟨β l, o, none⟩) n c
  | .ifl t l o => .iface t (.pointer (some ⟨β l, o, none⟩))
  | .gro l o n e => .slice (some ⟨β l, o, none⟩) n (β (l + 1) - e)
  | .tl l o k sz e => .slice (some ⟨β l, if β (l + 1) - e = k then o else o + k * sz, none⟩) 0 (β (l + 1) - e - k)
def tpDen (β : Nat → Nat) : Bool × List Ce → Value
  | (true, cs) => .agg (cs.map (Ce.den β)).toArray
  | (false, [x]) => x.den β
  | (false, _) => .tuple #[]
def SV.den (β : Nat → Nat) : SV → Value
  | .c x => x.den β
  | .agg cs => .agg (cs.map (Ce.den β)).toArray
  | .tup vs => .tuple vs.toArray
  | .kb b => .bool b
  | .tps vs => .tuple (vs.map (tpDen β)).toArray

/-- A value as a symbolic one. -/
def ofV : Value → SV
  | .agg a => .agg (a.toList.map .v)
  | .tuple a => .tup a.toList
  | x => .c (.v x)
theorem ofV_den (β : Nat → Nat) (x : Value) : (ofV x).den β = x := by
  have e : (Ce.den β ∘ Ce.v) = id := rfl
  cases x <;> simp [ofV, SV.den, Ce.den, e]

def plain : Value → Bool
  | .agg _ => false
  | .tuple _ => false
  | _ => true
def Ce.plain : Ce → Bool
  | .v x => YtkfnbpbhcnekiaaGreatDoor.plain x
  | _ => true

abbrev Env := List (Nat × SV)
abbrev Mem := List (Nat × Nat × List Ce)
abbrev Bnd := List (Nat × Nat)
abbrev Res := List (Nat × SP)

def look : Env → Nat → Option SV
  | [], _ => none
  | (s, x) :: r, k => match Nat.beq s k with
    | true => some x
    | false => look r k
def lookM : Mem → Nat → Option (Nat × List Ce)
  | [], _ => none
  | (s, x) :: r, k => match Nat.beq s k with
    | true => some x
    | false => lookM r k
def lookB : Bnd → Nat → Option Nat
  | [], _ => none
  | (s, x) :: r, k => match Nat.beq s k with
    | true => some x
    | false => lookB r k
/-- The block of a label gets other cells. -/
def setM : Mem → Nat → List Ce → Mem
  | [], _, _ => []
  | (s, t, x) :: r, k, cs => match Nat.beq s k with
    | true => (s, t, cs) :: r
    | false => (s, t, x) :: setM r k cs
def setMo : Mem → Nat → List Ce → Option Mem
  | [], _, _ => some []
  | (s, t, x) :: r, k, cs => match Nat.beq s k with
    | true => some ((s, t, cs) :: r)
    | false => match setMo r k cs with
      | some r' => some ((s, t, x) :: r')
      | none => none
theorem setMo_eq : ∀ (m : Mem) (k : Nat) (cs : List Ce), setMo m k cs = some (setM m k cs)
  | [], _, _ => rfl
  | (s, t, x) :: r, k, cs => by
    simp only [setMo, setM, setMo_eq r k cs]
    cases Nat.beq s k <;> rfl
def delM : Mem → Nat → Mem
  | [], _ => []
  | (s, x) :: r, k => match Nat.beq s k with
    | true => r
    | false => (s, x) :: delM r k

def delMo : Mem → Nat → Option Mem
  | [], _ => some []
  | (s, x) :: r, k => match Nat.beq s k with
    | true => some r
    | false => match delMo r k with
      | some r' => some ((s, x) :: r')
      | none => none
theorem delMo_eq : ∀ (m : Mem) (k : Nat), delMo m k = some (delM m k)
  | [], _ => rfl
  | (s, x) :: r, k => by
    simp only [delMo, delM, delMo_eq r k]
    cases Nat.beq s k <;> rfl

def getL {α : Type} : List α → Nat → Option α
  | [], _ => none
  | x :: _, 0 => some x
  | _ :: r, k + 1 => getL r k
theorem getL_eq {α : Type} (l : List α) : ∀ k, getL l k = l[k]? := by
  induction l with
  | nil => intro k; rfl
  | cons x r ih => intro k; cases k <;> simp [getL, ih]
def setL {α : Type} : List α → Nat → α → List α
  | [], _, _ => []
  | _ :: r, 0, y => y :: r
  | x :: r, k + 1, y => x :: setL r k y
theorem setL_eq {α : Type} (l : List α) : ∀ k y, setL l k y = l.set k y := by
  induction l with
  | nil => intro k y; rfl
  | cons x r ih => intro k y; cases k <;> simp [setL, ih]
/-- Some cells, from a place on. -/
def setsL {α : Type} : List α → Nat → List α → List α
  | l, _, [] => l
  | l, k, y :: ys => setsL (setL l k y) (k + 1) ys

/-- Where the function is, and what it should come to. -/
structure Cx where
  P : Program
  f : FuncId
  fn : Func
  n : Nat
  R : Value → List SP → Prop
  F : List SP
  os : Os
  tape : Nat → Question → Nat
  output : Array (Nat × ByteArray)

def cellsOf (β : Nat → Nat) (cs : List Ce) : Array Value := (cs.map (Ce.den β)).toArray
def memSP (β : Nat → Nat) (m : Mem) : List SP := m.map fun x => blk (β x.1) (.cells (cellsOf β x.2.2) x.2.1 (0, 0))

structure Rel (g : Cx) (β : Nat → Nat) (env : Env) (mem : Mem) (bnd : Bnd) (L : Res) (a : Act) (w : World) : Prop where
  defers : a.defers = []
  size : a.tmps.size = g.n
  env : ∀ s x, look env s = some x → a.tmps[s]? = some (x.den β)
  bnd : ∀ l b, lookB bnd l = some b → β l = b
  os : w.os = g.os
  tape : w.tape = g.tape
  output : w.output = g.output
  sat : SatW (memSP β mem ++ (L.map (·.2) ++ g.F)) w

/-- From each frame and world of which the state holds, N. -/
def Nx (g : Cx) (env : Env) (mem : Mem) (bnd : Bnd) (L : Res) (N : Act → World → Prop) : Prop :=
  ∀ β a w, Rel g β env mem bnd L a w → N a w

/-! ### Operands -/
/-- A known bool as any other one. -/
def nrm : Option SV → Option SV
  | some (.kb b) => some (.c (.v (.bool b)))
  | r => r
def ev (env : Env) : Operand → Option SV
  | .tmp t => look env t
  | .const v => match v with
    | .agg a => some (.agg (a.toList.map .v))
    | .tuple a => some (.tup a.toList)
    | .bool b => some (.kb b)
    | x => some (.c (.v x))
  | .global b => some (.c (.v (.pointer (some ⟨b, 0, none⟩))))
  | .func f => some (.c (.v (.func (.func f) #[] #[])))

section
variable {g : Cx} {β : Nat → Nat} {env : Env} {mem : Mem} {bnd : Bnd} {L : Res} {a : Act} {w : World}

theorem Rel.ev (h : Rel g β env mem bnd L a w) {x : Operand} {s : SV} (he : ev env x = some s) : a.eval x = s.den β := by
  cases x with
  | tmp t =>
    have := h.env t s he
    simp [Act.eval, Array.getD_eq_getD_getElem?, this]
  | const v =>
    by_cases hb : ∃ b, v = .bool b
    · obtain ⟨b, rfl⟩ := hb
      simp only [YtkfnbpbhcnekiaaGreatDoor.ev, Option.some.injEq] at he; subst he; rfl
    · have : YtkfnbpbhcnekiaaGreatDoor.ev env (.const v) = some (ofV v) := by
        cases v <;> first | rfl | exact absurd ⟨_, rfl⟩ hb
      rw [this] at he
      simp only [Option.some.injEq] at he; subst he; exact (ofV_den β v).symm
  | global b => simp only [YtkfnbpbhcnekiaaGreatDoor.ev, Option.some.injEq] at he; subst he; rfl
  | func f => simp only [YtkfnbpbhcnekiaaGreatDoor.ev, Option.some.injEq] at he; subst he; rfl

theorem Rel.evn (h : Rel g β env mem bnd L a w) {x : Operand} {s : SV} (he : nrm (YtkfnbpbhcnekiaaGreatDoor.ev env x) = some s) : a.eval x = s.den β := by
  cases hx : YtkfnbpbhcnekiaaGreatDoor.ev env x with
  | none => rw [hx] at he; cases he
  | some y =>
    rw [hx] at he
    have := h.ev hx
    cases y <;> (simp only [nrm, Option.some.injEq] at he; subst he; exact this)

theorem look_cons (s k : Nat) (x : SV) (r : Env) : look ((s, x) :: r) k = if s = k then some x else look r k := by
  simp only [look]
  by_cases e : s = k
  · subst e; simp
  · have : Nat.beq s k = false := by rw [← Bool.not_eq_true, Nat.beq_eq]; exact e
    simp [this, e]
theorem lookM_cons (s k : Nat) (x : Nat × List Ce) (r : Mem) : lookM ((s, x) :: r) k = if s = k then some x else lookM r k := by
  simp only [lookM]
  by_cases e : s = k
  · subst e; simp
  · have : Nat.beq s k = false := by rw [← Bool.not_eq_true, Nat.beq_eq]; exact e
    simp [this, e]
theorem lookB_cons (s k : Nat) (x : Nat) (r : Bnd) : lookB ((s, x) :: r) k = if s = k then some x else lookB r k := by
  simp only [lookB]
  by_cases e : s = k
  · subst e; simp
  · have : Nat.beq s k = false := by rw [← Bool.not_eq_true, Nat.beq_eq]; exact e
    simp [this, e]

def putE (d : Option Tmp) (x : SV) (env : Env) : Env :=
  match d with
  | some d => (d, x) :: env
  | none => env
/-- The slot that is written is one of the frame's. -/
def dstOk (n : Nat) : Option Tmp → Bool
  | some d => Nat.blt d n
  | none => true

theorem Rel.put (h : Rel g β env mem bnd L a w) (d : Option Tmp) (x : SV) (hd : dstOk g.n d = true) : Rel g β (putE d x env) mem bnd L (a.put d (x.den β)) w := by
  cases d with
  | none => exact h
  | some d =>
    have hd' : d < g.n := by simpa [dstOk, Nat.blt_eq] using hd
    refine ⟨h.defers, by simp [Act.put, h.size], ?_, h.bnd, h.os, h.tape, h.output, h.sat⟩
    intro s y hy
    simp only [putE, look_cons] at hy
    by_cases e : d = s
    · subst e
      simp at hy
      subst hy
      simp [Act.put, h.size, hd']
    · rw [if_neg e] at hy
      simp only [Act.put, Array.getElem?_setIfInBounds_ne e]
      exact h.env s y hy

theorem Rel.world {w' : World} (h : Rel g β env mem bnd L a w) (e : w'.heap = w.heap) (e1 : w'.os = w.os) (e2 : w'.tape = w.tape) (e3 : w'.output = w.output) : Rel g β env mem bnd L a w' :=
  ⟨h.defers, h.size, h.env, h.bnd, e1.trans h.os, e2.trans h.tape, e3.trans h.output, h.sat.heap e⟩
end

/-! ### Perms of a state's assertions -/
theorem lookM_perm {β : Nat → Nat} : ∀ {m : Mem} {l t : Nat} {cs : List Ce}, lookM m l = some (t, cs) →
    (memSP β m).Perm (blk (β l) (.cells (cellsOf β cs) t (0, 0)) :: memSP β (delM m l))
  | [], _, _, _, h => by cases h
  | (s, x) :: r, l, t, cs, h => by
    rw [lookM_cons] at h
    by_cases e : s = l
    · subst e
      simp only [if_true, Option.some.injEq] at h
      subst h
      simp [delM, memSP]
    · rw [if_neg e] at h
      have hb : Nat.beq s l = false := by rw [← Bool.not_eq_true, Nat.beq_eq]; exact e
      have ih := lookM_perm (β := β) h
      simp only [delM, hb]
      exact (List.Perm.cons _ ih).trans (List.Perm.swap _ _ _)
theorem setM_perm {β : Nat → Nat} : ∀ {m : Mem} {l t : Nat} {cs : List Ce} (cs' : List Ce), lookM m l = some (t, cs) →
    (memSP β (setM m l cs')).Perm (blk (β l) (.cells (cellsOf β cs') t (0, 0)) :: memSP β (delM m l))
  | [], _, _, _, _, h => by cases h
  | (s, t', x) :: r, l, t, cs, cs', h => by
    rw [lookM_cons] at h
    by_cases e : s = l
    · subst e
      simp only [if_true, Option.some.injEq] at h
      cases h
      simp [delM, setM, memSP]
    · rw [if_neg e] at h
      have hb : Nat.beq s l = false := by rw [← Bool.not_eq_true, Nat.beq_eq]; exact e
      have ih := setM_perm (β := β) cs' h
      simp only [delM, setM, hb]
      exact (List.Perm.cons _ ih).trans (List.Perm.swap _ _ _)

section
variable {g : Cx} {β : Nat → Nat} {env : Env} {mem : Mem} {bnd : Bnd} {L : Res} {a : Act} {w : World}
theorem Rel.block (h : Rel g β env mem bnd L a w) {l t : Nat} {cs : List Ce} (hl : lookM mem l = some (t, cs)) : w.heap[β l]? = some (.cells (cellsOf β cs) t (0, 0)) :=
  (h.sat.perm ((lookM_perm hl).append_right _)).get

theorem size_cellsOf (β : Nat → Nat) (cs : List Ce) : (cellsOf β cs).size = cs.length := by simp [cellsOf]
theorem getElem?_cellsOf (β : Nat → Nat) (cs : List Ce) (j : Nat) : (cellsOf β cs)[j]? = (cs[j]?).map (Ce.den β) := by simp [cellsOf]
theorem Rel.cell (h : Rel g β env mem bnd L a w) {l t : Nat} {cs : List Ce} (hl : lookM mem l = some (t, cs)) (o : Nat) : w.cell? ⟨β l, o, none⟩ = (cs[o]?).map (Ce.den β) := by
  rw [cell_of_row w _ _ _ _ _ (h.block hl), getElem?_cellsOf]

/-- A block gets other cells. -/
theorem Rel.setBlock (h : Rel g β env mem bnd L a w) {l t : Nat} {cs cs' : List Ce} (hl : lookM mem l = some (t, cs)) {w' : World} (e1 : w'.os = w.os) (e2 : w'.tape = w.tape) (e3 : w'.output = w.output)
    (hs : ∀ n, n ≠ β l → w'.heap[n]? = w.heap[n]?) (hb : w'.heap[β l]? = some (.cells (cellsOf β cs') t (0, 0))) : Rel g β env (setM mem l cs') bnd L a w' :=
  ⟨h.defers, h.size, h.env, h.bnd, e1.trans h.os, e2.trans h.tape, e3.trans h.output,
    (SatW.set (h.sat.perm ((lookM_perm hl).append_right _)) hs hb).perm ((setM_perm cs' hl).append_right _).symm⟩

/-! ### Labels that nobody bears -/
def Ce.no (l : Nat) : Ce → Bool
  | .v _ => true
  | .loc k _ => !Nat.beq k l
  | .locs k _ _ _ => !Nat.beq k l
  | .ifl _ k _ => !Nat.beq k l
  | .gro k _ _ _ => match Nat.beq k l with
    | true => false
    | false => !Nat.beq (k + 1) l
  | .tl k _ _ _ _ => match Nat.beq k l with
    | true => false
    | false => !Nat.beq (k + 1) l
def allNo (l : Nat) : List Ce → Bool
  | [] => true
  | x :: r => match x.no l with
    | true => allNo l r
    | false => false
def tpsNo (l : Nat) : List (Bool × List Ce) → Bool
  | [] => true
  | (_, cs) :: r => match allNo l cs with
    | true => tpsNo l r
    | false => false
def SV.no (l : Nat) : SV → Bool
  | .c x => x.no l
  | .agg cs => allNo l cs
  | .tup _ => true
  | .kb _ => true
  | .tps vs => tpsNo l vs
def freshE (l : Nat) : Env → Bool
  | [] => true
  | (_, x) :: r => match x.no l with
    | true => freshE l r
    | false => false
def freshM (l : Nat) : Mem → Bool
  | [] => true
  | (s, _, cs) :: r => match Nat.beq s l with
    | true => false
    | false => match allNo l cs with
      | true => freshM l r
      | false => false
def freshB (l : Nat) : Bnd → Bool
  | [] => true
  | (s, _) :: r => match Nat.beq s l with
    | true => false
    | false => freshB l r
def fresh (l : Nat) (env : Env) (mem : Mem) (bnd : Bnd) : Bool :=
  match freshE l env with
  | true => match freshM l mem with
    | true => freshB l bnd
    | false => false
  | false => false

def upd (β : Nat → Nat) (l b : Nat) : Nat → Nat := fun k => if k = l then b else β k
theorem upd_self (β : Nat → Nat) (l b : Nat) : upd β l b l = b := by simp [upd]
theorem upd_ne {β : Nat → Nat} {l b k : Nat} (h : k ≠ l) : upd β l b k = β k := by simp [upd, h]

theorem Ce.den_upd {x : Ce} {β : Nat → Nat} {l b : Nat} (h : x.no l = true) : x.den (upd β l b) = x.den β := by
  cases x with
  | v x => rfl
  | loc k o =>
    have : k ≠ l := by intro e; subst e; simp [Ce.no] at h
    simp [Ce.den, upd_ne this]
  | locs k o n c =>
    have : k ≠ l := by intro e; subst e; simp [Ce.no] at h
    simp [Ce.den, upd_ne this]
  | ifl t k o =>
    have : k ≠ l := by intro e; subst e; simp [Ce.no] at h
    simp [Ce.den, upd_ne this]
  | gro k o n c =>
    have h1 : k ≠ l := by intro e; subst e; simp [Ce.no] at h
    have h2 : k + 1 ≠ l := by
      intro e
      have hb : Nat.beq k l = false := by rw [← Bool.not_eq_true, Nat.beq_eq]; exact h1
      simp [Ce.no, hb] at h
      rw [← Bool.not_eq_true, Nat.beq_eq] at h
      exact h e
    simp [Ce.den, upd_ne h1, upd_ne h2]
  | tl k o n z c =>
    have h1 : k ≠ l := by intro e; subst e; simp [Ce.no] at h
    have h2 : k + 1 ≠ l := by
      intro e
      have hb : Nat.beq k l = false := by rw [← Bool.not_eq_true, Nat.beq_eq]; exact h1
      simp [Ce.no, hb] at h
      rw [← Bool.not_eq_true, Nat.beq_eq] at h
      exact h e
    simp [Ce.den, upd_ne h1, upd_ne h2]
theorem allNo_mem {l : Nat} : ∀ {cs : List Ce}, allNo l cs = true → ∀ x ∈ cs, x.no l = true
  | [], _, x, hx => by cases hx
  | y :: r, h, x, hx => by
    unfold allNo at h
    cases hy : y.no l with
    | false => rw [hy] at h; cases h
    | true =>
      rw [hy] at h
      cases hx with
      | head => exact hy
      | tail _ hm => exact allNo_mem h x hm
theorem map_den_upd {cs : List Ce} {β : Nat → Nat} {l b : Nat} (h : allNo l cs = true) : cs.map (Ce.den (upd β l b)) = cs.map (Ce.den β) :=
  List.map_congr_left fun x hx => Ce.den_upd (allNo_mem h x hx)
theorem tps_den_upd {β : Nat → Nat} {l b : Nat} : ∀ {vs : List (Bool × List Ce)}, tpsNo l vs = true → vs.map (tpDen (upd β l b)) = vs.map (tpDen β)
  | [], _ => rfl
  | (c, cs) :: r, h => by
    unfold tpsNo at h
    cases hc : allNo l cs with
    | false => rw [hc] at h; cases h
    | true =>
      rw [hc] at h
      rw [List.map_cons, List.map_cons, tps_den_upd h]
      congr 1
      cases c with
      | true => simp only [tpDen]; rw [map_den_upd hc]
      | false =>
        match cs, hc with
        | [], _ => rfl
        | [x], hc => exact Ce.den_upd (allNo_mem hc x (by simp))
        | _ :: _ :: _, _ => rfl
theorem SV.den_upd {x : SV} {β : Nat → Nat} {l b : Nat} (h : x.no l = true) : x.den (upd β l b) = x.den β := by
  cases x with
  | c x => exact Ce.den_upd h
  | agg cs => simp only [SV.den]; rw [map_den_upd h]
  | tup vs => rfl
  | kb b => rfl
  | tps vs => simp only [SV.den]; rw [tps_den_upd h]
theorem freshE_look {l : Nat} : ∀ {env : Env}, freshE l env = true → ∀ s x, look env s = some x → x.no l = true
  | [], _, s, x, hx => by cases hx
  | (k, y) :: r, h, s, x, hx => by
    unfold freshE at h
    cases hy : y.no l with
    | false => rw [hy] at h; cases h
    | true =>
      rw [hy] at h
      rw [look_cons] at hx
      split at hx
      · cases hx; exact hy
      · exact freshE_look h s x hx
theorem freshB_look {l : Nat} : ∀ {bnd : Bnd}, freshB l bnd = true → ∀ s x, lookB bnd s = some x → s ≠ l
  | [], _, s, x, hx => by cases hx
  | (k, y) :: r, h, s, x, hx => by
    unfold freshB at h
    cases hy : Nat.beq k l with
    | true => rw [hy] at h; cases h
    | false =>
      rw [hy] at h
      rw [lookB_cons] at hx
      split at hx
      · rename_i e
        subst e
        intro e2
        subst e2
        simp at hy
      · exact freshB_look h s x hx
theorem freshM_mem {β : Nat → Nat} {l b : Nat} : ∀ {mem : Mem}, freshM l mem = true → memSP (upd β l b) mem = memSP β mem
  | [], _ => rfl
  | (s, t, cs) :: r, h => by
    unfold freshM at h
    cases hy : Nat.beq s l with
    | true => rw [hy] at h; cases h
    | false =>
      rw [hy] at h
      cases hc : allNo l cs with
      | false => rw [hc] at h; cases h
      | true =>
        rw [hc] at h
        have hs : s ≠ l := by intro e; subst e; simp at hy
        have ih := freshM_mem (β := β) (b := b) h
        simp only [memSP, List.map_cons] at ih ⊢
        rw [ih, upd_ne hs]
        simp only [cellsOf]
        rw [map_den_upd hc]

theorem fresh_parts {l : Nat} (h : fresh l env mem bnd = true) : freshE l env = true ∧ freshM l mem = true ∧ freshB l bnd = true := by
  unfold fresh at h
  cases h1 : freshE l env with
  | false => rw [h1] at h; cases h
  | true =>
    rw [h1] at h
    cases h2 : freshM l mem with
    | false => rw [h2] at h; cases h
    | true => rw [h2] at h; exact ⟨rfl, rfl, h⟩

/-- A new block bears a label that nobody bears. -/
theorem Rel.alloc (h : Rel g β env mem bnd L a w) {l : Nat} (hf : fresh l env mem bnd = true) (t : Nat) (cs : List Ce) (hc : allNo l cs = true) :
    Rel g (upd β l w.heap.size) env ((l, t, cs) :: mem) bnd L a (w.alloc (.cells (cellsOf β cs) t)) := by
  obtain ⟨h1, h2, h3⟩ := fresh_parts hf
  refine ⟨h.defers, h.size, ?_, ?_, h.os, h.tape, h.output, ?_⟩
  · intro s x hx
    rw [SV.den_upd (freshE_look h1 s x hx)]
    exact h.env s x hx
  · intro k b hk
    rw [upd_ne (freshB_look h3 k b hk)]
    exact h.bnd k b hk
  · have := h.sat.alloc (.cells (cellsOf β cs) t)
    have e1 : memSP (upd β l w.heap.size) ((l, t, cs) :: mem) = blk w.heap.size (.cells (cellsOf β cs) t) :: memSP β mem := by
      have := freshM_mem (β := β) (b := w.heap.size) h2
      simp only [memSP, List.map_cons, cellsOf] at this ⊢
      rw [this, upd_self, map_den_upd hc]
    rw [e1]
    exact this
end
end Go.Proofs.YtkfnbpbhcnekiaaGreatDoor

/- Single operations upon a symbolic state: those that leave memory as it is. -/
namespace Go.Proofs.YtkfnbpbhcnekiaaGreatDoor
open Go.RowKit

/-- What an operation leaves: a value; a struct or array of cells; an integer that may have to be wrapped; it isn't known. -/
inductive Out where
  | val (x : SV)
  | cells (cs : List Ce)
  | ar (k : IntKind) (n : Int)
  | no

/-- So many of a list, from a place on. -/
def cutL {α : Type} : List α → Nat → Nat → Option (List α)
  | _, 0, 0 => some []
  | [], 0, _ + 1 => none
  | x :: r, 0, n + 1 => match cutL r 0 n with
    | some ys => some (x :: ys)
    | none => none
  | [], _ + 1, _ => none
  | _ :: r, k + 1, n => cutL r k n

theorem cutL_zero {α : Type} : ∀ (l : List α) (n : Nat) (ys : List α), cutL l 0 n = some ys → ys.length = n ∧ ∀ j, j < n → l[j]? = ys[j]?
  | l, 0, ys, h => by
    cases l <;> (simp only [cutL, Option.some.injEq] at h; subst h; exact ⟨rfl, fun j hj => absurd hj (by omega)⟩)
  | [], n + 1, ys, h => by simp [cutL] at h
  | x :: r, n + 1, ys, h => by
    simp only [cutL] at h
    cases hr : cutL r 0 n with
    | none => rw [hr] at h; cases h
    | some zs =>
      rw [hr] at h
      cases h
      obtain ⟨h1, h2⟩ := cutL_zero r n zs hr
      refine ⟨by simp [h1], fun j hj => ?_⟩
      cases j with
      | zero => rfl
      | succ j => simpa using h2 j (by omega)
theorem cutL_spec {α : Type} : ∀ (l : List α) (o n : Nat) (ys : List α), cutL l o n = some ys → ys.length = n ∧ ∀ j, j < n → l[o + j]? = ys[j]?
  | l, 0, n, ys, h => by simpa using cutL_zero l n ys h
  | [], o + 1, n, ys, h => by simp [cutL] at h
  | x :: r, o + 1, n, ys, h => by
    simp only [cutL] at h
    obtain ⟨h1, h2⟩ := cutL_spec r o n ys h
    refine ⟨h1, fun j hj => ?_⟩
    rw [show o + 1 + j = (o + j) + 1 from by omega]
    simpa using h2 j hj

/-- Cells as values, if all are plain values. -/
def valsO : List Value → Option (List Ce)
  | [] => some []
  | x :: r => match valsO r with
    | some ys => some (.v x :: ys)
    | none => none
theorem valsO_eq : ∀ l : List Value, valsO l = some (l.map .v)
  | [] => rfl
  | x :: r => by simp [valsO, valsO_eq r]

/-- Is a type's value many cells: how many? -/
inductive Agg where
  | one
  | many (n : Nat)
  | no
def aggOf (P : Program) (t : TypeId) : Agg :=
  match P.underlying t with
  | some (.struct _) | some (.array _ _) => match P.info? t with
    | some i => .many i.size
    | none => .no
  | some _ => .one
  | none => .no

theorem run_isAgg_of {P : Program} {t : TypeId} {d : TypeDesc} (hd : P.underlying t = some d) (w : World) : (isAgg t).run P w = .ok (match d with | .struct _ => true | .array _ _ => true | _ => false) w := by
  unfold isAgg
  rw [Sem.run_bind, run_underlying hd]
  cases d <;> rfl
theorem aggOf_one {P : Program} {t : TypeId} (h : aggOf P t = .one) (w : World) : (isAgg t).run P w = .ok false w := by
  unfold aggOf at h
  cases hd : P.underlying t with
  | none => simp [hd] at h
  | some d =>
    rw [run_isAgg_of hd]
    cases d <;> simp [hd] at h ⊢
    all_goals (cases hi : P.info? t <;> simp [hi] at h)
theorem aggOf_many {P : Program} {t : TypeId} {n : Nat} (h : aggOf P t = .many n) (w : World) : (isAgg t).run P w = .ok true w ∧ (sizeOf t).run P w = .ok n w := by
  unfold aggOf at h
  cases hd : P.underlying t with
  | none => simp [hd] at h
  | some d =>
    rw [run_isAgg_of hd]
    cases d <;> simp [hd] at h ⊢
    all_goals
      cases hi : P.info? t with
      | none => simp [hi] at h
      | some i => simp [hi] at h; simp [sizeOf, typeInfo, hi, h]

/-- The cells of a value that is laid in memory. -/
def cellsS : SV → Option (List Ce)
  | .c x => match x.plain with
    | true => some [x]
    | false => none
  | .agg cs => some cs
  | .tup _ => none
  | .kb b => some [.v (.bool b)]
  | .tps _ => none
theorem cellsS_den {s : SV} {cs : List Ce} (h : cellsS s = some cs) (β : Nat → Nat) : (s.den β).cells = cellsOf β cs := by
  cases s with
  | agg x => simp only [cellsS, Option.some.injEq] at h; subst h; rfl
  | tup x => simp [cellsS] at h
  | kb b => simp only [cellsS, Option.some.injEq] at h; subst h; rfl
  | tps x => simp [cellsS] at h
  | c x =>
    simp only [cellsS] at h
    cases hp : x.plain with
    | false => rw [hp] at h; cases h
    | true =>
      rw [hp] at h
      simp only [Option.some.injEq] at h
      subst h
      cases x with
      | v y => cases y <;> first | rfl | (simp [Ce.plain, plain] at hp)
      | loc l o => rfl
      | locs l o n c => rfl
      | ifl t l o => rfl
      | gro l o n e => rfl
      | tl l o n z e => rfl

def kEq : IntKind → IntKind → Bool
  | .i8, .i8 | .i16, .i16 | .i32, .i32 | .i64, .i64 | .u8, .u8 | .u16, .u16 | .u32, .u32 | .u64, .u64 => true
  | _, _ => false
theorem kEq_eq {a b : IntKind} (h : kEq a b = true) : a = b := by cases a <;> cases b <;> first | rfl | (simp [kEq] at h)

def isConstO : Operand → Bool
  | .const _ => true
  | _ => false

/-- An operation on two values that are one cell each; c: one of them is written out. -/
def binV (P : Program) (op : BinOp) (t : TypeId) (c : Bool) : Value → Value → Out
  | .int k a, .int k' b => match kEq k k' with
    | false => .no
    | true => match op with
      | .add => .ar k (a + b)
      | .sub => .ar k (a - b)
      | .mul => .ar k (a * b)
      | .eql => .val (.c (.v (.bool (decide (a = b)))))
      | .neq => .val (.c (.v (.bool (decide (a ≠ b)))))
      | .lss => .val (.c (.v (.bool (decide (a < b)))))
      | .leq => .val (.c (.v (.bool (decide (a ≤ b)))))
      | .gtr => .val (.c (.v (.bool (decide (b < a)))))
      | .geq => .val (.c (.v (.bool (decide (b ≤ a)))))
      | _ => .no
  | .string a, .string b => match op with
    | .eql => .val (.c (.v (.bool (decide (a.toList = b.toList)))))
    | .neq => .val (.c (.v (.bool (decide (a.toList ≠ b.toList)))))
    | _ => .no
  | .bool a, .bool b => match P.underlying t with
    | some .bool => match op with
      | .eql => .val (.c (.v (.bool (a == b))))
      | .neq => .val (.c (.v (.bool (!(a == b)))))
      | _ => .no
    | _ => .no
  | .pointer p, .pointer none => match P.underlying t with
    | some (.pointer _) => match op, p with
      | .eql, none => .val (.c (.v (.bool true)))
      | .eql, some _ => .val (.c (.v (.bool false)))
      | .neq, none => .val (.c (.v (.bool false)))
      | .neq, some _ => .val (.c (.v (.bool true)))
      | _, _ => .no
    | _ => .no
  | .slice p _ _, .slice none _ _ => match P.underlying t with
    | some (.slice _) => match op, p with
      | .eql, none => .val (.c (.v (.bool true)))
      | .eql, some _ => .val (.c (.v (.bool false)))
      | .neq, none => .val (.c (.v (.bool false)))
      | .neq, some _ => .val (.c (.v (.bool true)))
      | _, _ => .no
    | _ => .no
  | .nilIface, .nilIface => match c with
    | false => .no
    | true => match P.underlying t with
      | some (.interface _) => match op with
        | .eql => .val (.c (.v (.bool true)))
        | .neq => .val (.c (.v (.bool false)))
        | _ => .no
      | _ => .no
  | .iface _ _, .nilIface => match P.underlying t with
    | some (.interface _) => match op with
      | .eql => .val (.c (.v (.bool false)))
      | .neq => .val (.c (.v (.bool true)))
      | _ => .no
    | _ => .no
  | _, _ => .no

/-- What 'Out' says of a run. -/
def OutOk (P : Program) (β : Nat → Nat) (s : Sem Next) (w : World) : Out → Prop
  | .val x => s.run P w = .ok (.value (x.den β)) w
  | .cells cs => s.run P w = .ok (.value ((SV.agg cs).den β)) w
  | .ar k n => s.run P w = .ok (.value (.int k (k.wrap n))) w
  | .no => True

theorem bin_run {P : Program} {op : BinOp} {t : TypeId} {xo yo : Operand} {x y v : Value} {w : World} (hg : eqGuard op t xo yo x y = pure ()) (hb : (binOp op t x y).run P w = .ok v w) :
    (do pure (Next.value (← (do eqGuard op t xo yo x y; binOp op t x y))) : Sem Next).run P w = .ok (.value v) w := by
  simp [hg, hb]
theorem eqGuard_other (op : BinOp) (t : TypeId) (xo yo : Operand) (x y : Value) (h : (match x, y with | .nilIface, .nilIface => isConstO xo || isConstO yo | .agg _, .agg _ => false | _, _ => true) = true) : eqGuard op t xo yo x y = pure () := by
  unfold eqGuard
  cases x <;> cases y <;> first
    | (simp at h; done)
    | (cases op <;> rfl)
    | skip
  cases op <;> cases xo <;> cases yo <;> first | rfl | (simp [isConstO] at h)

theorem equal_ptr {P : Program} {t e : TypeId} (hu : P.underlying t = some (.pointer e)) (p : Option Addr) (w : World) : (Op.equal t (.pointer p) (.pointer none)).run P w = .ok p.isNone w := by
  have h : ∀ d, (Op.equalIn (d + 1) t (.pointer p) (.pointer none)).run P w = .ok p.isNone w := fun d => by
    cases p <;> simp [Op.equalIn, run_underlying hu]
  exact h 9999
theorem equal_slice {P : Program} {t e : TypeId} (hu : P.underlying t = some (.slice e)) (p : Option Addr) (n c n' c' : Nat) (w : World) : (Op.equal t (.slice p n c) (.slice none n' c')).run P w = .ok p.isNone w := by
  have h : ∀ d, (Op.equalIn (d + 1) t (.slice p n c) (.slice none n' c')).run P w = .ok p.isNone w := fun d => by
    cases p <;> simp [Op.equalIn, run_underlying hu]
  exact h 9999
theorem equal_iface {P : Program} {t : TypeId} {ms : Array (String × TypeId)} (hu : P.underlying t = some (.interface ms)) (tx : TypeId) (x : Value) (w : World) : (Op.equal t (.iface tx x) .nilIface).run P w = .ok false w := by
  have h : ∀ d, (Op.equalIn (d + 1) t (.iface tx x) .nilIface).run P w = .ok false w := fun d => by
    simp [Op.equalIn, run_underlying hu]
  exact h 9999
theorem equal_nils {P : Program} {t : TypeId} {ms : Array (String × TypeId)} (hu : P.underlying t = some (.interface ms)) (w : World) : (Op.equal t .nilIface .nilIface).run P w = .ok true w := by
  have h : ∀ d, (Op.equalIn (d + 1) t .nilIface .nilIface).run P w = .ok true w := fun d => by
    simp [Op.equalIn, run_underlying hu]
  exact h 9999

theorem binV_ok {P : Program} {op : BinOp} {t : TypeId} {xo yo : Operand} {x y : Value} (β : Nat → Nat) (w : World) :
    OutOk P β (do pure (.value (← (do eqGuard op t xo yo x y; binOp op t x y)))) w (binV P op t (isConstO xo || isConstO yo) x y) := by
  cases x <;> cases y <;> try exact trivial
  case bool.bool a b =>
    simp only [binV]
    cases hu : P.underlying t with
    | none => exact trivial
    | some d =>
      cases d <;> try exact trivial
      cases op <;> try exact trivial
      · exact bin_run (eqGuard_other _ _ _ _ _ _ rfl) (run_eql_bool w t a b hu)
      · exact bin_run (eqGuard_other _ _ _ _ _ _ rfl) (run_neq_bool w t a b hu)
  case int.int k a k' b =>
    simp only [binV]
    cases hk : kEq k k' with
    | false => exact trivial
    | true =>
      obtain rfl := kEq_eq hk
      cases op <;> try exact trivial
      all_goals
        refine bin_run (eqGuard_other _ _ _ _ _ _ rfl) ?_
        simp [binOp, Op.intArith, Op.intCmp, SV.den, Ce.den]
      · by_cases e : a = b <;> simp [e]
      · by_cases e : a = b <;> simp [e]
  case string.string a b =>
    cases op <;> try exact trivial
    all_goals
      refine bin_run (eqGuard_other _ _ _ _ _ _ rfl) ?_
      simp [binOp, Op.stringOp, SV.den, Ce.den]
    · by_cases e : a.toList = b.toList <;> simp [e]
    · by_cases e : a.toList = b.toList <;> simp [e]
  case pointer.pointer p q =>
    cases q with
    | some q => exact trivial
    | none =>
      simp only [binV]
      cases hu : P.underlying t with
      | none => exact trivial
      | some d =>
        cases d <;> try exact trivial
        cases op <;> cases p <;> try exact trivial
        all_goals
          refine bin_run (eqGuard_other _ _ _ _ _ _ rfl) ?_
          simp [binOp, equal_ptr hu, SV.den, Ce.den]
  case slice.slice p n c q n' c' =>
    cases q with
    | some q => exact trivial
    | none =>
      simp only [binV]
      cases hu : P.underlying t with
      | none => exact trivial
      | some d =>
        cases d <;> try exact trivial
        cases op <;> cases p <;> try exact trivial
        all_goals
          refine bin_run (eqGuard_other _ _ _ _ _ _ rfl) ?_
          simp [binOp, equal_slice hu, SV.den, Ce.den]
  case iface.nilIface tx vx =>
    simp only [binV]
    cases hu : P.underlying t with
    | none => exact trivial
    | some d =>
      cases d <;> try exact trivial
      cases op <;> try exact trivial
      all_goals
        refine bin_run (eqGuard_other _ _ _ _ _ _ rfl) ?_
        simp [binOp, equal_iface hu, SV.den, Ce.den]
  case nilIface.nilIface =>
    simp only [binV]
    cases hc : (isConstO xo || isConstO yo) with
    | false => exact trivial
    | true =>
      cases hu : P.underlying t with
      | none => exact trivial
      | some d =>
        cases d <;> try exact trivial
        cases op <;> try exact trivial
        all_goals
          refine bin_run (eqGuard_other _ _ _ _ _ _ hc) ?_
          simp [binOp, equal_nils hu, SV.den, Ce.den]
end Go.Proofs.YtkfnbpbhcnekiaaGreatDoor

/- The operations that leave memory as it is, upon a symbolic state: 'pureOp', and that it says what the model does. -/
namespace Go.Proofs.YtkfnbpbhcnekiaaGreatDoor
open Go.RowKit

/-- A cell as a value, if its block is known. -/
def ceV (bnd : Bnd) : Ce → Option Value
  | .v x => some x
  | .loc l o => match lookB bnd l with
    | some b => some (.pointer (some ⟨b, o, none⟩))
    | none => none
  | .locs l o n c => match lookB bnd l with
    | some b => some (.slice (some ⟨b, o, none⟩) n c)
    | none => none
  | .ifl t l o => match lookB bnd l with
    | some b => some (.iface t (.pointer (some ⟨b, o, none⟩)))
    | none => none
  | .gro _ _ _ _ => none
  | .tl _ _ _ _ _ => none
def cesV (bnd : Bnd) : List Ce → Option (List Value)
  | [] => some []
  | x :: r => match ceV bnd x with
    | some y => match cesV bnd r with
      | some ys => some (y :: ys)
      | none => none
    | none => none
def svV (bnd : Bnd) : SV → Option Value
  | .c x => ceV bnd x
  | .agg cs => match cesV bnd cs with
    | some vs => some (.agg vs.toArray)
    | none => none
  | .tup vs => some (.tuple vs.toArray)
  | .kb b => some (.bool b)
  | .tps _ => none
/-- Operands as values. -/
def opsV (env : Env) (bnd : Bnd) : List Operand → Option (List Value)
  | [] => some []
  | x :: r => match ev env x with
    | some s => match svV bnd s with
      | some v => match opsV env bnd r with
        | some vs => some (v :: vs)
        | none => none
      | none => none
    | none => none

section
variable {β : Nat → Nat} {bnd : Bnd}
theorem ceV_den (hb : ∀ l b, lookB bnd l = some b → β l = b) {x : Ce} {v : Value} (h : ceV bnd x = some v) : x.den β = v := by
  cases x with
  | v y => simpa [ceV, Ce.den] using h
  | loc l o =>
    simp only [ceV] at h
    cases hl : lookB bnd l with
    | none => rw [hl] at h; cases h
    | some b => rw [hl] at h; simp only [Option.some.injEq] at h; subst h; simp [Ce.den, hb l b hl]
  | locs l o n c =>
    simp only [ceV] at h
    cases hl : lookB bnd l with
    | none => rw [hl] at h; cases h
    | some b => rw [hl] at h; simp only [Option.some.injEq] at h; subst h; simp [Ce.den, hb l b hl]
  | ifl t l o =>
    simp only [ceV] at h
    cases hl : lookB bnd l with
    | none => rw [hl] at h; cases h
    | some b => rw [hl] at h; simp only [Option.some.injEq] at h; subst h; simp [Ce.den, hb l b hl]
  | gro l o n e => simp [ceV] at h
  | tl l o n z e => simp [ceV] at h
theorem cesV_den (hb : ∀ l b, lookB bnd l = some b → β l = b) : ∀ {cs : List Ce} {vs : List Value}, cesV bnd cs = some vs → cs.map (Ce.den β) = vs
  | [], vs, h => by simp only [cesV, Option.some.injEq] at h; subst h; rfl
  | x :: r, vs, h => by
    simp only [cesV] at h
    cases h1 : ceV bnd x with
    | none => rw [h1] at h; cases h
    | some y =>
      rw [h1] at h
      cases h2 : cesV bnd r with
      | none => rw [h2] at h; cases h
      | some ys =>
        rw [h2] at h
        simp only [Option.some.injEq] at h
        subst h
        simp [ceV_den hb h1, cesV_den hb h2]
theorem svV_den (hb : ∀ l b, lookB bnd l = some b → β l = b) {s : SV} {v : Value} (h : svV bnd s = some v) : s.den β = v := by
  cases s with
  | c x => exact ceV_den hb h
  | agg cs =>
    simp only [svV] at h
    cases h2 : cesV bnd cs with
    | none => rw [h2] at h; cases h
    | some ys => rw [h2] at h; simp only [Option.some.injEq] at h; subst h; simp [SV.den, cesV_den hb h2]
  | tup vs => simp only [svV, Option.some.injEq] at h; subst h; rfl
  | kb b => simp only [svV, Option.some.injEq] at h; subst h; rfl
  | tps vs => simp [svV] at h
end
theorem opsV_eval {g : Cx} {β : Nat → Nat} {env : Env} {mem : Mem} {bnd : Bnd} {L : Res} {a : Act} {w : World} (h : Rel g β env mem bnd L a w) :
    ∀ {xs : List Operand} {vs : List Value}, opsV env bnd xs = some vs → xs.map a.eval = vs
  | [], vs, hv => by simp only [opsV, Option.some.injEq] at hv; subst hv; rfl
  | x :: r, vs, hv => by
    simp only [opsV] at hv
    cases h1 : ev env x with
    | none => rw [h1] at hv; cases hv
    | some s =>
      rw [h1] at hv
      cases h2 : svV bnd s with
      | none => simp only [h2] at hv; cases hv
      | some v =>
        simp only [h2] at hv
        cases h3 : opsV env bnd r with
        | none => rw [h3] at hv; cases hv
        | some ys =>
          rw [h3] at hv
          simp only [Option.some.injEq] at hv
          subst hv
          simp [h.ev h1, svV_den h.bnd h2, opsV_eval h h3]

def fillS.setsO : List Ce → Nat → List Ce → Option (List Ce)
  | cs, 0, [] => some cs
  | cs, _ + 1, [] => some cs
  | [], _, _ :: _ => none
  | _ :: r, 0, y :: ys => match fillS.setsO r 0 ys with
    | some zs => some (y :: zs)
    | none => none
  | x :: r, k + 1, y :: ys => match fillS.setsO r k (y :: ys) with
    | some zs => some (x :: zs)
    | none => none
/-- The struct or array that is put together of its parts. -/
def fillS (place : Nat → Option (Nat × Nat)) (env : Env) : List Ce → List (Nat × Operand) → Option (List Ce)
  | cs, [] => some cs
  | cs, (i, x) :: r => match place i with
    | none => none
    | some (off, size) => match ev env x with
      | none => none
      | some s => match cellsS s with
        | none => none
        | some ys => match Nat.beq ys.length size with
          | false => none
          | true => match Nat.ble (off + ys.length) cs.length with
            | false => none
            | true => match fillS.setsO cs off ys with
              | some cs' => fillS place env cs' r
              | none => none

theorem setsO_spec : ∀ (cs : List Ce) (k : Nat) (ys zs : List Ce), fillS.setsO cs k ys = some zs → zs.length = cs.length ∧ ∀ j, zs[j]? = if k ≤ j ∧ j < k + ys.length then ys[j - k]? else cs[j]?
  | cs, 0, [], zs, h => by
    simp only [fillS.setsO, Option.some.injEq] at h; subst h
    exact ⟨rfl, fun j => by rw [if_neg (by simp)]⟩
  | cs, k + 1, [], zs, h => by
    simp only [fillS.setsO, Option.some.injEq] at h; subst h
    exact ⟨rfl, fun j => by rw [if_neg (by simp)]⟩
  | [], k, y :: ys, zs, h => by cases k <;> simp [fillS.setsO] at h
  | x :: r, 0, y :: ys, zs, h => by
    simp only [fillS.setsO] at h
    cases hr : fillS.setsO r 0 ys with
    | none => rw [hr] at h; cases h
    | some z =>
      rw [hr] at h
      simp only [Option.some.injEq] at h; subst h
      obtain ⟨h1, h2⟩ := setsO_spec r 0 ys z hr
      refine ⟨by simp [h1], fun j => ?_⟩
      cases j with
      | zero => simp
      | succ j =>
        have := h2 j
        simp only [Nat.zero_le, true_and, Nat.zero_add, Nat.sub_zero] at this ⊢
        simp only [List.getElem?_cons_succ, this, List.length_cons, Nat.add_lt_add_iff_right]
  | x :: r, k + 1, y :: ys, zs, h => by
    simp only [fillS.setsO] at h
    cases hr : fillS.setsO r k (y :: ys) with
    | none => rw [hr] at h; cases h
    | some z =>
      rw [hr] at h
      simp only [Option.some.injEq] at h; subst h
      obtain ⟨h1, h2⟩ := setsO_spec r k (y :: ys) z hr
      refine ⟨by simp [h1], fun j => ?_⟩
      cases j with
      | zero => simp
      | succ j =>
        have := h2 j
        simp only [List.getElem?_cons_succ, this]
        have e : (k ≤ j ∧ j < k + (y :: ys).length) ↔ (k + 1 ≤ j + 1 ∧ j + 1 < k + 1 + (y :: ys).length) := by omega
        by_cases hk : k ≤ j ∧ j < k + (y :: ys).length
        · rw [if_pos hk, if_pos (e.1 hk), show j + 1 - (k + 1) = j - k from by omega]
        · rw [if_neg hk, if_neg (fun h => hk (e.2 h))]

theorem fold_set (vs : List Value) : ∀ (off k : Nat) (A : Array Value), off + k + vs.length ≤ A.size →
    (vs.zipIdx k).foldl (fun cs x => cs.setIfInBounds (off + x.2) x.1) A = ⟨(A.toList.take (off + k)) ++ vs ++ A.toList.drop (off + k + vs.length)⟩ := by
  induction vs with
  | nil => intro off k A h; simp
  | cons v r ih =>
    intro off k A h
    simp only [List.zipIdx_cons, List.foldl_cons]
    simp only [List.length_cons] at h
    rw [ih off (k + 1) _ (by simp; omega)]
    apply congrArg Array.mk
    have hk : off + k < A.toList.length := by simp; omega
    simp only [Array.toList_setIfInBounds]
    apply List.ext_getElem?
    intro j
    simp only [List.getElem?_append, List.length_take, List.length_set, List.length_append, List.length_cons, List.getElem?_take, List.getElem?_set, List.getElem?_drop]
    by_cases h1 : j < off + k
    · have e1 : j < min (off + (k + 1)) A.toList.length := by omega
      have e2 : j < min (off + k) A.toList.length := by omega
      simp [e1, e2, h1, show j < off + (k + 1) from by omega, show ¬ off + k = j from by omega, show j < off + k + (r.length + 1) from by omega, show j < off + (k + 1) + r.length from by omega]
      rw [if_pos (by omega), if_pos (by omega), if_pos (by omega), if_pos (by omega)]
    · by_cases h2 : j = off + k
      · subst h2
        simp at hk
        simp [hk, Nat.min_eq_left (show off + (k + 1) ≤ A.size from by omega), Nat.min_eq_left (show off + k ≤ A.size from by omega)]
        intro hbad
        omega
      · have hA : A.toList.length = A.size := by simp
        simp only [hA, Nat.min_eq_left (show off + (k + 1) ≤ A.size from by omega), Nat.min_eq_left (show off + k ≤ A.size from by omega)]
        rw [if_neg (show ¬ j < off + (k + 1) from by omega), if_neg (show ¬ j < off + k from by omega), show j - (off + k) = (j - (off + (k + 1))) + 1 from by omega]
        by_cases h3 : j < off + (k + 1) + r.length
        · rw [if_pos h3, if_pos (by omega)]; simp
        · rw [if_neg h3, if_neg (by omega), if_neg (by omega)]
          congr 1
          omega

theorem setsO_den {β : Nat → Nat} {cs ys zs : List Ce} {off : Nat} (h : fillS.setsO cs off ys = some zs) (hl : off + ys.length ≤ cs.length) :
    ((cellsOf β ys).zipIdx.foldl (fun cs x => cs.setIfInBounds (off + x.2) x.1) (cellsOf β cs)) = cellsOf β zs := by
  obtain ⟨h1, h2⟩ := setsO_spec cs off ys zs h
  rw [← Array.foldl_toList, Array.toList_zipIdx]
  have e : (cellsOf β ys).toList = ys.map (Ce.den β) := by simp [cellsOf]
  rw [e, fold_set _ off 0 _ (by simp [size_cellsOf]; omega)]
  unfold cellsOf
  apply congrArg Array.mk
  apply List.ext_getElem?
  intro j
  simp only [Nat.add_zero, List.getElem?_append, List.length_take, List.length_append, List.length_map, List.getElem?_take, List.getElem?_drop, List.getElem?_map, h2 j]
  by_cases c1 : j < off
  · rw [if_pos (by omega), if_pos (by omega), if_pos c1, if_neg (by omega)]
  · by_cases c2 : j < off + ys.length
    · rw [if_pos (by omega), if_neg (by omega), if_pos ⟨by omega, c2⟩, Nat.min_eq_left (by omega)]
    · rw [if_neg (by omega), if_neg (by omega), Nat.min_eq_left (by omega)]
      congr 2
      omega

theorem fillS_ok {g : Cx} {β : Nat → Nat} {env : Env} {mem : Mem} {bnd : Bnd} {L : Res} {a : Act} {w : World} (h : Rel g β env mem bnd L a w) (place : Nat → Option (Nat × Nat)) :
    ∀ (ps : List (Nat × Operand)) (cs zs : List Ce), fillS place env cs ps = some zs → Instr.fill place (cellsOf β cs) (ps.map fun x => (x.1, a.eval x.2)) = some (cellsOf β zs)
  | [], cs, zs, hf => by simp only [fillS, Option.some.injEq] at hf; subst hf; rfl
  | (i, x) :: r, cs, zs, hf => by
    simp only [fillS] at hf
    cases h1 : place i with
    | none => simp only [h1] at hf; cases hf
    | some p =>
      obtain ⟨off, size⟩ := p
      simp only [h1] at hf
      cases h2 : ev env x with
      | none => simp only [h2] at hf; cases hf
      | some s =>
        simp only [h2] at hf
        cases h3 : cellsS s with
        | none => simp only [h3] at hf; cases hf
        | some ys =>
          simp only [h3] at hf
          cases h4 : Nat.beq ys.length size with
          | false => simp only [h4] at hf; cases hf
          | true =>
            simp only [h4] at hf
            cases h5 : Nat.ble (off + ys.length) cs.length with
            | false => simp only [h5] at hf; cases hf
            | true =>
              simp only [h5] at hf
              cases h6 : fillS.setsO cs off ys with
              | none => simp only [h6] at hf; cases hf
              | some cs' =>
                simp only [h6] at hf
                have ih := fillS_ok h place r cs' zs hf
                have e4 : ys.length = size := by simpa using h4
                have e5 : off + ys.length ≤ cs.length := by simpa using h5
                simp only [List.map_cons, Instr.fill, h1, h.ev h2, cellsS_den h3 β, size_cellsOf, e4]
                rw [if_neg (by simp; omega), setsO_den h6 e5]
                exact ih
end Go.Proofs.YtkfnbpbhcnekiaaGreatDoor

/- 'pureOp': what an operation that leaves memory as it is comes to, in a symbolic state. -/
namespace Go.Proofs.YtkfnbpbhcnekiaaGreatDoor
open Go.RowKit

/-- The cells of the zero value of a type. -/
def zeroS (P : Program) (t : TypeId) : Option (List Ce) :=
  match P.info? t with
  | none => none
  | some i => match i.zero with
    | none => none
    | some z => match z with
      | .agg a => valsO a.toList
      | .tuple _ => none
      | x => some [.v x]
theorem zeroS_den {P : Program} {t : TypeId} {cs : List Ce} (h : zeroS P t = some cs) (w : World) : ∃ z, (zeroValue t).run P w = .ok z w ∧ ∀ β, z.cells = cellsOf β cs := by
  unfold zeroS at h
  cases hi : P.info? t with
  | none => simp [hi] at h
  | some i =>
    simp only [hi] at h
    cases hz : i.zero with
    | none => simp [hz] at h
    | some z =>
      simp only [hz] at h
      refine ⟨z, by simp [zeroValue, typeInfo, hi, hz], fun β => ?_⟩
      have e : (Ce.den β ∘ Ce.v) = id := rfl
      cases z <;> simp [valsO_eq] at h <;> subst h <;> simp [Value.cells, cellsOf, Ce.den, e]

/-- The places of a struct's fields. -/
def placesS (P : Program) : List Field → Option (List (Nat × Nat))
  | [] => some []
  | f :: r => match P.info? f.type with
    | some i => match placesS P r with
      | some ps => some ((f.offset, i.size) :: ps)
      | none => none
    | none => none
theorem placesS_eq (P : Program) : ∀ fs : List Field, fs.mapM (fun f => (P.info? f.type).map fun i => (f.offset, i.size)) = placesS P fs
  | [] => rfl
  | f :: r => by
    simp only [List.mapM_cons, placesS, placesS_eq P r]
    cases P.info? f.type <;> cases placesS P r <;> rfl

def buildS (P : Program) (env : Env) (t : TypeId) (ps : List (Nat × Operand)) : Option (List Ce) :=
  match zeroS P t with
  | none => none
  | some z => match P.underlying t with
    | some (.struct fs) => match placesS P fs.toList with
      | some pl => fillS (getL pl) env z ps
      | none => none
    | some (.array _ e) => match P.info? e with
      | some i => fillS (fun k => some (k * i.size, i.size)) env z ps
      | none => none
    | _ => none

theorem buildS_ok {g : Cx} {β : Nat → Nat} {env : Env} {mem : Mem} {bnd : Bnd} {L : Res} {a : Act} {w : World} (h : Rel g β env mem bnd L a w) {t : TypeId} {ps : Array (Nat × Operand)} {zs : List Ce}
    (hb : buildS g.P env t ps.toList = some zs) : (Instr.build t (ps.map fun x => (x.1, a.eval x.2))).run g.P w = .ok (.agg (cellsOf β zs)) w := by
  apply run_build
  unfold buildS at hb
  cases hz : zeroS g.P t with
  | none => simp [hz] at hb
  | some z =>
    simp only [hz] at hb
    have hz2 := hz
    unfold zeroS at hz2
    cases hi : g.P.info? t with
    | none => simp [hi] at hz2
    | some i =>
      simp only [hi] at hz2
      cases hv : i.zero with
      | none => simp [hv] at hz2
      | some zv =>
        obtain ⟨zv', hrun, hcells⟩ := zeroS_den hz w
        have e : zv' = zv := by
          have : (zeroValue t).run g.P w = .ok zv w := by simp [zeroValue, typeInfo, hi, hv]
          rw [this] at hrun
          cases hrun
          rfl
        subst e
        have hc := hcells β
        unfold Program.built
        cases hu : g.P.underlying t with
        | none => simp [hu] at hb
        | some d =>
          cases d <;> simp only [hu] at hb <;> try (cases hb; done)
          case array n e =>
            cases hie : g.P.info? e with
            | none => simp [hie] at hb
            | some ie =>
              simp only [hie] at hb
              simp only [hi, hv, hie, hc]
              simpa using fillS_ok h _ ps.toList z zs hb
          case struct fs =>
            cases hp : placesS g.P fs.toList with
            | none => simp [hp] at hb
            | some pl =>
              simp only [hp] at hb
              simp only [hi, hv, placesS_eq, hp, hc]
              have eg : (fun x => pl.toArray[x]?) = getL pl := by
                funext x
                simp [getL_eq]
              rw [eg]
              simpa using fillS_ok h _ ps.toList z zs hb

def addN (o k : Nat) : Nat :=
  match o with
  | 0 => k
  | o + 1 => o + 1 + k
theorem addN_eq (o k : Nat) : addN o k = o + k := by cases o <;> simp [addN]

def pureOp (P : Program) (env : Env) (mem : Mem) (bnd : Bnd) : Op → Out
  | .move x => match ev env x with
    | some s => .val s
    | none => .no
  | .assign x => match ev env x with
    | some s => .val s
    | none => .no
  | .load t x => match ev env x with
    | some (.c (.loc l o)) => match lookM mem l with
      | some (_, cs) => match aggOf P t with
        | .one => match getL cs o with
          | some y => .val (.c y)
          | none => .no
        | .many n => match cutL cs o n with
          | some ys => .cells ys
          | none => .no
        | .no => .no
      | none => .no
    | _ => .no
  | .nilCheck x => match ev env x with
    | some (.c (.loc l o)) => .val (.c (.loc l o))
    | some (.c (.v (.pointer (some p)))) => .val (.c (.v (.pointer (some p))))
    | some (.c (.v (.iface t y))) => .val (.c (.v (.iface t y)))
    | _ => .no
  | .binOp op t x y _ => match nrm (ev env x) with
    | some (.c (.v u)) => match nrm (ev env y) with
      | some (.c (.v v)) => binV P op t (isConstO x || isConstO y) u v
      | _ => .no
    | some (.c (.loc _ _)) => match nrm (ev env y) with
      | some (.c (.v (.pointer none))) => match P.underlying t with
        | some (.pointer _) => match op with
          | .eql => .val (.c (.v (.bool false)))
          | .neq => .val (.c (.v (.bool true)))
          | _ => .no
        | _ => .no
      | _ => .no
    | _ => .no
  | .unOp op _ x => match nrm (ev env x) with
    | some (.c (.v (.bool b))) => match op with
      | .not => .val (.c (.v (.bool (!b))))
      | _ => .no
    | some (.c (.v (.int k n))) => match op with
      | .neg => .ar k (0 - n)
      | _ => .no
    | _ => .no
  | .convert s d x => match ev env x with
    | some (.c (.v (.int _ n))) => match P.underlying s with
      | some _ => match P.underlying d with
        | some (.int k) => .ar k n
        | _ => .no
      | none => .no
    | some (.c (.v (.string b))) => match P.underlying s with
      | some .string => match P.underlying d with
        | some .string => .val (.c (.v (.string b)))
        | _ => .no
      | _ => .no
    | _ => .no
  | .fieldAddr s x f => match P.underlying s with
    | some (.struct fs) => match getL fs.toList f with
      | some fd => match P.info? fd.type with
        | some i => match i.size with
          | 0 => .no
          | _ + 1 => match ev env x with
            | some (.c (.loc l o)) => .val (.c (.loc l (addN o fd.offset)))
            | some (.c (.v (.pointer (some ⟨b, o, none⟩)))) => .val (.c (.v (.pointer (some ⟨b, addN o fd.offset, none⟩))))
            | _ => .no
        | none => .no
      | none => .no
    | _ => .no
  | .field s x f => match P.underlying s with
    | some (.struct fs) => match getL fs.toList f with
      | some fd => match ev env x with
        | some (.agg cs) => match aggOf P fd.type with
          | .one => match getL cs fd.offset with
            | some y => .val (.c y)
            | none => .no
          | .many n => match cutL cs fd.offset n with
            | some ys => .cells ys
            | none => .no
          | .no => .no
        | _ => .no
      | none => .no
    | _ => .no
  | .extract x i => match ev env x with
    | some (.tup vs) => match getL vs i with
      | some (.agg a) => match valsO a.toList with
        | some ys => .cells ys
        | none => .no
      | some (.tuple _) => .no
      | some v => .val (.c (.v v))
      | none => .no
    | _ => .no
  | .makeInterface t x => match P.concrete t with
    | true => match ev env x with
      | some s => match svV bnd s with
        | some v => .val (.c (.v (.iface t v)))
        | none => .no
      | none => .no
    | false => .no
  | .makeFunc fn first cap => match opsV env bnd first.toList with
    | some xs => match opsV env bnd cap.toList with
      | some ys => .val (.c (.v (.func fn xs.toArray ys.toArray)))
      | none => .no
    | none => .no
  | .build t ps => match buildS P env t ps.toList with
    | some zs => .cells zs
    | none => .no
  | .call ⟨.builtin b, args, ts⟩ => match b with
    | .len => match args.toList with
      | [x] => match ts.toList with
        | t :: _ => match P.underlying t with
          | some (.slice _) => match ev env x with
            | some (.c (.v (.slice _ n _))) => .val (.c (.v (.int .i64 n)))
            | some (.c (.locs _ _ n _)) => .val (.c (.v (.int .i64 n)))
            | _ => .no
          | some .string => match ev env x with
            | some (.c (.v (.string s))) => .val (.c (.v (.int .i64 s.size)))
            | _ => .no
          | some (.array n _) => .val (.c (.v (.int .i64 n)))
          | _ => .no
        | _ => .no
      | _ => .no
    | .min => match args.toList with
      | [x, y] => match ev env x with
        | some (.c (.v (.int k u))) => match ev env y with
          | some (.c (.v (.int k' v))) => match kEq k k' with
            | true => .val (.c (.v (.int k (min u v))))
            | false => .no
          | _ => .no
        | _ => .no
      | _ => .no
    | .max => match args.toList with
      | [x, y] => match ev env x with
        | some (.c (.v (.int k u))) => match ev env y with
          | some (.c (.v (.int k' v))) => match kEq k k' with
            | true => .val (.c (.v (.int k (max u v))))
            | false => .no
          | _ => .no
        | _ => .no
      | _ => .no
    | _ => .no
  | _ => .no

section
variable {g : Cx} {β : Nat → Nat} {env : Env} {mem : Mem} {bnd : Bnd} {L : Res} {a : Act} {w : World}

theorem add_plain' (b o n : Nat) : (⟨b, o, none⟩ : Addr).add n = ⟨b, o + n, none⟩ := by
  unfold Addr.add
  by_cases h : n = 0 <;> simp [h]

theorem run_load_one (h : Rel g β env mem bnd L a w) {t l o : Nat} {cs : List Ce} {tt : Nat} {y : Ce} (hl : lookM mem l = some (tt, cs)) (ha : aggOf g.P t = .one) (hy : getL cs o = some y) :
    (loadVar t ⟨β l, o, none⟩).run g.P w = .ok (y.den β) w := by
  rw [getL_eq] at hy
  have hc := h.cell hl o
  rw [hy] at hc
  simp [loadVar, aggOf_one ha, hc]
theorem run_load_many (h : Rel g β env mem bnd L a w) {t l o n : Nat} {cs ys : List Ce} {tt : Nat} (hl : lookM mem l = some (tt, cs)) (ha : aggOf g.P t = .many n) (hy : cutL cs o n = some ys) :
    (loadVar t ⟨β l, o, none⟩).run g.P w = .ok (.agg (cellsOf β ys)) w := by
  obtain ⟨h1, h2⟩ := aggOf_many ha w
  obtain ⟨c1, c2⟩ := cutL_spec cs o n ys hy
  have hl2 : (loadCells ⟨β l, o, none⟩ n).run g.P w = .ok (cellsOf β ys) w := by
    have := run_loadCells_list (P := g.P) w ⟨β l, o, none⟩ (ys.map (Ce.den β)) (fun j v hv => by
      rw [add_plain', h.cell hl]
      rw [List.getElem?_map] at hv
      have hj : j < n := by
        rcases Nat.lt_or_ge j n with hlt | hge
        · exact hlt
        · rw [List.getElem?_eq_none (by omega)] at hv; cases hv
      rw [c2 j hj]
      exact hv)
    simpa [c1, cellsOf] using this
  simp [loadVar, h1, h2, hl2]

theorem run_part_one {t : TypeId} {cs : List Ce} {o : Nat} {y : Ce} (ha : aggOf g.P t = .one) (hy : getL cs o = some y) : (part t (cellsOf β cs) o).run g.P w = .ok (y.den β) w := by
  rw [getL_eq] at hy
  simp [part, aggOf_one ha, getElem?_cellsOf, hy]
theorem run_part_many {t : TypeId} {cs ys : List Ce} {o n : Nat} (ha : aggOf g.P t = .many n) (hy : cutL cs o n = some ys) : (part t (cellsOf β cs) o).run g.P w = .ok (.agg (cellsOf β ys)) w := by
  obtain ⟨h1, h2⟩ := aggOf_many ha w
  obtain ⟨c1, c2⟩ := cutL_spec cs o n ys hy
  have e : (cellsOf β cs).extract o (o + n) = cellsOf β ys := by
    apply Array.ext_getElem?
    intro j
    rw [Array.getElem?_extract, getElem?_cellsOf, getElem?_cellsOf, size_cellsOf]
    by_cases hj : j < n
    · rw [c2 j hj]
      by_cases hm : j < min (o + n) cs.length - o
      · rw [if_pos hm]
      · rw [if_neg hm]
        have := c2 j hj
        rw [List.getElem?_eq_none (by omega)] at this
        rw [← this]
        rfl
    · rw [if_neg (by omega), List.getElem?_eq_none (by omega)]
      rfl
  simp [part, h1, h2, e]

theorem OutOk.cases {P : Program} {s : Sem Next} {o : Out} (h : ∀ w, OutOk P β s w o) : ∀ w, OutOk P β s w o := h

set_option maxHeartbeats 2000000 in
theorem pureOp_ok (h : Rel g β env mem bnd L a w) (o : Oper) : OutOk g.P β (execOp a.eval o) w (pureOp g.P env mem bnd o.op) := by
  obtain ⟨dst, op, ty, pos, after, guard⟩ := o
  cases op <;> try exact trivial
  case move x =>
    simp only [pureOp]
    cases hx : ev env x with
    | none => exact trivial
    | some s => simp [OutOk, execOp, h.ev hx]
  case assign x =>
    simp only [pureOp]
    cases hx : ev env x with
    | none => exact trivial
    | some s => simp [OutOk, execOp, h.ev hx]
  case load t x =>
    simp only [pureOp]
    split <;> try exact trivial
    rename_i l o hx
    have he := h.ev hx
    split <;> try exact trivial
    rename_i tt cs hl
    split <;> try exact trivial
    · rename_i ha
      split <;> try exact trivial
      rename_i y hy
      simp [OutOk, execOp, he, SV.den, Ce.den, Instr.loadAt, Instr.sureAddr, run_load_one h hl ha hy]
    · rename_i n ha
      split <;> try exact trivial
      rename_i ys hy
      have := run_load_many h hl ha hy
      simp [OutOk, execOp, he, SV.den, Ce.den, Instr.loadAt, Instr.sureAddr, this, cellsOf]
  case nilCheck x =>
    simp only [pureOp]
    split <;> try exact trivial
    all_goals
      rename_i hx
      have he := h.ev hx
      simp [OutOk, execOp, he, SV.den, Ce.den]
  case binOp op t x y yt =>
    simp only [pureOp]
    split <;> try exact trivial
    · rename_i u hx
      split <;> try exact trivial
      rename_i v hy
      have := binV_ok (P := g.P) (op := op) (t := t) (xo := x) (yo := y) (x := u) (y := v) β w
      have ex := h.evn hx
      have ey := h.evn hy
      simp only [SV.den, Ce.den] at ex ey
      simpa only [execOp, ex, ey] using this
    · rename_i l o hx
      split <;> try exact trivial
      rename_i hy
      split <;> try exact trivial
      rename_i e hu
      have ex := h.evn hx
      have ey := h.evn hy
      simp only [SV.den, Ce.den] at ex ey
      have hg : ∀ op, eqGuard op t x y (.pointer (some ⟨β l, o, none⟩)) (.pointer none) = pure () := fun op => eqGuard_other _ _ _ _ _ _ rfl
      split <;> try exact trivial
      · have hb : (binOp .eql t (.pointer (some ⟨β l, o, none⟩)) (.pointer none)).run g.P w = .ok (.bool false) w := by simp [binOp, equal_ptr hu]
        simp only [OutOk, execOp, ex, ey]
        exact bin_run (hg .eql) hb
      · have hb : (binOp .neq t (.pointer (some ⟨β l, o, none⟩)) (.pointer none)).run g.P w = .ok (.bool true) w := by simp [binOp, equal_ptr hu]
        simp only [OutOk, execOp, ex, ey]
        exact bin_run (hg .neq) hb
  case unOp op t x =>
    simp only [pureOp]
    split <;> try exact trivial
    · rename_i b hx
      split <;> try exact trivial
      have he := h.evn hx
      simp [OutOk, execOp, he, SV.den, Ce.den, Op.unary]
    · rename_i k n hx
      split <;> try exact trivial
      have he := h.evn hx
      simp [OutOk, execOp, he, SV.den, Ce.den, Op.unary, Op.intArith]
  case convert s d x =>
    simp only [pureOp]
    split <;> try exact trivial
    · rename_i k n hx
      split <;> try exact trivial
      rename_i ds hs
      split <;> try exact trivial
      rename_i k' hd
      have he := h.ev hx
      cases ds <;> simp [OutOk, execOp, he, SV.den, Ce.den, convert, run_underlying hs, run_underlying hd, Conv.intToInt]
    · rename_i b hx
      split <;> try exact trivial
      rename_i hs
      split <;> try exact trivial
      rename_i hd
      have he := h.ev hx
      simp [OutOk, execOp, he, SV.den, Ce.den, convert, run_underlying hs, run_underlying hd]
  case fieldAddr s x f =>
    simp only [pureOp]
    split <;> try exact trivial
    rename_i fs hs
    split <;> try exact trivial
    rename_i fd hf
    split <;> try exact trivial
    rename_i i hi
    split <;> try exact trivial
    rename_i n hn
    rw [getL_eq, Array.getElem?_toList] at hf
    have hsz : (sizeOf fd.type).run g.P w = .ok (n + 1) w := by simp [sizeOf, typeInfo, hi, hn]
    split <;> try exact trivial
    · rename_i l o hx
      have he := h.ev hx
      simp [OutOk, execOp, he, SV.den, Ce.den, Instr.fieldAt, Instr.sureAddr, run_underlying hs, hf, fieldPlace, hsz, add_plain', addN_eq]
    · rename_i b o hx
      have he := h.ev hx
      simp [OutOk, execOp, he, SV.den, Ce.den, Instr.fieldAt, Instr.sureAddr, run_underlying hs, hf, fieldPlace, hsz, add_plain', addN_eq]
  case field s x f =>
    simp only [pureOp]
    split <;> try exact trivial
    rename_i fs hs
    split <;> try exact trivial
    rename_i fd hf
    rw [getL_eq, Array.getElem?_toList] at hf
    split <;> try exact trivial
    rename_i cs hx
    have he := h.ev hx
    have he' : a.eval x = .agg (cellsOf β cs) := he
    split <;> try exact trivial
    · rename_i ha
      split <;> try exact trivial
      rename_i y hy
      simp [OutOk, execOp, he', SV.den, Instr.field, run_underlying hs, hf, asAgg, run_part_one ha hy]
    · rename_i n ha
      split <;> try exact trivial
      rename_i ys hy
      have hp := run_part_many (w := w) (β := β) ha hy
      simp only [cellsOf] at hp he'
      simp [OutOk, execOp, he', SV.den, Instr.field, run_underlying hs, hf, asAgg, hp]
  case extract x i =>
    simp only [pureOp]
    split <;> try exact trivial
    rename_i vs hx
    have he := h.ev hx
    have e : (Ce.den β ∘ Ce.v) = id := rfl
    split <;> try exact trivial
    · rename_i b hg
      rw [valsO_eq]
      rw [getL_eq] at hg
      simp [OutOk, execOp, he, SV.den, Instr.extract, hg, e]
    · rename_i v _ _ hg
      rw [getL_eq] at hg
      simp [OutOk, execOp, he, SV.den, Ce.den, Instr.extract, hg]
  case makeInterface t x =>
    simp only [pureOp]
    split <;> try exact trivial
    rename_i hc
    split <;> try exact trivial
    rename_i s hx
    split <;> try exact trivial
    rename_i v hv
    have he := h.ev hx
    rw [svV_den h.bnd hv] at he
    simp [OutOk, execOp, he, SV.den, Ce.den, run_makeInterface w t v hc]
  case makeFunc fn first cap =>
    simp only [pureOp]
    split <;> try exact trivial
    rename_i xs hx
    split <;> try exact trivial
    rename_i ys hy
    have h1 := opsV_eval h hx
    have h2 := opsV_eval h hy
    have e1 : first.map a.eval = xs.toArray := by apply Array.ext'; simpa using h1
    have e2 : cap.map a.eval = ys.toArray := by apply Array.ext'; simpa using h2
    simp [OutOk, execOp, SV.den, Ce.den, Instr.makeFunc, e1, e2]
  case build t ps =>
    simp only [pureOp]
    split <;> try exact trivial
    rename_i zs hz
    have := buildS_ok h hz
    simp [OutOk, execOp, SV.den, this, cellsOf]
  case call c =>
    obtain ⟨callee, args, ts⟩ := c
    cases callee <;> try exact trivial
    rename_i b
    cases b <;> try exact trivial
    case len =>
      simp only [pureOp]
      split <;> try exact trivial
      rename_i x hargs
      split <;> try exact trivial
      rename_i t tr hts
      have ea : args = #[x] := by rw [← Array.toArray_toList (xs := args), hargs]
      have et : ts[0]? = some t := by rw [← Array.getElem?_toList, hts]; rfl
      subst ea
      split <;> try exact trivial
      · rename_i e hu
        split <;> try exact trivial
        · rename_i hx
          have he := h.ev hx
          simp [OutOk, execOp, resolve, invoke, builtin, Builtin.len_, he, et, run_underlying hu, SV.den, Ce.den, goInt]
        · rename_i hx
          have he := h.ev hx
          simp [OutOk, execOp, resolve, invoke, builtin, Builtin.len_, he, et, run_underlying hu, SV.den, Ce.den, goInt]
      · rename_i hu
        split <;> try exact trivial
        rename_i hx
        have he := h.ev hx
        simp [OutOk, execOp, resolve, invoke, builtin, Builtin.len_, he, et, run_underlying hu, SV.den, Ce.den, goInt]
      · rename_i n e hu
        simp [OutOk, execOp, resolve, invoke, builtin, Builtin.len_, et, run_underlying hu, SV.den, Ce.den, goInt]
    case min =>
      simp only [pureOp]
      split <;> try exact trivial
      rename_i x y hargs
      have ea : args = #[x, y] := by rw [← Array.toArray_toList (xs := args), hargs]
      subst ea
      split <;> try exact trivial
      rename_i k u hx
      split <;> try exact trivial
      rename_i k' v hy
      split <;> try exact trivial
      rename_i hk
      obtain rfl := kEq_eq hk
      have e : (if v < u then v else u) = min u v := by simp only [Int.min_def]; split <;> split <;> omega
      simp [OutOk, execOp, resolve, invoke, builtin, h.ev hx, h.ev hy, SV.den, Ce.den, run_min_int2, e]
    case max =>
      simp only [pureOp]
      split <;> try exact trivial
      rename_i x y hargs
      have ea : args = #[x, y] := by rw [← Array.toArray_toList (xs := args), hargs]
      subst ea
      split <;> try exact trivial
      rename_i k u hx
      split <;> try exact trivial
      rename_i k' v hy
      split <;> try exact trivial
      rename_i hk
      obtain rfl := kEq_eq hk
      have e : (if u < v then v else u) = max u v := by simp only [Int.max_def]; split <;> split <;> omega
      simp [OutOk, execOp, resolve, invoke, builtin, h.ev hx, h.ev hy, SV.den, Ce.den, run_max_int2, e]
end
end Go.Proofs.YtkfnbpbhcnekiaaGreatDoor

/- The executor 'sx' of code upon a symbolic state, and that it is sound. -/
namespace Go.Proofs.YtkfnbpbhcnekiaaGreatDoor
open Go.RowKit

/-! ### Heads: what is still to be done -/
def base (g : Cx) : Frame := { (default : Frame) with fn := g.f, kind := .normal }
def Done (g : Cx) (e : Ending) (w : World) : Prop := ∃ v Q, e = .returned v ∧ g.R v Q ∧ w.os = g.os ∧ w.tape = g.tape ∧ w.output = g.output ∧ SatW (Q ++ g.F) w
def Ret (g : Cx) (k : List Item) (a : Act) (w : World) : Prop :=
  ∀ cs, ∃ e w' fr, Done g e w' ∧ Comes g.P (lone ((base g).at a k) cs w) (lone fr cs w') e ∧ fr.fn = g.f ∧ fr.leaving g.P w' e
def Qn (g : Cx) (k : List Item) : Exit → Act → World → Prop
  | .normal, a, w => Ret g k a w
  | _, _, _ => False
def OneC (g : Cx) (o : Oper) (N : Act → World → Prop) (Q : Exit → Act → World → Prop) : Act → World → Prop := fun a w => o.wp g.P a w N Q

inductive Ctl where
  | run (k : List Item)
  | ops (all : Array Oper) (rest : List Oper) (k : List Item)
/-- What a control stands at. -/
def headC (g : Cx) : Ctl → Act → World → Prop
  | .run k => Ret g k
  | .ops all rest k => wpList g.P all (Qn g k) rest
abbrev RunC (g : Cx) (k : List Item) : Act → World → Prop := headC g (.run k)
abbrev OpsC (g : Cx) (all : Array Oper) (rest : List Oper) (k : List Item) : Act → World → Prop := headC g (.ops all rest k)

/-- One of two ways. -/
def BrM (b : Bool) (X Y : Prop) : Prop :=
  match b with
  | true => X
  | false => Y
theorem BrM.mk {b : Bool} {X Y : Prop} (h1 : b = true → X) (h2 : b = false → Y) : BrM b X Y := by
  cases b
  · exact h2 rfl
  · exact h1 rfl
theorem BrM.dec {p : Prop} {_ : Decidable p} {X Y : Prop} (h1 : p → X) (h2 : ¬ p → Y) : BrM (decide p) X Y :=
  BrM.mk (fun h => h1 (of_decide_eq_true h)) (fun h => h2 (of_decide_eq_false h))
theorem BrM.yes {p : Prop} {_ : Decidable p} {X Y : Prop} (h : p) (x : X) : BrM (decide p) X Y := BrM.dec (fun _ => x) (fun n => absurd h n)
theorem BrM.not {p : Prop} {_ : Decidable p} {X Y : Prop} (h : ¬ p) (y : Y) : BrM (decide p) X Y := BrM.dec (fun n => absurd n h) (fun _ => y)
theorem BrM.t {b : Bool} {X Y : Prop} (h : b = true) (x : X) : BrM b X Y := by subst h; exact x
theorem BrM.f {b : Bool} {X Y : Prop} (h : b = false) (y : Y) : BrM b X Y := by subst h; exact y
theorem BrM.out {b : Bool} {X Y : Prop} (h : BrM b X Y) : (b = true → X) ∧ (b = false → Y) := by
  cases b
  · exact ⟨fun h => by (cases h), fun _ => h⟩
  · exact ⟨fun _ => h, fun h => by (cases h)⟩

def inR : IntKind → Int → Prop
  | .i64, n => -9223372036854775808 ≤ n ∧ n ≤ 9223372036854775807
  | .i32, n => -2147483648 ≤ n ∧ n ≤ 2147483647
  | .i16, n => -32768 ≤ n ∧ n ≤ 32767
  | .i8, n => -128 ≤ n ∧ n ≤ 127
  | .u64, n => 0 ≤ n ∧ n ≤ 18446744073709551615
  | .u32, n => 0 ≤ n ∧ n ≤ 4294967295
  | .u16, n => 0 ≤ n ∧ n ≤ 65535
  | .u8, n => 0 ≤ n ∧ n ≤ 255
theorem inR_wrap {k : IntKind} {n : Int} (h : inR k n) : k.wrap n = n := by
  cases k
  · exact IntWalk.i8_in n h
  · exact IntWalk.i16_in n h
  · exact IntWalk.i32_in n h
  · exact IntWalk.i64_in n h
  · exact IntWalk.u8_in n h
  · exact IntWalk.u16_in n h
  · exact IntWalk.u32_in n h
  · exact IntWalk.u64_in n h
/-- A sum, a difference, a product: does it fit, or is it wrapped? -/
def Ar (k : IntKind) (n : Int) (C : Int → Prop) : Prop := C (k.wrap n)
theorem Ar.ok {k : IntKind} {n : Int} {C : Int → Prop} (h : inR k n) (c : C n) : Ar k n C := by
  unfold Ar; rw [inR_wrap h]; exact c
theorem Ar.i64 {n : Int} {C : Int → Prop} (h1 : -9223372036854775808 ≤ n) (h2 : n ≤ 9223372036854775807) (c : C n) : Ar .i64 n C := Ar.ok (k := .i64) ⟨h1, h2⟩ c
theorem Ar.wr {k : IntKind} {n : Int} {C : Int → Prop} (c : C (k.wrap n)) : Ar k n C := c
theorem Ar.out {k : IntKind} {n : Int} {C : Int → Prop} (h : Ar k n C) : C (k.wrap n) := h

def assume (env : Env) (c : Operand) (b : Bool) : Env :=
  match c with
  | .tmp t => (t, .kb b) :: env
  | _ => env

/-- The same two, what is behind them handed on. -/
def putC (d : Option Tmp) (x : SV) (env : Env) (K : Env → Prop) : Prop :=
  match d with
  | some d => K ((d, x) :: env)
  | none => K env
def assumeC (env : Env) (c : Operand) (b : Bool) (K : Env → Prop) : Prop :=
  match c with
  | .tmp t => K ((t, .kb b) :: env)
  | _ => K env
theorem putC_eq (d : Option Tmp) (x : SV) (env : Env) (K : Env → Prop) : putC d x env K = K (putE d x env) := by cases d <;> rfl
theorem assumeC_eq (env : Env) (c : Operand) (b : Bool) (K : Env → Prop) : assumeC env c b K = K (assume env c b) := by cases c <;> rfl

/-- Does nobody bear a label, and none of some cells? -/
def free (l : Nat) (cs : List Ce) (env : Env) (mem : Mem) (bnd : Bnd) : Bool :=
  match allNo l cs with
  | true => fresh l env mem bnd
  | false => false
/-- A label for a new block: the slot's, or one above it. -/
def label (s : Nat) (cs : List Ce) (env : Env) (mem : Mem) (bnd : Bnd) : Option Nat :=
  match free s cs env mem bnd with
  | true => some s
  | false => match free (s + 1000) cs env mem bnd with
    | true => some (s + 1000)
    | false => match free (s + 2000) cs env mem bnd with
      | true => some (s + 2000)
      | false => none

/-- A label whose block isn't known yet. -/
def unbC (bnd : Bnd) : Ce → Option Nat
  | .v _ => none
  | .loc l _ => match lookB bnd l with
    | some _ => none
    | none => some l
  | .locs l _ _ _ => match lookB bnd l with
    | some _ => none
    | none => some l
  | .ifl _ l _ => match lookB bnd l with
    | some _ => none
    | none => some l
  | .gro _ _ _ _ => none
  | .tl _ _ _ _ _ => none
def unbCs (bnd : Bnd) : List Ce → Option Nat
  | [] => none
  | x :: r => match unbC bnd x with
    | some l => some l
    | none => unbCs bnd r
def unbS (bnd : Bnd) : SV → Option Nat
  | .c x => unbC bnd x
  | .agg cs => unbCs bnd cs
  | .tup _ => none
  | .kb _ => none
  | .tps _ => none
def unbO (env : Env) (bnd : Bnd) : List Operand → Option Nat
  | [] => none
  | x :: r => match ev env x with
    | some s => match unbS bnd s with
      | some l => some l
      | none => unbO env bnd r
    | none => unbO env bnd r

/-- The operands whose blocks must be known by their numbers ahead of an operation. -/
def outs : Op → List Operand
  | .makeInterface _ x => [x]
  | .makeFunc _ first cap => first.toList ++ cap.toList
  | .call c => match c.callee with
    | .value _ => c.args.toList
    | .invoke r _ => r :: c.args.toList
    | .builtin _ => []
  | _ => []

def allPlain : List Ce → Bool
  | [] => true
  | x :: r => match x.plain with
    | true => allPlain r
    | false => false
def appS : List Ce → List Ce → Option (List Ce)
  | [], r => some r
  | x :: z, r => match appS z r with
    | some q => some (x :: q)
    | none => none
def repS (n : Nat) (z : List Ce) : Option (List Ce) :=
  match n with
  | 0 => some []
  | n + 1 => match repS n z with
    | some r => appS z r
    | none => none
def rowS (P : Program) (env : Env) (e n : Nat) (ps : List (Nat × Operand)) : Option (List Ce) :=
  match P.info? e with
  | none => none
  | some i => match zeroS P e with
    | none => none
    | some z => match Nat.beq z.length i.size with
      | false => none
      | true => match Nat.ble (n * i.size) 16777216 with
        | false => none
        | true => match Nat.blt 0 i.size with
          | false => none
          | true => match repS n z with
            | none => none
            | some r => fillS (fun k => some (k * i.size, i.size)) env r ps

/-- One operation. -/
def opStep (g : Cx) (env : Env) (mem : Mem) (bnd : Bnd) (L : Res) (o : Oper) (S C : Env → Mem → Bnd → Res → Prop) (D : Env → Prop) (R : Env → Bnd → Prop) : Prop :=
  match dstOk g.n o.dst with
  | false => S env mem bnd L
  | true => match pureOp g.P env mem bnd o.op with
    | .val x => putC o.dst x env fun env => C env mem bnd L
    | .cells cs => putC o.dst (.agg cs) env fun env => C env mem bnd L
    | .ar k n => Ar k n fun m => putC o.dst (.c (.v (.int k m))) env D
    | .no => match o.op with
      | .pick c x y => match ev env c with
        | some (.kb true) => match ev env x with
          | some u => putC o.dst u env fun env => C env mem bnd L
          | none => S env mem bnd L
        | some (.kb false) => match ev env y with
          | some v => putC o.dst v env fun env => C env mem bnd L
          | none => S env mem bnd L
        | some (.c (.v (.bool b))) => BrM b (assumeC env c true fun env => R env bnd) (assumeC env c false fun env => R env bnd)
        | _ => S env mem bnd L
      | .alloc t => match zeroS g.P t with
        | some cs => match o.dst with
          | some d => match label d cs env mem bnd with
            | some l => C ((d, .c (.loc l 0)) :: env) ((l, t, cs) :: mem) bnd L
            | none => S env mem bnd L
          | none => S env mem bnd L
        | none => S env mem bnd L
      | .box t x => match ev env x with
        | some s => match cellsS s with
          | some cs => match o.dst with
            | some d => match label d cs env mem bnd with
              | some l => C ((d, .c (.loc l 0)) :: env) ((l, t, cs) :: mem) bnd L
              | none => S env mem bnd L
            | none => S env mem bnd L
          | none => S env mem bnd L
        | none => S env mem bnd L
      | .buildSlice t n ps => match g.P.underlying t with
        | some (.slice e) => match rowS g.P env e n ps.toList with
          | some cs => match o.dst with
            | some d => match label d cs env mem bnd with
              | some l => C ((d, .c (.locs l 0 n n)) :: env) ((l, e, cs) :: mem) bnd L
              | none => S env mem bnd L
            | none => S env mem bnd L
          | none => S env mem bnd L
        | _ => S env mem bnd L
      | .store t x y => match ev env x with
        | some (.c (.loc l off)) => match lookM mem l with
          | some (_, cs) => match ev env y with
            | some s => match cellsS s with
              | some ys => match g.P.info? t with
                | some i => match Nat.beq ys.length i.size with
                  | true => match Nat.ble (off + ys.length) cs.length with
                    | true => match allPlain ys with
                      | true => match fillS.setsO cs off ys with
                        | some zs => match setMo mem l zs with
                          | some mem' => putC o.dst (.c (.v undef)) env fun env => C env mem' bnd L
                          | none => S env mem bnd L
                        | none => S env mem bnd L
                      | false => S env mem bnd L
                    | false => S env mem bnd L
                  | false => S env mem bnd L
                | none => S env mem bnd L
              | none => S env mem bnd L
            | none => S env mem bnd L
          | none => S env mem bnd L
        | _ => S env mem bnd L
      | op => match unbO env bnd (outs op) with
        | some l => ∀ b : Nat, R env ((l, b) :: bnd)
        | none => S env mem bnd L

/-- What an operation's guard says. -/
inductive Gd where
  | yes
  | no
  | br (d : Nat) (b : Bool)
  | st
def guardS (ops : List Oper) (env : Env) (o : Oper) : Gd :=
  match o.guard with
  | none => .yes
  | some (j, want) => match getL ops j with
    | some oj => match oj.dst with
      | some d => match look env d with
        | some (.kb true) => match want with
          | true => .yes
          | false => .no
        | some (.kb false) => match want with
          | true => .no
          | false => .yes
        | some (.c (.v (.bool b))) => .br d b
        | some (.c (.v (.tuple _))) => .no
        | _ => .st
      | none => .st
    | none => .st

/-- So many steps of code. -/
def sx (stop : Bool) : Nat → (g : Cx) → Env → Mem → Bnd → Res → Ctl → Prop
  | 0, g, env, mem, bnd, L, .run k => Nx g env mem bnd L (RunC g k)
  | 0, g, env, mem, bnd, L, .ops all rest k => Nx g env mem bnd L (OpsC g all rest k)
  | n + 1, g, env, mem, bnd, L, .run k => match k with
    | .code .skip :: k => sx stop n g env mem bnd L (.run k)
    | .code (.label _) :: k => sx stop n g env mem bnd L (.run k)
    | .inBlock _ :: k => sx stop n g env mem bnd L (.run k)
    | .inScope _ :: k => sx stop n g env mem bnd L (.run k)
    | .code (.seq x y) :: k => sx stop n g env mem bnd L (.run (.code x :: .code y :: k))
    | .code (.block i x) :: k => sx stop n g env mem bnd L (.run (.code x :: .inBlock i :: k))
    | .code (.scope x) :: k => sx stop n g env mem bnd L (.run (.code x :: .inScope x :: k))
    | .code (.exit i) :: k => match exitTo i k with
      | some k' => sx stop n g env mem bnd L (.run k')
      | none => Nx g env mem bnd L (RunC g (.code (.exit i) :: k))
    | .code (.cond c x y) :: k => match ev env c with
      | some (.kb true) => sx stop n g env mem bnd L (.run (.code x :: k))
      | some (.kb false) => sx stop n g env mem bnd L (.run (.code y :: k))
      | some (.c (.v (.bool b))) => BrM b (assumeC env c true fun env => Nx g env mem bnd L (RunC g (.code (.cond c x y) :: k))) (assumeC env c false fun env => Nx g env mem bnd L (RunC g (.code (.cond c x y) :: k)))
      | _ => Nx g env mem bnd L (RunC g (.code (.cond c x y) :: k))
    | .code (.region i ops false) :: k => sx stop n g env mem bnd L (.ops ops ops.toList k)
    | k => Nx g env mem bnd L (RunC g k)
  | n + 1, g, env, mem, bnd, L, .ops all rest k => match rest with
    | [] => match stop with
      | true => Nx g env mem bnd L (RunC g k)
      | false => sx stop n g env mem bnd L (.run k)
    | o :: rest => match guardS all.toList env o with
      | .yes => opStep g env mem bnd L o (fun env mem bnd L => Nx g env mem bnd L (OneC g o (OpsC g all rest k) (Qn g k))) (fun env mem bnd L => sx stop n g env mem bnd L (.ops all rest k)) (fun env => Nx g env mem bnd L (OpsC g all rest k)) (fun env bnd => Nx g env mem bnd L (OpsC g all (o :: rest) k))
      | .no => match dstOk g.n o.dst with
        | true => putC o.dst (.c (.v undef)) env fun env => sx stop n g env mem bnd L (.ops all rest k)
        | false => Nx g env mem bnd L (OpsC g all (o :: rest) k)
      | .br d b => BrM b (Nx g ((d, .kb true) :: env) mem bnd L (OpsC g all (o :: rest) k)) (Nx g ((d, .kb false) :: env) mem bnd L (OpsC g all (o :: rest) k))
      | .st => Nx g env mem bnd L (OpsC g all (o :: rest) k)
end Go.Proofs.YtkfnbpbhcnekiaaGreatDoor

/- The executor is sound. -/
namespace Go.Proofs.YtkfnbpbhcnekiaaGreatDoor
open Go.RowKit

section
variable {g : Cx} {β : Nat → Nat} {env : Env} {mem : Mem} {bnd : Bnd} {L : Res} {a : Act} {w : World} {N : Act → World → Prop} {Q : Exit → Act → World → Prop}

theorem wp_value {o : Oper} {v : Value} {w' : World} (h : (execOp a.eval o).run g.P w = .ok (.value v) w') (hn : N (a.put o.dst v) w') : o.wp g.P a w N Q := by
  unfold Oper.wp; rw [h]; exact hn
theorem wp_skip' {o : Oper} {w' : World} (h : (execOp a.eval o).run g.P w = .ok .skip w') (hn : N (a.put o.dst undef) w') : o.wp g.P a w N Q := by
  unfold Oper.wp; rw [h]; exact hn

theorem free_parts {l : Nat} {cs : List Ce} (h : free l cs env mem bnd = true) : allNo l cs = true ∧ fresh l env mem bnd = true := by
  unfold free at h
  cases h1 : allNo l cs with
  | false => rw [h1] at h; cases h
  | true => rw [h1] at h; exact ⟨rfl, h⟩
theorem label_free {s l : Nat} {cs : List Ce} (h : label s cs env mem bnd = some l) : allNo l cs = true ∧ fresh l env mem bnd = true := by
  unfold label at h
  cases h1 : free s cs env mem bnd with
  | true => rw [h1] at h; cases h; exact free_parts h1
  | false =>
    rw [h1] at h
    cases h2 : free (s + 1000) cs env mem bnd with
    | true => rw [h2] at h; cases h; exact free_parts h2
    | false =>
      rw [h2] at h
      cases h3 : free (s + 2000) cs env mem bnd with
      | true => rw [h3] at h; cases h; exact free_parts h3
      | false => rw [h3] at h; cases h

/-- Behind an operation that makes a block. -/
theorem alloc_step {o : Oper} {d l : Nat} {t : Nat} {cs : List Ce} (hd : dstOk g.n o.dst = true) (ho : o.dst = some d) (hl : label d cs env mem bnd = some l) {mk : Nat → SV} (hmk : ∀ β' : Nat → Nat, (mk l).den β' = (mk l).den (fun _ => β' l))
    (hrun : (execOp a.eval o).run g.P w = .ok (.value ((mk l).den (fun _ => w.heap.size))) (w.alloc (.cells (cellsOf β cs) t)))
    (h : Rel g β env mem bnd L a w) (hC : Nx g ((d, mk l) :: env) ((l, t, cs) :: mem) bnd L N) : o.wp g.P a w N Q := by
  obtain ⟨h1, h2⟩ := label_free hl
  have hR := (h.alloc h2 t cs h1).put o.dst (mk l) hd
  rw [ho] at hR
  refine wp_value hrun ?_
  have e : (mk l).den (fun _ => w.heap.size) = (mk l).den (upd β l w.heap.size) := by rw [hmk (upd β l w.heap.size), upd_self]
  rw [e, ho]
  exact hC _ _ _ hR

theorem assume_rel {c : Operand} {b : Bool} {s0 : SV} (h : Rel g β env mem bnd L a w) (hc : ev env c = some s0) (hs0 : s0.den β = .bool b) : Rel g β (assume env c b) mem bnd L a w := by
  cases c with
  | tmp t =>
    refine ⟨h.defers, h.size, ?_, h.bnd, h.os, h.tape, h.output, h.sat⟩
    intro s x hx
    simp only [assume, look_cons] at hx
    by_cases e : t = s
    · subst e
      simp at hx
      subst hx
      have := h.env t _ hc
      rw [hs0] at this
      exact this
    · rw [if_neg e] at hx
      exact h.env s x hx
  | _ => exact h

theorem plain_one {β : Nat → Nat} {x : Ce} (h : x.plain = true) : (x.den β).oneCell' = true := by
  cases x with
  | v y => cases y <;> first | rfl | (simp [Ce.plain, plain] at h)
  | loc l o => rfl
  | locs l o n c => rfl
  | ifl t l o => rfl
  | gro l o n e => rfl
  | tl l o n z e => rfl
theorem allPlain_mem : ∀ {cs : List Ce}, allPlain cs = true → ∀ x ∈ cs, x.plain = true
  | [], _, x, hx => by cases hx
  | y :: r, h, x, hx => by
    unfold allPlain at h
    cases hy : y.plain with
    | false => rw [hy] at h; cases h
    | true =>
      rw [hy] at h
      cases hx with
      | head => exact hy
      | tail _ hm => exact allPlain_mem h x hm

theorem appS_eq : ∀ z r : List Ce, appS z r = some (z ++ r)
  | [], r => rfl
  | x :: z, r => by simp [appS, appS_eq z r]
theorem repS_eq (z : List Ce) : ∀ n, repS n z = some (List.replicate n z).flatten
  | 0 => rfl
  | n + 1 => by simp [repS, repS_eq z n, appS_eq, List.replicate_succ]
theorem rep_get (z : List Ce) (hz : 0 < z.length) : ∀ (n j : Nat), j < n * z.length → ((List.replicate n z).flatten)[j]? = z[j % z.length]?
  | 0, j, h => by omega
  | n + 1, j, h => by
    simp only [List.replicate_succ, List.flatten_cons, List.getElem?_append]
    by_cases hj : j < z.length
    · rw [if_pos hj, Nat.mod_eq_of_lt hj]
    · rw [Nat.succ_mul] at h
      rw [if_neg hj, rep_get z hz n (j - z.length) (by omega), ← Nat.mod_eq_sub_mod (by omega)]

theorem rowS_ok (h : Rel g β env mem bnd L a w) {t e n : Nat} {ps : Array (Nat × Operand)} {cs : List Ce} (hu : g.P.underlying t = some (.slice e)) (hr : rowS g.P env e n ps.toList = some cs) :
    (Instr.buildSlice t n (ps.map fun x => (x.1, a.eval x.2))).run g.P w = .ok (.slice (some ⟨w.heap.size, 0, none⟩) n n) (w.alloc (.cells (cellsOf β cs) e)) := by
  unfold rowS at hr
  cases hi : g.P.info? e with
  | none => simp [hi] at hr
  | some i =>
    simp only [hi] at hr
    cases hz : zeroS g.P e with
    | none => simp [hz] at hr
    | some z =>
      simp only [hz] at hr
      cases h1 : Nat.beq z.length i.size with
      | false => simp only [h1] at hr; cases hr
      | true =>
        simp only [h1] at hr
        cases h2 : Nat.ble (n * i.size) 16777216 with
        | false => simp only [h2] at hr; cases hr
        | true =>
          simp only [h2] at hr
          cases h3 : Nat.blt 0 i.size with
          | false => simp only [h3] at hr; cases hr
          | true =>
            simp only [h3] at hr
            rw [repS_eq] at hr
            simp only at hr
            have e1 : z.length = i.size := by simpa using h1
            have e2 : n * i.size ≤ 16777216 := by simpa using h2
            have e3 : 0 < i.size := by simpa [Nat.blt_eq] using h3
            have hf := fillS_ok h (fun k => some (k * i.size, i.size)) ps.toList _ cs hr
            obtain ⟨zv, hzr, hzc⟩ := zeroS_den hz w
            have hzc := hzc β
            have hbase : (Array.range (n * i.size)).map (zv.cells[· % zv.cells.size]!) = cellsOf β (List.replicate n z).flatten := by
              rw [hzc, size_cellsOf]
              apply Array.ext_getElem?
              intro j
              rw [getElem?_cellsOf]
              simp only [Array.getElem?_map]
              by_cases hj : j < n * i.size
              · rw [rep_get z (by omega) n j (by rw [e1]; exact hj)]
                have hm : j % z.length < z.length := Nat.mod_lt _ (by omega)
                have e5 : (cellsOf β z)[j % z.length]! = z[j % z.length].den β := by
                  rw [getElem!_pos _ _ (by rw [size_cellsOf]; exact hm)]
                  simp [cellsOf]
                simp [hj, e5, List.getElem?_eq_getElem hm]
              · rw [List.getElem?_eq_none (by simp [e1]; omega)]
                simp [hj]
            have hps : (ps.map fun x => (x.1, a.eval x.2)).toList = ps.toList.map fun x => (x.1, a.eval x.2) := by simp
            by_cases hn : n * i.size = 0
            · have hn0 : n = 0 := by
                rcases Nat.mul_eq_zero.1 hn with h0 | h0
                · exact h0
                · omega
              subst hn0
              rw [show (List.replicate 0 z).flatten = [] from rfl] at hf
              have hf' : Instr.fill (fun k => some (k * i.size, i.size)) #[] (ps.toList.map fun x => (x.1, a.eval x.2)) = some (cellsOf β cs) := hf
              have e0 : (Array.map (fun _ => (default : Value)) (Array.range 0)) = #[] := by apply Array.ext'; simp
              simp [Instr.buildSlice, run_underlying hu, sizeOf, typeInfo, hi, e0, hf', newRow]
            · rw [← hbase] at hf
              have hn' : ¬ (n = 0 ∨ i.size = 0) := fun hor => hn (Nat.mul_eq_zero.2 hor)
              have hle : ¬ 16777216 < n * i.size := by omega
              simp only [Instr.buildSlice, Sem.run_bind, run_underlying hu, Result.andThen_ok, sizeOf, typeInfo, run_program, hi, Sem.run_pure]
              simp only [Sem.run_ite, show (2 : Nat) ^ 24 = 16777216 from rfl, gt_iff_lt, if_neg hle, if_neg hn, Sem.run_bind, hzr, Result.andThen_ok, Sem.run_pure, hps, hf, newRow, run_newObj, World.alloc_eq]

theorem store_ok (h : Rel g β env mem bnd L a w) {l off tt t : Nat} {cs ys zs : List Ce} {i : TypeInfo} {v : Value} (hl : lookM mem l = some (tt, cs)) (hv : v.cells = cellsOf β ys) (hi : g.P.info? t = some i) (hs : ys.length = i.size)
    (hfit : off + ys.length ≤ cs.length) (hp : allPlain ys = true) (hz : fillS.setsO cs off ys = some zs) :
    ∃ w', (Instr.storeAt t (.pointer (some ⟨β l, off, none⟩)) v).run g.P w = .ok () w' ∧ Rel g β env (setM mem l zs) bnd L a w' := by
  have hb := h.block hl
  have hst := run_storeCells_at g.P (β l) off tt (ys.map (Ce.den β)) 0 (cellsOf β cs) w hb (by simp [size_cellsOf]; omega) (by
    intro v hv
    obtain ⟨x, hx, rfl⟩ := List.mem_map.1 hv
    exact plain_one (allPlain_mem hp x hx))
  have hcs : (((cellsOf β cs).toList.take (off + 0)) ++ ys.map (Ce.den β) ++ (cellsOf β cs).toList.drop (off + 0 + (ys.map (Ce.den β)).length)).toArray = cellsOf β zs := by
    rw [← setsO_den hz hfit, ← Array.foldl_toList, Array.toList_zipIdx, show (cellsOf β ys).toList = ys.map (Ce.den β) from by simp [cellsOf], fold_set _ off 0 _ (by simp [size_cellsOf]; omega)]
  rw [hcs] at hst
  refine ⟨w.setRow (β l) (cellsOf β zs), ?_, h.setBlock hl rfl rfl rfl (fun n hn => setRow_other w _ n _ hn) (setRow_heap w _ _ _ _ _ hb)⟩
  have e : v.cells.toList = ys.map (Ce.den β) := by rw [hv]; simp [cellsOf]
  have e2 : v.cells.size = i.size := by rw [hv, size_cellsOf, hs]
  simp [Instr.storeAt, Instr.sureAddr, storeVar, sizeOf, typeInfo, hi, e, e2, hst]

theorem Nx.bind {l : Nat} (h : ∀ b : Nat, Nx g env mem ((l, b) :: bnd) L N) (hn : lookB bnd l = none) : Nx g env mem bnd L N := by
  intro β a w hr
  refine h (β l) β a w ⟨hr.defers, hr.size, hr.env, ?_, hr.os, hr.tape, hr.output, hr.sat⟩
  intro k b hk
  rw [lookB_cons] at hk
  split at hk
  · rename_i e; subst e; cases hk; rfl
  · exact hr.bnd k b hk

theorem unbC_none {x : Ce} {l : Nat} (h : unbC bnd x = some l) : lookB bnd l = none := by
  cases x with
  | v y => simp [unbC] at h
  | loc k o =>
    simp only [unbC] at h
    cases hk : lookB bnd k with
    | some b => rw [hk] at h; cases h
    | none => rw [hk] at h; cases h; exact hk
  | locs k o n c =>
    simp only [unbC] at h
    cases hk : lookB bnd k with
    | some b => rw [hk] at h; cases h
    | none => rw [hk] at h; cases h; exact hk
  | ifl t k o =>
    simp only [unbC] at h
    cases hk : lookB bnd k with
    | some b => rw [hk] at h; cases h
    | none => rw [hk] at h; cases h; exact hk
  | gro k o n e => simp [unbC] at h
  | tl k o n z e => simp [unbC] at h
theorem unbCs_none : ∀ {cs : List Ce} {l : Nat}, unbCs bnd cs = some l → lookB bnd l = none
  | [], l, h => by simp [unbCs] at h
  | x :: r, l, h => by
    simp only [unbCs] at h
    cases hx : unbC bnd x with
    | some k => rw [hx] at h; cases h; exact unbC_none hx
    | none => rw [hx] at h; exact unbCs_none h
theorem unbS_none {s : SV} {l : Nat} (h : unbS bnd s = some l) : lookB bnd l = none := by
  cases s with
  | c x => exact unbC_none h
  | agg cs => exact unbCs_none h
  | tup vs => simp [unbS] at h
  | kb b => simp [unbS] at h
  | tps vs => simp [unbS] at h
theorem unbO_none : ∀ {xs : List Operand} {l : Nat}, unbO env bnd xs = some l → lookB bnd l = none
  | [], l, h => by simp [unbO] at h
  | x :: r, l, h => by
    simp only [unbO] at h
    cases hx : ev env x with
    | none => rw [hx] at h; exact unbO_none h
    | some s =>
      rw [hx] at h
      cases hs : unbS bnd s with
      | some k => simp only [hs] at h; cases h; exact unbS_none hs
      | none => simp only [hs] at h; exact unbO_none h

set_option maxHeartbeats 1000000 in
theorem opStep_sound {o : Oper} {S C : Env → Mem → Bnd → Res → Prop} {D : Env → Prop} {R : Env → Bnd → Prop} (hr : Rel g β env mem bnd L a w)
    (hS : S env mem bnd L → OneC g o N Q a w)
    (hC : ∀ env mem, C env mem bnd L → Nx g env mem bnd L N)
    (hD : ∀ env, D env → Nx g env mem bnd L N)
    (hR : ∀ env' bnd', R env' bnd' → Rel g β env' mem bnd' L a w → OneC g o N Q a w)
    (h : opStep g env mem bnd L o S C D R) : OneC g o N Q a w := by
  unfold opStep at h
  simp only [putC_eq, assumeC_eq] at h
  split at h
  · exact hS h
  rename_i hd
  have hp := pureOp_ok hr o
  split at h
  · rename_i x hx
    rw [hx] at hp
    exact wp_value hp (hC _ _ h _ _ _ (hr.put o.dst x hd))
  · rename_i cs hx
    rw [hx] at hp
    exact wp_value hp (hC _ _ h _ _ _ (hr.put o.dst (.agg cs) hd))
  · rename_i k n hx
    rw [hx] at hp
    exact wp_value hp (hD _ h.out _ _ _ (hr.put o.dst (.c (.v (.int k (k.wrap n)))) hd))
  · clear hp
    split at h
    · -- pick
      rename_i c x y hop
      have key : ∀ (b : Bool), a.eval c = .bool b → ∀ (z : Operand) (s : SV), ev env z = some s → (if b then z = x else z = y) → (execOp a.eval o).run g.P w = .ok (.value (s.den β)) w := by
        intro b ecb z s hz hzb
        have ez := hr.ev hz
        cases b
        · simp only [Bool.false_eq_true, if_false] at hzb
          subst hzb
          simp [execOp, hop, ecb, asBool, ez]
        · simp only [if_true] at hzb
          subst hzb
          simp [execOp, hop, ecb, asBool, ez]
      split at h
      · rename_i hc
        split at h
        · rename_i u hu
          exact wp_value (key true (hr.ev hc) x u hu (by simp)) (hC _ _ h _ _ _ (hr.put o.dst u hd))
        · exact hS h
      · rename_i hc
        split at h
        · rename_i v hv
          exact wp_value (key false (hr.ev hc) y v hv (by simp)) (hC _ _ h _ _ _ (hr.put o.dst v hd))
        · exact hS h
      · rename_i b hc
        obtain ⟨h1, h2⟩ := h.out
        cases b
        · exact hR _ _ (h2 rfl) (assume_rel hr hc rfl)
        · exact hR _ _ (h1 rfl) (assume_rel hr hc rfl)
      · exact hS h
    · -- alloc
      rename_i t hop
      split at h
      · rename_i cs hz
        split at h
        · rename_i d hdst
          split at h
          · rename_i l hl
            obtain ⟨z, hzr, hzc⟩ := zeroS_den hz w
            refine alloc_step hd hdst hl (mk := fun l => .c (.loc l 0)) (fun _ => rfl) ?_ hr (hC _ _ h)
            simp [execOp, hop, Instr.alloc, hzr, newVar, newRow, hzc β, SV.den, Ce.den]
          · exact hS h
        · exact hS h
      · exact hS h
    · -- box
      rename_i t x hop
      split at h
      · rename_i s hx
        split at h
        · rename_i cs hcs
          split at h
          · rename_i d hdst
            split at h
            · rename_i l hl
              refine alloc_step hd hdst hl (mk := fun l => .c (.loc l 0)) (fun _ => rfl) ?_ hr (hC _ _ h)
              simp only [execOp, hop, hr.ev hx, Instr.box, newVar, newRow, cellsS_den hcs β, Sem.run_bind, run_newObj, Sem.run_pure, Result.andThen_ok, World.alloc_eq]
              rfl
            · exact hS h
          · exact hS h
        · exact hS h
      · exact hS h
    · -- buildSlice
      rename_i t n ps hop
      split at h
      · rename_i e hu
        split at h
        · rename_i cs hcs
          split at h
          · rename_i d hdst
            split at h
            · rename_i l hl
              refine alloc_step hd hdst hl (mk := fun l => .c (.locs l 0 n n)) (fun _ => rfl) ?_ hr (hC _ _ h)
              have := rowS_ok hr hu hcs
              simp [execOp, hop, this, SV.den, Ce.den]
            · exact hS h
          · exact hS h
        · exact hS h
      · exact hS h
    · -- store
      rename_i t x y hop
      split at h
      · rename_i l off hx
        split at h
        · rename_i tt cs hl
          split at h
          · rename_i s hy
            split at h
            · rename_i ys hys
              split at h
              · rename_i i hi
                split at h
                · rename_i hsz
                  split at h
                  · rename_i hfit
                    split at h
                    · rename_i hpl
                      split at h
                      · rename_i zs hz
                        rw [setMo_eq] at h
                        simp only at h
                        obtain ⟨w', hrun, hR⟩ := store_ok hr hl (cellsS_den hys β) hi (by simpa using hsz) (by simpa using hfit) hpl hz
                        have ex := hr.ev hx
                        have ey := hr.ev hy
                        refine wp_skip' (w' := w') ?_ ?_
                        · have ex' : a.eval x = .pointer (some ⟨β l, off, none⟩) := ex
                          simp only [execOp, hop, ex', ey, Sem.run_bind, hrun, Result.andThen_ok, Sem.run_pure]
                        · have := hR.put o.dst (.c (.v undef)) hd
                          exact hC _ _ h _ _ _ this
                      · exact hS h
                    · exact hS h
                  · exact hS h
                · exact hS h
              · exact hS h
            · exact hS h
          · exact hS h
        · exact hS h
      · exact hS h
    · -- the others
      split at h
      · rename_i l hl
        refine hR _ _ (h (β l)) ⟨hr.defers, hr.size, hr.env, ?_, hr.os, hr.tape, hr.output, hr.sat⟩
        intro k b hk
        rw [lookB_cons] at hk
        split at hk
        · rename_i e; subst e; cases hk; rfl
        · exact hr.bnd k b hk
      · exact hS h

/-! ### Control -/
theorem Ret.steps {k k' : List Item} {a' : Act} {w' : World} (hs : ∀ cs, Steps g.P (lone ((base g).at a k) cs w) (lone ((base g).at a' k') cs w')) (h : Ret g k' a' w') : Ret g k a w := by
  intro cs
  obtain ⟨e, w₂, fr, h1, h2, h3, h4⟩ := h cs
  exact ⟨e, w₂, fr, h1, Comes.of_steps (hs cs) h2, h3, h4⟩
theorem Ret.one {k k' : List Item} {a' : Act} {w' : World} (hs : ∀ cs, step g.P (lone ((base g).at a k) cs w) = .next (lone ((base g).at a' k') cs w')) (h : Ret g k' a' w') : Ret g k a w :=
  Ret.steps (fun cs => .one (hs cs)) h
theorem Ret.code {c : Code} {k : List Item} (h : c.wp g.P (Qn g k) a w) : Ret g (.code c :: k) a w := by
  intro cs
  obtain ⟨e, a', w', hq, harr⟩ := h (base g) k cs
  cases e with
  | normal =>
    obtain ⟨e, w₂, fr, h1, h2, h3, h4⟩ := (show Ret g k a' w' from hq) cs
    exact ⟨e, w₂, fr, h1, Comes.of_steps harr h2, h3, h4⟩
  | _ => exact hq.elim
theorem Ret.region {i : Nat} {ops : Array Oper} {k : List Item} (h : headC g (.ops ops ops.toList k) a w) : Ret g (.code (.region i ops false) :: k) a w :=
  Ret.code (wp_region_list h)

theorem OpsC.wanted {all : Array Oper} {o : Oper} {rest : List Oper} {k : List Item} (hw : Region.wanted o (yielded all a.tmps) = true) (h : OneC g o (OpsC g all rest k) (Qn g k) a w) : OpsC g all (o :: rest) k a w := by
  show wpList g.P all (Qn g k) (o :: rest) a w
  unfold wpList
  rw [if_pos hw]
  exact .inl h
theorem OpsC.skipped {all : Array Oper} {o : Oper} {rest : List Oper} {k : List Item} (hw : Region.wanted o (yielded all a.tmps) = false) (h : OpsC g all rest k (a.put o.dst undef) w) : OpsC g all (o :: rest) k a w := by
  show wpList g.P all (Qn g k) (o :: rest) a w
  unfold wpList
  rw [if_neg (by rw [hw]; simp)]
  exact h

theorem yielded_of (hr : Rel g β env mem bnd L a w) {all : Array Oper} {j : Nat} {oj : Oper} {d : Nat} {s : SV} (hj : getL all.toList j = some oj) (hd : oj.dst = some d) (hl : look env d = some s) :
    yielded all a.tmps j = match s.den β with | .bool b => some b | _ => none := by
  rw [getL_eq, Array.getElem?_toList] at hj
  unfold yielded
  rw [hj]
  simp only [Option.bind_some, hd, hr.env d s hl]
  cases s.den β <;> rfl

theorem assume_slot {d : Nat} {b : Bool} (hr : Rel g β env mem bnd L a w) (h : look env d = some (.c (.v (.bool b)))) : Rel g β ((d, .kb b) :: env) mem bnd L a w :=
  assume_rel (c := .tmp d) hr h rfl

/-- What a guard comes to. -/
theorem guardS_yes (hr : Rel g β env mem bnd L a w) {ops : Array Oper} {o : Oper} (h : guardS ops.toList env o = .yes) : Region.wanted o (yielded ops a.tmps) = true := by
  unfold guardS at h
  split at h
  · rename_i hg; simp [Region.wanted, hg]
  · rename_i j want hg
    split at h <;> try (cases h; done)
    rename_i oj hj
    split at h <;> try (cases h; done)
    rename_i d hd
    split at h <;> try (cases h; done)
    · rename_i hl
      have hy := yielded_of hr hj hd hl
      split at h <;> first | (cases h; done) | simp [Region.wanted, hg, hy, SV.den]
    · rename_i hl
      have hy := yielded_of hr hj hd hl
      split at h <;> first | (cases h; done) | simp [Region.wanted, hg, hy, SV.den]
theorem guardS_no (hr : Rel g β env mem bnd L a w) {ops : Array Oper} {o : Oper} (h : guardS ops.toList env o = .no) : Region.wanted o (yielded ops a.tmps) = false := by
  unfold guardS at h
  split at h
  · cases h
  · rename_i j want hg
    split at h <;> try (cases h; done)
    rename_i oj hj
    split at h <;> try (cases h; done)
    rename_i d hd
    split at h <;> try (cases h; done)
    · rename_i hl
      have hy := yielded_of hr hj hd hl
      split at h <;> first | (cases h; done) | simp [Region.wanted, hg, hy, SV.den]
    · rename_i hl
      have hy := yielded_of hr hj hd hl
      split at h <;> first | (cases h; done) | simp [Region.wanted, hg, hy, SV.den]
    · rename_i hl
      have hy := yielded_of hr hj hd hl
      simp [Region.wanted, hg, hy, SV.den, Ce.den]
theorem guardS_br {ops : Array Oper} {o : Oper} {d : Nat} {b : Bool} (h : guardS ops.toList env o = .br d b) : look env d = some (.c (.v (.bool b))) := by
  unfold guardS at h
  split at h
  · cases h
  · split at h <;> try (cases h; done)
    split at h <;> try (cases h; done)
    split at h <;> try (cases h; done)
    · split at h <;> cases h
    · split at h <;> cases h
    · rename_i hl; cases h; exact hl

set_option maxHeartbeats 1000000 in
theorem sx_sound {stop : Bool} : ∀ (n : Nat) (env : Env) (mem : Mem) (bnd : Bnd) (L : Res) (c : Ctl), sx stop n g env mem bnd L c → Nx g env mem bnd L (headC g c)
  | 0, env, mem, bnd, L, .run k, h => h
  | 0, env, mem, bnd, L, .ops all rest k, h => h
  | n + 1, env, mem, bnd, L, .run k, h => by
    unfold sx at h
    simp only [putC_eq, assumeC_eq] at h
    split at h
    · exact fun β a w hr => Ret.one (fun cs => step_skip) (sx_sound n _ _ _ _ _ h β a w hr)
    · exact fun β a w hr => Ret.one (fun cs => step_label) (sx_sound n _ _ _ _ _ h β a w hr)
    · exact fun β a w hr => Ret.one (fun cs => step_inBlock) (sx_sound n _ _ _ _ _ h β a w hr)
    · exact fun β a w hr => Ret.one (fun cs => step_lone_go (by simp [stepG, stepG.exec, Frame.at])) (sx_sound n _ _ _ _ _ h β a w hr)
    · exact fun β a w hr => Ret.one (fun cs => step_seq) (sx_sound n _ _ _ _ _ h β a w hr)
    · exact fun β a w hr => Ret.one (fun cs => step_block) (sx_sound n _ _ _ _ _ h β a w hr)
    · exact fun β a w hr => Ret.one (fun cs => step_lone_go (by simp [stepG, stepG.exec, Frame.at])) (sx_sound n _ _ _ _ _ h β a w hr)
    · split at h
      · rename_i k' hk
        exact fun β a w hr => Ret.one (fun cs => step_exit hk) (sx_sound n _ _ _ _ _ h β a w hr)
      · exact h
    · split at h
      · rename_i hc
        exact fun β a w hr => Ret.one (fun cs => step_cond (t := true) (hr.ev hc)) (sx_sound n _ _ _ _ _ h β a w hr)
      · rename_i hc
        exact fun β a w hr => Ret.one (fun cs => step_cond (t := false) (hr.ev hc)) (sx_sound n _ _ _ _ _ h β a w hr)
      · rename_i b hc
        intro β a w hr
        obtain ⟨h1, h2⟩ := h.out
        cases b
        · exact h2 rfl β a w (assume_rel hr hc rfl)
        · exact h1 rfl β a w (assume_rel hr hc rfl)
      · exact h
    · exact fun β a w hr => Ret.region (sx_sound n _ _ _ _ _ h β a w hr)
    · exact h
  | n + 1, env, mem, bnd, L, .ops all rest k, h => by
    unfold sx at h
    simp only [putC_eq, assumeC_eq] at h
    split at h
    · split at h
      · exact h
      · exact sx_sound n _ _ _ _ (.run k) h
    · rename_i o rest
      intro β a w hr
      split at h
      · rename_i hg
        have hw := guardS_yes hr hg
        refine OpsC.wanted hw (opStep_sound hr (fun h => h β a w hr) (fun env mem h => sx_sound n env mem bnd L (.ops all rest k) h) (fun env h => h) (fun env' bnd' h hr' => ?_) h)
        have h2 : wpList g.P all (Qn g k) (o :: rest) a w := h β a w hr'
        unfold wpList at h2
        rw [if_pos hw] at h2
        rcases h2 with h2 | ⟨_, a0, w0, h2⟩
        · exact h2
        · exact h2.elim
      · rename_i hg
        split at h
        · rename_i hdst
          exact OpsC.skipped (guardS_no hr hg) (sx_sound n _ _ _ _ _ h β _ w (hr.put o.dst (.c (.v undef)) hdst))
        · exact h β a w hr
      · rename_i d b hg
        obtain ⟨h1, h2⟩ := h.out
        have hl := guardS_br hg
        cases b
        · exact h2 rfl β a w (assume_slot hr hl)
        · exact h1 rfl β a w (assume_slot hr hl)
      · exact h β a w hr

theorem go (n : Nat) {c : Ctl} (h : sx false n g env mem bnd L c) : Nx g env mem bnd L (headC g c) := sx_sound n _ _ _ _ _ h
/-- To the end of the region. -/
theorem goR (n : Nat) {c : Ctl} (h : sx true n g env mem bnd L c) : Nx g env mem bnd L (headC g c) := sx_sound n _ _ _ _ _ h
end
end Go.Proofs.YtkfnbpbhcnekiaaGreatDoor

/- Rules: contracts, calls, the end, loops, weaker states, assertions. -/
namespace Go.Proofs.YtkfnbpbhcnekiaaGreatDoor
open Go.RowKit

/-! ### Contracts -/
/-- Called with these arguments where Pre holds, the function returns a value, and Post says which, and what holds then; all else stays. -/
def FnOk (P : Program) (f : FuncId) (args : List Value) (Pre : List SP) (Post : Value → List SP → Prop) : Prop :=
  (∀ (ars : Array Value) (w : World), (callFunc f ars).run P w = .ok (.enter f ars) w) ∧
  ∀ (F : List SP) (w : World), SatW (Pre ++ F) w → Calls P f args.toArray w fun e w' =>
    ∃ v Q, e = .returned v ∧ Post v Q ∧ w'.os = w.os ∧ w'.tape = w.tape ∧ w'.output = w.output ∧ SatW (Q ++ F) w'

theorem FnOk.mono {P : Program} {f : FuncId} {args : List Value} {Pre : List SP} {Post Post' : Value → List SP → Prop} (h : FnOk P f args Pre Post) (k : ∀ v Q, Post v Q → Post' v Q) : FnOk P f args Pre Post' :=
  ⟨h.1, fun F w hs => (h.2 F w hs).mono fun e w' ⟨v, Q, h1, h2, h3⟩ => ⟨v, Q, h1, k v Q h2, h3⟩⟩

def argE : Nat → List Value → Env
  | _, [] => []
  | k, v :: r => (k, ofV v) :: argE (k + 1) r
theorem look_argE (β : Nat → Nat) : ∀ (vs : List Value) (k s : Nat) (x : SV), look (argE k vs) s = some x → k ≤ s ∧ vs[s - k]? = some (x.den β)
  | [], k, s, x, h => by cases h
  | v :: r, k, s, x, h => by
    simp only [argE, look_cons] at h
    by_cases e : k = s
    · subst e
      simp at h
      subst h
      simp [ofV_den]
    · rw [if_neg e] at h
      obtain ⟨h1, h2⟩ := look_argE β r (k + 1) s x h
      refine ⟨by omega, ?_⟩
      rw [show s - k = (s - (k + 1)) + 1 from by omega]
      exact h2
def nameL : Nat → List SP → Res
  | _, [] => []
  | k, P :: r => (k, P) :: nameL (k + 1) r
theorem nameL_snd : ∀ (L : List SP) (k : Nat), (nameL k L).map (·.2) = L
  | [], _ => rfl
  | P :: r, k => by simp [nameL, nameL_snd r (k + 1)]

theorem FnOk.start {P : Program} {f n : Nat} {fn : Func} {c : Code} {args : List Value} {Pre : List SP} {Post : Value → List SP → Prop} (hf : P.funcs[f]? = some fn) (hb : fn.body = some c) (hn : fn.ntmps = n)
    (hname : (fn.name == "runtime.NumGoroutine") = false) (ha : Nat.ble args.length n = true)
    (h : ∀ F os tape output, Nx ⟨P, f, fn, n, Post, F, os, tape, output⟩ (argE 0 args) [] [] (nameL 0 Pre) (RunC ⟨P, f, fn, n, Post, F, os, tape, output⟩ [.code c])) : FnOk P f args Pre Post := by
  have hname' : ¬ fn.name = "runtime.NumGoroutine" := by simpa using hname
  refine ⟨fun ars w => by simp [callFunc, hf, hname', hb], fun F w hs cs => ?_⟩
  have henter : Frame.enter P f args.toArray .normal = (base ⟨P, f, fn, n, Post, F, w.os, w.tape, w.output⟩).at { tmps := args.toArray ++ Array.replicate (fn.ntmps - args.toArray.size) undef, defers := [] } [.code c] := by
    simp [Frame.enter, Frame.at, hf, hb, base]
  have hal : args.length ≤ n := by simpa using ha
  have hr : Rel ⟨P, f, fn, n, Post, F, w.os, w.tape, w.output⟩ (fun _ => 0) (argE 0 args) [] [] (nameL 0 Pre) { tmps := args.toArray ++ Array.replicate (fn.ntmps - args.toArray.size) undef, defers := [] } w := by
    refine ⟨rfl, by simp [hn]; omega, ?_, fun l b h => (by cases h), rfl, rfl, rfl, (by rw [nameL_snd]; exact hs)⟩
    intro s x hx
    obtain ⟨_, h2⟩ := look_argE (fun _ => 0) args 0 s x hx
    rw [Nat.sub_zero] at h2
    have hlt : s < args.length := by
      rcases Nat.lt_or_ge s args.length with h | h
      · exact h
      · rw [List.getElem?_eq_none h] at h2; cases h2
    rw [Array.getElem?_append_left (by simpa using hlt)]
    simpa using h2
  obtain ⟨e, w', fr, ⟨v, Q, h1, h2, h3, h4, h5, h6⟩, hc, hfn, hl⟩ := h F w.os w.tape w.output _ _ w hr cs
  rw [henter]
  exact ⟨e, w', fr, ⟨v, Q, h1, h2, h3, h4, h5, h6⟩, hc, hfn, hl⟩

/-! ### Assertions by their names -/
def takeR (n : Nat) : Res → Option (SP × Res)
  | [] => none
  | (k, P) :: r => match Nat.beq k n with
    | true => some (P, r)
    | false => match takeR n r with
      | some (Q, r') => some (Q, (k, P) :: r')
      | none => none
def pick : List Nat → Res → Option (List SP × Res)
  | [], L => some ([], L)
  | n :: ns, L => match takeR n L with
    | some (P, L') => match pick ns L' with
      | some (Ps, L'') => some (P :: Ps, L'')
      | none => none
    | none => none
theorem takeR_perm : ∀ {L L' : Res} {n : Nat} {P : SP}, takeR n L = some (P, L') → (L.map (·.2)).Perm (P :: L'.map (·.2))
  | [], _, _, _, h => by cases h
  | (k, P) :: r, L', n, Q, h => by
    simp only [takeR] at h
    cases hk : Nat.beq k n with
    | true => rw [hk] at h; cases h; exact List.Perm.refl _
    | false =>
      rw [hk] at h
      cases hr : takeR n r with
      | none => rw [hr] at h; cases h
      | some q =>
        obtain ⟨Q', r'⟩ := q
        rw [hr] at h
        cases h
        exact (List.Perm.cons _ (takeR_perm hr)).trans (List.Perm.swap _ _ _)
theorem pick_perm : ∀ {ns : List Nat} {L L' : Res} {Ps : List SP}, pick ns L = some (Ps, L') → (L.map (·.2)).Perm (Ps ++ L'.map (·.2))
  | [], L, L', Ps, h => by cases h; exact List.Perm.refl _
  | n :: ns, L, L', Ps, h => by
    simp only [pick] at h
    cases h1 : takeR n L with
    | none => rw [h1] at h; cases h
    | some q =>
      obtain ⟨P, L1⟩ := q
      simp only [h1] at h
      cases h2 : pick ns L1 with
      | none => rw [h2] at h; cases h
      | some q2 =>
        obtain ⟨Ps', L2⟩ := q2
        rw [h2] at h
        cases h
        exact (takeR_perm h1).trans (List.Perm.cons _ (pick_perm h2))

section
variable {g : Cx} {β : Nat → Nat} {env : Env} {mem : Mem} {bnd : Bnd} {L : Res} {a : Act} {w : World} {N : Act → World → Prop} {Q : Exit → Act → World → Prop}

/-- The assertions of a state are turned. -/
theorem Rel.turn {L' : Res} (h : Rel g β env mem bnd L a w) (k : ∀ M, SatW (M ++ (L.map (·.2) ++ g.F)) w → SatW (M ++ (L'.map (·.2) ++ g.F)) w) : Rel g β env mem bnd L' a w :=
  ⟨h.defers, h.size, h.env, h.bnd, h.os, h.tape, h.output, k _ h.sat⟩
theorem SatW.swapHead {M A B : List SP} (H : SatW (M ++ (A ++ B)) w) : SatW (A ++ (M ++ B)) w := by
  refine H.perm ?_
  rw [← List.append_assoc, ← List.append_assoc]
  exact List.Perm.append_right _ List.perm_append_comm
theorem Rel.picked {ns : List Nat} {Ps : List SP} {L' : Res} (h : Rel g β env mem bnd L a w) (hp : pick ns L = some (Ps, L')) : SatW (Ps ++ (memSP β mem ++ (L'.map (·.2) ++ g.F))) w := by
  have h1 : SatW (memSP β mem ++ ((Ps ++ L'.map (·.2)) ++ g.F)) w := h.sat.perm (List.Perm.append_left _ (List.Perm.append_right _ (pick_perm hp)))
  rw [List.append_assoc] at h1
  exact h1.swapHead
theorem Rel.unpicked {Ps : List SP} {ns : List Nat} {L' : Res} {w' : World} (h : Rel g β env mem bnd L a w) (hs : SatW (Ps ++ (memSP β mem ++ (L'.map (·.2) ++ g.F))) w')
    (e1 : w'.os = w.os) (e2 : w'.tape = w.tape) (e3 : w'.output = w.output) : Rel g β env mem bnd (ns.zip Ps ++ L') a w' := by
  refine ⟨h.defers, h.size, h.env, h.bnd, e1.trans h.os, e2.trans h.tape, e3.trans h.output, ?_⟩
  have h1 := hs.swapHead
  rw [List.map_append, List.append_assoc]
  obtain ⟨r, hh, x1, x2, x3, x4⟩ := h1.swapHead
  have drop : ∀ (ns : List Nat) (Ps : List SP) (M : List SP) (r h : PH), Sat (Ps ++ M) r h → Sat ((ns.zip Ps).map (·.2) ++ M) r h := by
    intro ns
    induction ns with
    | nil => intro Ps M r h H; simpa using H.app_right
    | cons n ns ih =>
      intro Ps M r h H
      cases Ps with
      | nil => simpa using H
      | cons P Ps => exact H.cons_imp fun h' k => ih Ps M r h' k
  exact SatW.swapHead ⟨r, hh, x1, x2, x3, drop ns Ps _ _ _ x4⟩

/-- Some assertions are turned into others. -/
theorem Nx.turn (ns : List Nat) (ns' : List Nat) {Ps : List SP} {L' : Res} (Ps' : List SP) (hp : pick ns L = some (Ps, L')) (k : ∀ r h, Sat Ps r h → Sat Ps' r h) (h : Nx g env mem bnd (ns'.zip Ps' ++ L') N) : Nx g env mem bnd L N :=
  fun β a w hr => h β a w (hr.unpicked ((hr.picked hp).turn k) rfl rfl rfl)
/-- An assertion speaks of something. -/
theorem Nx.ex {X : Type} (n : Nat) {P : SP} {L' : Res} (F : X → SP) (hp : takeR n L = some (P, L')) (k : ∀ r h, P r h → ∃ x, F x r h) (h : ∀ x, Nx g env mem bnd ((n, F x) :: L') N) : Nx g env mem bnd L N := by
  intro β a w hr
  have hp' : pick [n] L = some ([P], L') := by simp [pick, hp]
  obtain ⟨x, hx⟩ := (hr.picked hp').ex k
  have := hr.unpicked (ns := [n]) (Ps := [F x]) hx rfl rfl rfl
  exact h x β a w this
/-- What an assertion says beside. -/
theorem Nx.fact (n : Nat) {P : SP} {p : Prop} {L' : Res} (hp : takeR n L = some (P, L')) (k : ∀ r h, P r h → p) (h : p → Nx g env mem bnd L N) : Nx g env mem bnd L N := by
  intro β a w hr
  have hp' : pick [n] L = some ([P], L') := by simp [pick, hp]
  exact h ((hr.picked hp').pure k) β a w hr
/-- What is owned may be given to all for reading. -/
theorem Nx.share (n : Nat) {P : SP} {L' : Res} (P' : SP) (hp : takeR n L = some (P, L')) (k : ∀ r h, r.dj h → P r h → P' (r.un h) PH.em) (h : Nx g env mem bnd ((n, P') :: L') N) : Nx g env mem bnd L N := by
  intro β a w hr
  have hp' : pick [n] L = some ([P], L') := by simp [pick, hp]
  exact h β a w (hr.unpicked (ns := [n]) (Ps := [P']) ((hr.picked hp').share k) rfl rfl rfl)
/-- What only reads may be had once more, under another name. -/
theorem Nx.also (n m : Nat) {P : SP} {L' : Res} (P' : SP) (hp : takeR n L = some (P, L')) (k : ∀ r h, P r h → P' r PH.em) (h : Nx g env mem bnd ((m, P') :: (n, P) :: L') N) : Nx g env mem bnd L N := by
  intro β a w hr
  have hp' : pick [n] L = some ([P], L') := by simp [pick, hp]
  exact h β a w (hr.unpicked (ns := [m, n]) (Ps := [P', P]) ((hr.picked hp').also k) rfl rfl rfl)

/-! ### Weaker states -/
inductive subE : Env → Env → Prop where
  | nil (env : Env) : subE [] env
  | cons {s : Nat} {x y : SV} {r env : Env} (h : look env s = some y) (e : y = x) (t : subE r env) : subE ((s, x) :: r) env
  | cons' {s : Nat} {x y : SV} {r env : Env} (h : look env s = some y) (e : ∀ β, y.den β = x.den β) (t : subE r env) : subE ((s, x) :: r) env
inductive subM : Mem → Mem → Prop where
  | nil (mem : Mem) : subM [] mem
  | cons {l t : Nat} {cs cs' : List Ce} {r mem mem' : Mem} (h : lookM mem l = some (t, cs')) (e : cs' = cs) (hd : delM mem l = mem') (k : subM r mem') : subM ((l, t, cs) :: r) mem
inductive subB : Bnd → Bnd → Prop where
  | nil (bnd : Bnd) : subB [] bnd
  | cons {l b : Nat} {r bnd : Bnd} (h : lookB bnd l = some b) (t : subB r bnd) : subB ((l, b) :: r) bnd
inductive subR : Res → Res → Prop where
  | nil (L : Res) : subR [] L
  | cons {n : Nat} {P P' : SP} {r L L' : Res} (h : takeR n L = some (P', L')) (e : P' = P) (k : subR r L') : subR ((n, P) :: r) L

theorem subE.look {E env : Env} (h : subE E env) {s : Nat} {x : SV} (hx : YtkfnbpbhcnekiaaGreatDoor.look E s = some x) : ∃ y, YtkfnbpbhcnekiaaGreatDoor.look env s = some y ∧ ∀ β, y.den β = x.den β := by
  induction h with
  | nil env => cases hx
  | cons h e t ih =>
    rw [look_cons] at hx
    split at hx
    · rename_i es; subst es; cases hx; exact ⟨_, h, fun β => by rw [e]⟩
    · exact ih hx
  | cons' h e t ih =>
    rw [look_cons] at hx
    split at hx
    · rename_i es; subst es; cases hx; exact ⟨_, h, e⟩
    · exact ih hx
theorem subB.look {B bnd : Bnd} (h : subB B bnd) {l b : Nat} (hx : lookB B l = some b) : lookB bnd l = some b := by
  induction h with
  | nil env => cases hx
  | cons h t ih =>
    rw [lookB_cons] at hx
    split at hx
    · rename_i es; subst es; cases hx; exact h
    · exact ih hx
theorem subM.sat {M mem : Mem} (h : subM M mem) : ∀ (X : List SP) (w : World), SatW (memSP β mem ++ X) w → SatW (memSP β M ++ X) w := by
  induction h with
  | nil mem => exact fun X w H => H.app_right
  | cons h e hd k ih =>
    intro X w H
    subst e
    subst hd
    have H1 := H.perm ((lookM_perm h).append_right _)
    have H2 := ih (_ :: X) w (H1.perm (List.perm_middle.symm))
    exact H2.perm List.perm_middle
theorem subR.sat {R L : Res} (h : subR R L) : ∀ (X : List SP) (w : World), SatW (L.map (·.2) ++ X) w → SatW (R.map (·.2) ++ X) w := by
  induction h with
  | nil mem => exact fun X w H => H.app_right
  | cons h e k ih =>
    intro X w H
    subst e
    have H1 := H.perm ((takeR_perm h).append_right _)
    have H2 := ih (_ :: X) w (H1.perm (List.perm_middle.symm))
    exact H2.perm List.perm_middle

theorem Nx.weak {E : Env} {M : Mem} {B : Bnd} {R : Res} (h : Nx g E M B R N) (hE : subE E env) (hM : subM M mem) (hB : subB B bnd) (hR : subR R L) : Nx g env mem bnd L N := by
  intro β a w hr
  refine h β a w ⟨hr.defers, hr.size, fun s x hx => (let ⟨y, h1, h2⟩ := hE.look hx; (h2 β) ▸ hr.env s y h1), fun l b hb => hr.bnd l b (hB.look hb), hr.os, hr.tape, hr.output, ?_⟩
  exact ((hR.sat _ w (hM.sat _ w hr.sat).swapHead)).swapHead
/-- First a weaker state. -/
theorem Nx.cut {E : Env} {M : Mem} {B : Bnd} {R : Res} (hE : subE E env) (hM : subM M mem) (hB : subB B bnd) (hR : subR R L) (h : Nx g E M B R N) : Nx g env mem bnd L N := h.weak hE hM hB hR

/-! ### Loops -/
theorem Nx.loop {X : Type} {c : Code} {k : List Item} (I : X → Prop) (μ : X → Nat) (E : X → Env) (M : X → Mem) (B : Bnd) (R : X → Res) (x0 : X) (h0 : I x0)
    (hE : subE (E x0) env) (hM : subM (M x0) mem) (hB : subB B bnd) (hR : subR (R x0) L)
    (hr : ∀ x, I x → (∀ x', I x' → μ x' < μ x → Nx g (E x') (M x') B (R x') (RunC g (.inLoop c :: k))) → Nx g (E x) (M x) B (R x) (RunC g (.code c :: .inLoop c :: k))) :
    Nx g env mem bnd L (RunC g (.code (.loop c) :: k)) := by
  have key : ∀ n x, μ x = n → I x → Nx g (E x) (M x) B (R x) (RunC g (.code c :: .inLoop c :: k)) := by
    intro n
    induction n using Nat.strongRecOn with
    | _ n ih =>
      intro x hx hI
      refine hr x hI fun x' hI' hlt => ?_
      intro β a w hrel
      exact Ret.one (fun cs => step_inLoop) (ih (μ x') (hx ▸ hlt) x' rfl hI' β a w hrel)
  refine Nx.weak (E := E x0) (M := M x0) (B := B) (R := R x0) ?_ hE hM hB hR
  intro β a w hrel
  exact Ret.one (fun cs => step_loop) (key _ x0 rfl h0 β a w hrel)

/-! ### Blocks in and out of the state -/
/-- A block of the call's own becomes an assertion like others. -/
theorem Nx.out (l : Nat) {t b : Nat} {cs : List Ce} {vs : List Value} {mem' : Mem} (hl : lookM mem l = some (t, cs)) (hb : lookB bnd l = some b) (hv : cesV bnd cs = some vs) (hd : delMo mem l = some mem')
    (h : Nx g env mem' bnd ((l, blk b (.cells vs.toArray t (0, 0))) :: L) N) : Nx g env mem bnd L N := by
  intro β a w hr
  rw [delMo_eq] at hd
  cases hd
  refine h β a w ⟨hr.defers, hr.size, hr.env, hr.bnd, hr.os, hr.tape, hr.output, ?_⟩
  have h1 := hr.sat.perm ((lookM_perm hl).append_right _)
  have e1 : β l = b := hr.bnd l b hb
  have e2 : cellsOf β cs = vs.toArray := by unfold cellsOf; rw [cesV_den hr.bnd hv]
  rw [e1, e2] at h1
  exact h1.perm List.perm_middle.symm
def pointsTo (env : Env) (b : Nat) : List Nat → Prop
  | [] => True
  | s :: r => look env s = some (.c (.v (.pointer (some ⟨b, 0, none⟩)))) ∧ pointsTo env b r
def locE (l : Nat) : List Nat → Env → Env
  | [], env => env
  | s :: r, env => (s, .c (.loc l 0)) :: locE l r env
/-- An assertion of a block becomes part of the state; slots that point to it are read as such. -/
theorem Nx.inn (l : Nat) {b t : Nat} {vs : List Value} {cs : List Ce} {L' : Res} (ss : List Nat) (hp : takeR l L = some (blk b (.cells vs.toArray t (0, 0)), L')) (hl : lookB bnd l = none ∧ fresh l env mem bnd = true) (hcs : valsO vs = some cs) (hs : pointsTo env b ss)
    (h : Nx g (locE l ss env) ((l, t, cs) :: mem) ((l, b) :: bnd) L' N) : Nx g env mem bnd L N := by
  intro β a w hr
  obtain ⟨f1, f2, f3⟩ := fresh_parts hl.2
  rw [valsO_eq] at hcs
  cases hcs
  have hp' : pick [l] L = some ([blk b (.cells vs.toArray t (0, 0))], L') := by simp [pick, hp]
  have h1 := hr.picked hp'
  refine h (upd β l b) a w ⟨hr.defers, hr.size, ?_, ?_, hr.os, hr.tape, hr.output, ?_⟩
  · intro s x hx
    have base : ∀ s x, look env s = some x → a.tmps[s]? = some (x.den (upd β l b)) := fun s x hx => by
      rw [SV.den_upd (freshE_look f1 s x hx)]
      exact hr.env s x hx
    clear h h1 hp hp'
    induction ss with
    | nil => exact base s x hx
    | cons s0 r ih =>
      simp only [locE, look_cons] at hx
      split at hx
      · rename_i e
        subst e
        cases hx
        rw [hr.env _ _ hs.1]
        simp [SV.den, Ce.den, upd_self]
      · exact ih hs.2 hx
  · intro k x hk
    rw [lookB_cons] at hk
    split at hk
    · rename_i e; subst e; cases hk; exact upd_self _ _ _
    · rw [upd_ne (freshB_look f3 k x hk)]; exact hr.bnd k x hk
  · have e : memSP (upd β l b) ((l, t, vs.map .v) :: mem) = blk b (.cells vs.toArray t (0, 0)) :: memSP β mem := by
      have e1 := freshM_mem (β := β) (b := b) f2
      have e2 : (Ce.den (upd β l b) ∘ Ce.v) = id := rfl
      simp only [memSP, List.map_cons, cellsOf, upd_self] at e1 ⊢
      rw [e1]
      simp [e2]
    rw [e]
    exact h1
/-- The same, where the block was part of the state before. -/
theorem Nx.back (l : Nat) {b t : Nat} {vs : List Value} {cs : List Ce} {L' : Res} (hp : takeR l L = some (blk b (.cells vs.toArray t (0, 0)), L')) (hb : lookB bnd l = some b) (hcs : valsO vs = some cs)
    (h : Nx g env ((l, t, cs) :: mem) bnd L' N) : Nx g env mem bnd L N := by
  intro β a w hr
  rw [valsO_eq] at hcs
  cases hcs
  have hp' : pick [l] L = some ([blk b (.cells vs.toArray t (0, 0))], L') := by simp [pick, hp]
  have h1 := hr.picked hp'
  refine h β a w ⟨hr.defers, hr.size, hr.env, hr.bnd, hr.os, hr.tape, hr.output, ?_⟩
  have e2 : (Ce.den β ∘ Ce.v) = id := rfl
  have e : memSP β ((l, t, vs.map .v) :: mem) = blk b (.cells vs.toArray t (0, 0)) :: memSP β mem := by
    simp [memSP, cellsOf, hr.bnd l b hb, e2]
  rw [e]
  exact h1

/-! ### The end -/
def retV (env : Env) (bnd : Bnd) : List ResultVar → Option (List Value)
  | [] => some []
  | .tmp t :: r => match look env t with
    | some s => match svV bnd s with
      | some v => match retV env bnd r with
        | some vs => some (v :: vs)
        | none => none
      | none => none
    | none => none
  | .cell _ _ :: _ => none
def retM (P : Program) (env : Env) (mem : Mem) (bnd : Bnd) : List ResultVar → Option (List Value)
  | [] => some []
  | .tmp t :: r => match look env t with
    | some s => match svV bnd s with
      | some v => match retM P env mem bnd r with
        | some vs => some (v :: vs)
        | none => none
      | none => none
    | none => none
  | .cell x t :: r => match look env x with
    | some (.c (.loc l o)) => match lookM mem l with
      | some (_, cs) => match aggOf P t with
        | .one => match getL cs o with
          | some y => match ceV bnd y with
            | some v => match retM P env mem bnd r with
              | some vs => some (v :: vs)
              | none => none
            | none => none
          | none => none
        | .many n => match cutL cs o n with
          | some ys => match cesV bnd ys with
            | some zs => match retM P env mem bnd r with
              | some vs => some (.agg zs.toArray :: vs)
              | none => none
            | none => none
          | none => none
        | .no => none
      | none => none
    | _ => none
def oneV : List Value → Value
  | [v] => v
  | vs => .tuple vs.toArray

def resS (tmps : Array Value) : ResultVar → Sem Value
  | .tmp t => pure (tmps.getD t undef)
  | .cell x t => do loadVar t (← asAddr (tmps.getD x undef))
theorem retM_run (hr : Rel g β env mem bnd L a w) : ∀ (rs : List ResultVar) (vs : List Value), retM g.P env mem bnd rs = some vs →
    Sem.run g.P (rs.mapM (resS a.tmps)) w = .ok vs w
  | [], vs, h => by simp only [retM, Option.some.injEq] at h; subst h; rfl
  | .tmp t :: r, vs, h => by
    simp only [retM] at h
    cases h1 : look env t with
    | none => rw [h1] at h; cases h
    | some s =>
      rw [h1] at h
      cases h2 : svV bnd s with
      | none => simp only [h2] at h; cases h
      | some v =>
        simp only [h2] at h
        cases h3 : retM g.P env mem bnd r with
        | none => rw [h3] at h; cases h
        | some us =>
          rw [h3] at h
          cases h
          have ih := retM_run hr r us h3
          have he : a.tmps.getD t undef = v := by
            rw [Array.getD_eq_getD_getElem?, hr.env t s h1, Option.getD_some, svV_den hr.bnd h2]
          rw [List.mapM_cons]
          simp only [resS, Sem.run_bind, Sem.run_pure, Result.andThen_ok, he, ih]
  | .cell x t :: r, vs, h => by
    simp only [retM] at h
    split at h
    · rename_i l o hx
      have he : a.tmps.getD x undef = .pointer (some ⟨β l, o, none⟩) := by
        rw [Array.getD_eq_getD_getElem?, hr.env x _ hx]; rfl
      split at h
      · rename_i tt cs hl
        split at h
        · rename_i ha
          split at h
          · rename_i y hy
            split at h
            · rename_i v hv
              split at h
              · rename_i us h3
                cases h
                have ih := retM_run hr r us h3
                rw [List.mapM_cons]
                simp only [resS, Sem.run_bind, Sem.run_pure, Result.andThen_ok, he, asAddr, run_load_one hr hl ha hy, ceV_den hr.bnd hv, ih]
              · cases h
            · cases h
          · cases h
        · rename_i n ha
          split at h
          · rename_i ys hy
            split at h
            · rename_i zs hz
              split at h
              · rename_i us h3
                cases h
                have ih := retM_run hr r us h3
                rw [List.mapM_cons]
                have e : cellsOf β ys = zs.toArray := by unfold cellsOf; rw [cesV_den hr.bnd hz]
                simp only [resS, Sem.run_bind, Sem.run_pure, Result.andThen_ok, he, asAddr, run_load_many hr hl ha hy, e, ih]
              · cases h
            · cases h
          · cases h
        · cases h
      · cases h
    · cases h

theorem results_run (hr : Rel g β env mem bnd L a w) {vs : List Value} (h : retM g.P env mem bnd g.fn.results.toList = some vs) : (results g.fn a.tmps).run g.P w = .ok (oneV vs) w := by
  have h1 := retM_run hr _ _ h
  have e : results g.fn a.tmps = (do
      let vs ← g.fn.results.mapM (resS a.tmps)
      pure (if h : vs.size = 1 then vs[0] else .tuple vs)) := by
    unfold results
    congr 1
  rw [e, Array.mapM_eq_mapM_toList]
  simp only [Sem.run_bind, Sem.run_map, h1]
  simp only [Result.andThen_ok, Sem.run_pure]
  match vs with
  | [] => rfl
  | [v] => rfl
  | v :: u :: r => rfl

theorem Ret.leave {fr : Frame} {v : Value} (hf : g.P.funcs[g.f]? = some g.fn) (hd : a.defers = []) {k : List Item} (hk : ∀ cs, step g.P (lone ((base g).at a k) cs w) = .next (lone { (base g).at a k with mode := .returning } cs w))
    (hv : (results g.fn a.tmps).run g.P w = .ok v w) (hdone : Done g (.returned v) w) (_ : fr = fr) : Ret g k a w := by
  intro cs
  refine ⟨.returned v, w, { (base g).at a k with mode := .returning }, hdone, .one (hk cs), rfl, ?_⟩
  exact ⟨rfl, hd, rfl, g.fn, hf, hv⟩

theorem Nx.ret (ns : List Nat) {vs : List Value} {Qs : List SP} {L' : Res} {k : List Item} (hf : g.P.funcs[g.f]? = some g.fn) (hv : retM g.P env mem bnd g.fn.results.toList = some vs) (hp : pick ns L = some (Qs, L')) (hR : g.R (oneV vs) Qs) :
    Nx g env mem bnd L (RunC g (.code .ret :: k)) := by
  intro β a w hr
  refine Ret.leave (fr := default) hf hr.defers (fun cs => step_ret) (results_run hr hv) ⟨_, Qs, rfl, hR, hr.os, hr.tape, hr.output, ?_⟩ rfl
  have := hr.picked hp
  rw [← List.append_assoc] at this
  rw [← List.append_assoc] at this
  have h2 : SatW ((Qs ++ g.F) ++ (memSP β mem ++ L'.map (·.2))) w := this.perm (by
    rw [List.append_assoc, List.append_assoc, List.append_assoc]
    refine List.Perm.append_left _ ?_
    rw [← List.append_assoc]
    exact List.perm_append_comm)
  exact h2.app_left
theorem Nx.done (ns : List Nat) {vs : List Value} {Qs : List SP} {L' : Res} (hf : g.P.funcs[g.f]? = some g.fn) (hv : retM g.P env mem bnd g.fn.results.toList = some vs) (hp : pick ns L = some (Qs, L')) (hR : g.R (oneV vs) Qs) :
    Nx g env mem bnd L (RunC g []) := by
  intro β a w hr
  refine Ret.leave (fr := default) hf hr.defers (fun cs => step_end) (results_run hr hv) ⟨_, Qs, rfl, hR, hr.os, hr.tape, hr.output, ?_⟩ rfl
  have := hr.picked hp
  rw [← List.append_assoc] at this
  rw [← List.append_assoc] at this
  have h2 : SatW ((Qs ++ g.F) ++ (memSP β mem ++ L'.map (·.2))) w := this.perm (by
    rw [List.append_assoc, List.append_assoc, List.append_assoc]
    refine List.Perm.append_left _ ?_
    rw [← List.append_assoc]
    exact List.perm_append_comm)
  exact h2.app_left

/-! ### Calls -/
theorem Nx.call (ns ns' : List Nat) {o : Oper} {x : Operand} {ars : Array Operand} {ts : Array TypeId} {f : Nat} {first cap : Array Value} {vs args : List Value} {Pre : List SP} {Post : Value → List SP → Prop} {L' : Res}
    (ho : o.op = .call ⟨.value x, ars, ts⟩) (hx : ev env x = some (.c (.v (.func (.func f) first cap)))) (hv : opsV env bnd ars.toList = some vs) (ha : first.toList ++ (vs ++ cap.toList) = args) (hd : dstOk g.n o.dst = true)
    (h : FnOk g.P f args Pre Post) (hp : pick ns L = some (Pre, L'))
    (hk : ∀ v Qs, Post v Qs → Nx g (putE o.dst (ofV v) env) mem bnd (ns'.zip Qs ++ L') N) : Nx g env mem bnd L (OneC g o N Q) := by
  intro β a w hr
  have hargs : ars.map a.eval = vs.toArray := by
    apply Array.ext'
    simpa using opsV_eval hr hv
  have hrun : (execOp a.eval o).run g.P w = .ok (.enter f args.toArray) w := by
    have hex : a.eval x = .func (.func f) first cap := hr.ev hx
    have e : first ++ vs.toArray ++ cap = args.toArray := by
      apply Array.ext'
      simp [← ha]
    simp only [execOp, ho, resolve, hargs, hex, Deferred.ofValue, Sem.run_bind, Sem.run_pure, Result.andThen_ok, invoke, h.1, e]
  have hc := h.2 _ w (hr.picked hp)
  show o.wp g.P a w N Q
  unfold Oper.wp
  rw [hrun]
  refine hc.mono ?_
  rintro e w' ⟨v, Qs, rfl, h1, h2, h3, h4, h5⟩
  have hR := (hr.unpicked (ns := ns') h5 h2 h3 h4).put o.dst (ofV v) hd
  rw [ofV_den] at hR
  exact hk v Qs h1 β _ _ hR
end
end Go.Proofs.YtkfnbpbhcnekiaaGreatDoor

/- Rules: slices that are read, slices that are owned, loads and stores of blocks that are assertions. -/
namespace Go.Proofs.YtkfnbpbhcnekiaaGreatDoor
open Go.RowKit

/-- In a memory a slice of so many elements, of so many cells each, has these cells. -/
def Rd (m : PH) (A : Option Addr) (n sz : Nat) (cells : List Value) : Prop :=
  cells.length = n * sz ∧ (0 < n → ∃ b o cs t fr, A = some ⟨b, o, none⟩ ∧ m b = some (.cells cs t fr) ∧ ∀ j, j < n * sz → cs[o + j]? = cells[j]?)
/-- What an assertion lets see. -/
def Sees (S : SP) (A : Option Addr) (n sz : Nat) (cells : List Value) : Prop := ∀ r h, r.dj h → S r h → Rd (r.un h) A n sz cells
/-- A place in a block has these cells. -/
def SeesAt (S : SP) (b p : Nat) (ys : List Value) : Prop := ∀ r h, r.dj h → S r h → ∃ cs t fr, (r.un h) b = some (.cells cs t fr) ∧ ∀ j, j < ys.length → cs[p + j]? = ys[j]?

theorem SeesAt.sub {S : SP} {b p : Nat} {ys : List Value} {y : Value} (h : SeesAt S b p ys) (j : Nat) (hj : ys[j]? = some y) : SeesAt S b (addN p j) [y] := by
  intro r m d s
  obtain ⟨cs, t, fr, h1, h2⟩ := h r m d s
  refine ⟨cs, t, fr, h1, fun i hi => ?_⟩
  have hi0 : i = 0 := by simpa using hi
  subst hi0
  have hlt : j < ys.length := (List.getElem?_eq_some_iff.1 hj).1
  rw [addN_eq, Nat.add_zero, h2 j hlt, hj]
  rfl
theorem SeesAt.cut {S : SP} {b p : Nat} {ys : List Value} (h : SeesAt S b p ys) (j n : Nat) (hn : j + n ≤ ys.length) : SeesAt S b (addN p j) ((ys.drop j).take n) := by
  intro r m d s
  obtain ⟨cs, t, fr, h1, h2⟩ := h r m d s
  refine ⟨cs, t, fr, h1, fun i hi => ?_⟩
  rw [List.length_take, List.length_drop] at hi
  rw [addN_eq, Nat.add_assoc, h2 (j + i) (by omega), List.getElem?_take, if_pos (by omega), List.getElem?_drop]

/-- A slice for reading. -/
def rdS (A : Option Addr) (n sz : Nat) (cells : List Value) : SP := fun r _ => Rd r A n sz cells
/-- A slice of the call's own: its elements are of type e. -/
def ownS (e : TypeId) (A : Option Addr) (n c sz : Nat) (cells : List Value) : SP := fun _ h =>
  cells.length = n * sz ∧ ((A = none ∧ n = 0 ∧ c = 0) ∨
    ∃ b cur, A = some ⟨b, 0, none⟩ ∧ h b = some (.cells cur e (0, 0)) ∧ n ≤ c ∧ c ≤ maxLen ∧ cur.size = c * sz ∧ cur.toList.take (n * sz) = cells)

theorem Rd.mono {m m' : PH} {A : Option Addr} {n sz : Nat} {cells : List Value} (h : Rd m A n sz cells) (hm : m.le m') : Rd m' A n sz cells :=
  ⟨h.1, fun hn => let ⟨b, o, cs, t, fr, h1, h2, h3⟩ := h.2 hn; ⟨b, o, cs, t, fr, h1, hm _ _ h2, h3⟩⟩
theorem rdS_sees (A : Option Addr) (n sz : Nat) (cells : List Value) : Sees (rdS A n sz cells) A n sz cells :=
  fun r h _ hs => Rd.mono hs (PH.le_un_left r h)
theorem rdS_pers (A : Option Addr) (n sz : Nat) (cells : List Value) : Pers (rdS A n sz cells) := fun _ _ h => h
theorem roAll_sees {m : PH} {A : Option Addr} {n sz : Nat} {cells : List Value} (h : Rd m A n sz cells) : Sees (roAll m) A n sz cells :=
  fun r h' _ hs => h.mono (PH.le_trans (show m.le r from hs) (PH.le_un_left r h'))
theorem own_rd {e : TypeId} {A : Option Addr} {n c sz : Nat} {cells : List Value} {r h : PH} (hs : ownS e A n c sz cells r h) : Rd h A n sz cells := by
  refine ⟨hs.1, fun hn => ?_⟩
  rcases hs.2 with ⟨_, h0, _⟩ | ⟨b, cur, h1, h2, h3, h4, h5, h6⟩
  · omega
  · refine ⟨b, 0, cur, e, (0, 0), h1, h2, fun j hj => ?_⟩
    rw [← h6, List.getElem?_take, if_pos hj]
    simp
theorem ownS_sees (e : TypeId) (A : Option Addr) (n c sz : Nat) (cells : List Value) : Sees (ownS e A n c sz cells) A n sz cells :=
  fun _ _ d hs => (own_rd hs).mono (PH.le_un_right d)
theorem own_share {e : TypeId} {A : Option Addr} {n c sz : Nat} {cells : List Value} : ∀ r h, r.dj h → ownS e A n c sz cells r h → rdS A n sz cells (r.un h) PH.em :=
  fun _ _ d hs => (own_rd hs).mono (PH.le_un_right d)
theorem own_nil (e sz : Nat) (r h : PH) : ownS e none 0 0 sz [] r h := ⟨by simp, .inl ⟨rfl, rfl, rfl⟩⟩

theorem Sees.at {S : SP} {A : Option Addr} {n sz : Nat} {cells : List Value} (hs : Sees S A n sz cells) {r h : PH} (d : r.dj h) (hS : S r h) {i : Nat} (hi : i < n) :
    ∃ b p, A = some ⟨b, p, none⟩ ∧ ∃ cs t fr, (r.un h) b = some (.cells cs t fr) ∧ ∀ j, j < sz → cs[p + i * sz + j]? = cells[i * sz + j]? := by
  obtain ⟨b, o, cs, t, fr, h1, h2, h3⟩ := (hs r h d hS).2 (by omega)
  refine ⟨b, o, h1, cs, t, fr, h2, fun j hj => ?_⟩
  have : i * sz + j < n * sz := by
    have := Nat.mul_le_mul_right sz (show i + 1 ≤ n from hi)
    rw [Nat.succ_mul] at this
    omega
  rw [Nat.add_assoc]
  exact h3 _ this

/-- The cells and bytes of an element's type. -/
def elemI (P : Program) (e : TypeId) : Option (Nat × Nat) :=
  match P.info? e with
  | some i => match i.zero with
    | some z => match Nat.beq z.cells.size i.size with
      | true => match Nat.blt 0 i.size with
        | true => some (i.size, i.bytes)
        | false => none
      | false => none
    | none => none
  | none => none
theorem elemI_ok {P : Program} {e : TypeId} {sz by_ : Nat} (h : elemI P e = some (sz, by_)) : ∃ i z, P.info? e = some i ∧ i.zero = some z ∧ z.cells.size = i.size ∧ 0 < i.size ∧ i.size = sz ∧ i.bytes = by_ := by
  unfold elemI at h
  cases hi : P.info? e with
  | none => rw [hi] at h; cases h
  | some i =>
    simp only [hi] at h
    cases hz : i.zero with
    | none => simp only [hz] at h; cases h
    | some z =>
      simp only [hz] at h
      cases h1 : Nat.beq z.cells.size i.size with
      | false => simp only [h1] at h; cases h
      | true =>
        simp only [h1] at h
        cases h2 : Nat.blt 0 i.size with
        | false => simp only [h2] at h; cases h
        | true =>
          simp only [h2] at h
          cases h
          exact ⟨i, z, rfl, hz, by simpa using h1, by simpa [Nat.blt_eq] using h2, rfl, rfl⟩

section
variable {g : Cx} {β : Nat → Nat} {env : Env} {mem : Mem} {bnd : Bnd} {L : Res} {a : Act} {w : World} {N : Act → World → Prop} {Q : Exit → Act → World → Prop}

theorem takeR_pick {n : Nat} {P : SP} {L' : Res} (h : takeR n L = some (P, L')) : pick [n] L = some ([P], L') := by simp [pick, h]

/-- The address of a slice's element. -/
theorem Nx.index (nm : Nat) {o : Oper} {t e : TypeId} {x i : Operand} {A : Option Addr} {n c : Nat} {k : IntKind} {iv : Int} {S : SP} {L' : Res} {sz : Nat} {cells ys : List Value} {by_ : Nat}
    (ho : o.op = .indexAddr t x i) (hx : ev env x = some (.c (.v (.slice A n c)))) (hi : ev env i = some (.c (.v (.int k iv)))) (ht : g.P.underlying t = some (.slice e)) (he : elemI g.P e = some (sz, by_)) (hd : dstOk g.n o.dst = true)
    (hp : takeR nm L = some (S, L')) (hs : Sees S A n sz cells) (h0 : 0 ≤ iv) (h1 : iv < n) (hy : ys.length = sz) (hys : ∀ j, j < sz → cells[iv.toNat * sz + j]? = ys[j]?)
    (hk : ∀ b p, SeesAt S b p ys → Nx g (putE o.dst (.c (.v (.pointer (some ⟨b, p, none⟩)))) env) mem bnd L N) : Nx g env mem bnd L (OneC g o N Q) := by
  intro β a w hr
  obtain ⟨ei, zz, he, hz, hzs, hpos, hez, hby⟩ := elemI_ok he
  have hsat := hr.picked (takeR_pick hp)
  obtain ⟨r, h, x1, x2, x3, r1, h1', h2', y1, y2, y3, y4, y5, y6⟩ := hsat
  have hd1 : r1.dj h1' := PH.dj_mono x3 y1 y2
  have hin : iv.toNat < n := by omega
  obtain ⟨b, p, hA, cs, tt, fr, hb, hc⟩ := hs.at hd1 y5 hin
  subst hA
  have hsee : SeesAt S b (p + iv.toNat * sz) ys := by
    intro r2 h2 d2 s2
    obtain ⟨b', p', hA', cs', tt', fr', hb', hc'⟩ := hs.at d2 s2 hin
    cases hA'
    exact ⟨cs', tt', fr', hb', fun j hj => by rw [hc' j (by omega), hys j (by omega)]⟩
  have hrun : (execOp a.eval o).run g.P w = .ok (.value (.pointer (some ⟨b, p + iv.toNat * sz, none⟩))) w := by
    have e1 : a.eval x = .slice (some ⟨b, p, none⟩) n c := hr.ev hx
    have e2 : a.eval i = .int k iv := hr.ev hi
    simp [execOp, ho, e1, e2, Instr.indexAt, asIntOf, run_underlying ht, h0, h1, sizeOf, typeInfo, he, hez, add_plain']
  exact wp_value hrun (hk b _ hsee β _ _ (hr.put o.dst (.c (.v (.pointer (some ⟨b, p + iv.toNat * sz, none⟩)))) hd))

/-- A load of what an assertion lets see. -/
theorem Nx.load (nm : Nat) {o : Oper} {t : TypeId} {x : Operand} {b p : Nat} {S : SP} {L' : Res} {ys : List Value} {cs : List Ce}
    (ho : o.op = .load t x) (hx : ev env x = some (.c (.v (.pointer (some ⟨b, p, none⟩))))) (hd : dstOk g.n o.dst = true) (hp : takeR nm L = some (S, L')) (hs : SeesAt S b p ys)
    (ht : aggOf g.P t = .many ys.length) (hy : valsO ys = some cs) (hk : Nx g (putE o.dst (.agg cs) env) mem bnd L N) : Nx g env mem bnd L (OneC g o N Q) := by
  intro β a w hr
  have hsat := hr.picked (takeR_pick hp)
  have hw : ∃ cs' t' fr', w.heap[b]? = some (.cells cs' t' fr') ∧ ∀ j, j < ys.length → cs'[p + j]? = ys[j]? := by
    obtain ⟨r, h, x1, x2, x3, r1, h1', h2', y1, y2, y3, y4, y5, y6⟩ := hsat
    obtain ⟨cs', t', fr', q1, q2⟩ := hs r1 h1' (PH.dj_mono x3 y1 y2) y5
    exact ⟨cs', t', fr', (PH.un_le (PH.le_trans y1 x1) (PH.le_trans y2 x2)) _ _ q1, q2⟩
  obtain ⟨cs', t', fr', q1, q2⟩ := hw
  obtain ⟨g1, g2⟩ := aggOf_many ht w
  rw [valsO_eq] at hy
  cases hy
  have hl : (loadCells ⟨b, p, none⟩ ys.length).run g.P w = .ok ys.toArray w := run_loadCells_list (P := g.P) w ⟨b, p, none⟩ ys (fun j v hv => by
    rw [add_plain', cell_of_row w _ _ _ _ _ q1]
    have hj : j < ys.length := (List.getElem?_eq_some_iff.1 hv).1
    rw [q2 j hj]; exact hv)
  have hrun : (execOp a.eval o).run g.P w = .ok (.value ((SV.agg (ys.map .v)).den β)) w := by
    have e1 : a.eval x = .pointer (some ⟨b, p, none⟩) := hr.ev hx
    have e2 : (Ce.den β ∘ Ce.v) = id := rfl
    simp [execOp, ho, e1, Instr.loadAt, Instr.sureAddr, loadVar, g1, g2, hl, SV.den, e2]
  exact wp_value hrun (hk β _ _ (hr.put o.dst (.agg (ys.map .v)) hd))
theorem Nx.load1 (nm : Nat) {o : Oper} {t : TypeId} {x : Operand} {b p : Nat} {S : SP} {L' : Res} {y : Value}
    (ho : o.op = .load t x) (hx : ev env x = some (.c (.v (.pointer (some ⟨b, p, none⟩))))) (hd : dstOk g.n o.dst = true) (hp : takeR nm L = some (S, L')) (hs : SeesAt S b p [y])
    (ht : aggOf g.P t = .one) (hk : Nx g (putE o.dst (.c (.v y)) env) mem bnd L N) : Nx g env mem bnd L (OneC g o N Q) := by
  intro β a w hr
  have hsat := hr.picked (takeR_pick hp)
  have hw : ∃ cs' t' fr', w.heap[b]? = some (.cells cs' t' fr') ∧ ∀ j, j < [y].length → cs'[p + j]? = [y][j]? := by
    obtain ⟨r, h, x1, x2, x3, r1, h1', h2', y1, y2, y3, y4, y5, y6⟩ := hsat
    obtain ⟨cs', t', fr', q1, q2⟩ := hs r1 h1' (PH.dj_mono x3 y1 y2) y5
    exact ⟨cs', t', fr', (PH.un_le (PH.le_trans y1 x1) (PH.le_trans y2 x2)) _ _ q1, q2⟩
  obtain ⟨cs', t', fr', q1, q2⟩ := hw
  have hc : w.cell? ⟨b, p, none⟩ = some y := by
    rw [cell_of_row w _ _ _ _ _ q1]
    simpa using q2 0 (by simp)
  have hrun : (execOp a.eval o).run g.P w = .ok (.value y) w := by
    have e1 : a.eval x = .pointer (some ⟨b, p, none⟩) := hr.ev hx
    simp [execOp, ho, e1, Instr.loadAt, Instr.sureAddr, loadVar, aggOf_one ht, hc]
  exact wp_value hrun (hk β _ _ (hr.put o.dst (.c (.v y)) hd))

/-- From a memory in which one block may have gone, to one that has another block. -/
theorem SatW.move {L : List SP} {w w' : World} {b b' : Nat} {o o' : Obj} (H : SatW (blk b o :: L) w) (hk : ∀ (n : Nat) (x : Obj), n ≠ b → w.heap[n]? = some x → w'.heap[n]? = some x) (hb : w'.heap[b']? = some o') (hn : b' = b ∨ w.heap[b']? = none) : SatW (blk b' o' :: L) w' := by
  obtain ⟨r, h, a, hb0, c, r1, h1, h2, a1, a2, a3, a4, a5, a6⟩ := H
  have hb5 : h1 b = some o := a5
  have h2b : h2 b = none := (a4 b).resolve_left (by rw [hb5]; simp)
  have rb : r b = none := (c b).resolve_right (by rw [a2 b o a5]; simp)
  have keep : ∀ x : PH, x.le (hw w) → x b = none → x.le (hw w') := fun x hx hxb n y hy => by
    by_cases e : n = b
    · subst e; rw [hxb] at hy; cases hy
    · exact hk n y e (hx n y hy)
  have none' : ∀ x : PH, x.le (hw w) → x b = none → x b' = none := fun x hx hxb => by
    rcases hn with e | e
    · subst e; exact hxb
    · exact PH.none_of_le hx e
  have d1 : (PH.one b' o').dj h2 := fun n => by
    by_cases e : n = b'
    · subst e; exact .inr (none' h2 (PH.le_trans a3 hb0) h2b)
    · left; simp [PH.one, e]
  refine ⟨r, (PH.one b' o').un h2, keep r a rb, PH.un_le (PH.one_le hb) (keep h2 (PH.le_trans a3 hb0) h2b), PH.dj_symm (PH.un_dj (fun n => ?_) (PH.dj_symm (PH.dj_mono c (PH.le_refl _) a3))), ?_⟩
  · by_cases e : n = b'
    · subst e; exact .inr (none' r a rb)
    · left; simp [PH.one, e]
  · exact ⟨PH.em, PH.one b' o', h2, PH.em_le _, PH.le_un_left _ _, PH.le_un_right d1, d1, PH.one_self _ _, a6⟩
theorem SatW.fresh {L : List SP} {w w' : World} {b : Nat} {o : Obj} (H : SatW L w) (hk : ∀ (n : Nat) (x : Obj), w.heap[n]? = some x → w'.heap[n]? = some x) (hb : w'.heap[b]? = some o) (hn : w.heap[b]? = none) : SatW (blk b o :: L) w' := by
  obtain ⟨r, h, a, b0, c, d⟩ := H
  have d1 : (PH.one b o).dj h := fun n => by
    by_cases e : n = b
    · subst e; exact .inr (PH.none_of_le b0 hn)
    · left; simp [PH.one, e]
  have d2 : r.dj (PH.one b o) := fun n => by
    by_cases e : n = b
    · subst e; exact .inl (PH.none_of_le a hn)
    · right; simp [PH.one, e]
  refine ⟨r, (PH.one b o).un h, PH.le_trans a hk, PH.un_le (PH.one_le hb) (PH.le_trans b0 hk), PH.dj_symm (PH.un_dj (PH.dj_symm d2) (PH.dj_symm c)), ?_⟩
  exact ⟨PH.em, PH.one b o, h, PH.em_le _, PH.le_un_left _ _, PH.le_un_right d1, d1, PH.one_self _ _, d⟩

/-- What an append leaves of an owned slice. -/
theorem own_append {L : List SP} {w : World} {P : Program} {t ty e : TypeId} {i : TypeInfo} {z : Value} {A : Option Addr} {n c : Nat} {cells : List Value} (ht : P.underlying t = some (.slice e)) (hi : P.info? e = some i) (hz : i.zero = some z)
    (hzs : z.cells.size = i.size) (hsz : 0 < i.size) (H : SatW (ownS e A n c i.size cells :: L) w) (ad : Addr) (m c' : Nat) (news : List Value) (hl : news.length = m * i.size) (hnews : ∀ j u, news[j]? = some u → w.cell? (ad.add j) = some u)
    (h1 : ∀ u ∈ news, u.oneCell' = true) (h63 : n + m ≤ maxLen) (hbytes : (n + m) * i.bytes ≤ 140737488355328) :
    ∃ A' c'' w', (Builtin.append_ #[t, t] ty #[.slice A n c, .slice (some ad) m c']).run P w = .ok (.slice A' (n + m) c'') w' ∧ w'.os = w.os ∧ w'.tape = w.tape ∧ w'.output = w.output ∧ SatW (ownS e A' (n + m) c'' i.size (cells ++ news) :: L) w' := by
  have hown : w.ownsRow 0 e i.size (.slice A n c) n cells := by
    obtain ⟨r, h, a, hb, cc, r1, k1, k2, a1, a2, a3, a4, a5, a6⟩ := H
    refine ⟨a5.1, ?_⟩
    rcases a5.2 with ⟨rfl, rfl, rfl⟩ | ⟨b, cur, rfl, h2, h3, h4, h5, h6⟩
    · exact .inl ⟨rfl, rfl⟩
    · exact .inr ⟨b, c, cur, rfl, Nat.zero_le _, hb _ _ (a2 _ _ h2), h3, h4, h5, h6⟩
  obtain ⟨v', w', hrun, hown', hg, _, hat⟩ := run_append_own_at (P := P) w 0 t ty e i z i.size i.bytes ht hi hz rfl rfl hzs hsz _ n cells hown ad m c' news hl hnews h1 h63 hbytes (Nat.zero_le _)
  have hlen := hown'.1
  rcases hown'.2 with ⟨rfl, h0⟩ | ⟨b', cap, cur', rfl, _, hh, hn, hm, hcs, htk⟩
  · refine ⟨none, 0, w', by rw [hrun, h0], hg.os, hg.tape, hg.output, ?_⟩
    have hL := H.tail
    have hA : A = none := by
      rcases hown.2 with ⟨hv, _⟩ | ⟨b, _, _, hv, _⟩
      · injection hv
      · injection hv with hv
        subst hv
        rcases hat with hat | hat <;> simp [Value.ownBlock] at hat
    subst hA
    have : SatW L w' := hL.more fun k x hx => by
      have hk : k < w.heap.size := (Array.getElem?_eq_some_iff.1 hx).1
      show w'.heap[k]? = some x
      rw [hg.block k hk (by simp [Value.ownBlock])]; exact hx
    obtain ⟨r, h, y1, y2, y3, y4⟩ := this
    exact ⟨r, h, y1, y2, y3, PH.em, PH.em, h, PH.em_le _, PH.em_le _, PH.le_refl _, PH.em_dj _, ⟨hlen, .inl ⟨rfl, h0, rfl⟩⟩, y4⟩
  · refine ⟨some ⟨b', 0, none⟩, cap, w', hrun, hg.os, hg.tape, hg.output, ?_⟩
    have keep : ∀ (k : Nat) (x : Obj), (some k ≠ (Value.slice A n c).ownBlock) → w.heap[k]? = some x → w'.heap[k]? = some x := fun k x hne hx => by
      have hk : k < w.heap.size := (Array.getElem?_eq_some_iff.1 hx).1
      rw [hg.block k hk hne]; exact hx
    have key : SatW (blk b' (.cells cur' e (0, 0)) :: L) w' := by
      have H' := H
      obtain ⟨r, h, a, hb, cc, r1, k1, k2, a1, a2, a3, a4, a5, a6⟩ := H'
      rcases a5.2 with ⟨rfl, rfl, rfl⟩ | ⟨b, cur, rfl, h2, h3, h4, h5, h6⟩
      · have hb' : b' = w.heap.size := by
          rcases hat with hat | hat
          · simp [Value.ownBlock] at hat
          · simpa [Value.ownBlock] using hat
        exact SatW.fresh H.tail (fun k x hx => keep k x (by simp [Value.ownBlock]) hx) hh (by subst hb'; simp)
      · have hblk : SatW (blk b (.cells cur e (0, 0)) :: L) w := ⟨r, h, a, hb, cc, r1, k1, k2, a1, a2, a3, a4, h2, a6⟩
        refine SatW.move hblk (fun k x hne hx => keep k x (by simp [Value.ownBlock, hne]) hx) hh ?_
        rcases hat with hat | hat
        · left; simpa [Value.ownBlock] using hat
        · right
          have : b' = w.heap.size := by simpa [Value.ownBlock] using hat
          subst this; simp
    exact key.imp fun r h hs => ⟨hlen, .inr ⟨b', cur', rfl, hs, hn, hm, hcs, htk⟩⟩

/-- append of a row of the call's own to an owned slice. -/
theorem Nx.append (nm : Nat) {o : Oper} {t e : TypeId} {x y : Operand} {A : Option Addr} {n c : Nat} {L' : Res} {sz l m c' tt : Nat} {cells news : List Value} {by_ : Nat} {cs : List Ce}
    (ho : o.op = .call ⟨.builtin .append, #[x, y], #[t, t]⟩) (hx : ev env x = some (.c (.v (.slice A n c)))) (hy : ev env y = some (.c (.locs l 0 m c'))) (hl : lookM mem l = some (tt, cs)) (hv : cesV bnd cs = some news)
    (ht : g.P.underlying t = some (.slice e)) (he : elemI g.P e = some (sz, by_)) (hd : dstOk g.n o.dst = true)
    (hp : takeR nm L = some (ownS e A n c sz cells, L')) (hlen : Nat.beq news.length (m * sz) = true) (hone : (news.all fun u => u.oneCell') = true) (h63 : n + m ≤ maxLen) (hbytes : (n + m) * by_ ≤ 140737488355328)
    (hk : ∀ A' c'', Nx g (putE o.dst (.c (.v (.slice A' (n + m) c''))) env) mem bnd ((nm, ownS e A' (n + m) c'' sz (cells ++ news)) :: L') N) : Nx g env mem bnd L (OneC g o N Q) := by
  intro β a w hr
  obtain ⟨ei, z, hei, hz, hzs, hpos, hes, hby⟩ := elemI_ok he
  subst hes
  subst hby
  have hsat := hr.picked (takeR_pick hp)
  have hblk := hr.block hl
  have hcv : cellsOf β cs = news.toArray := by unfold cellsOf; rw [cesV_den hr.bnd hv]
  obtain ⟨A', c'', w', hrun, h1, h2, h3, h4⟩ := own_append (P := g.P) (ty := o.type) ht hei hz hzs hpos hsat ⟨β l, 0, none⟩ m c' news (by simpa using hlen) (fun j u hu => by
    rw [add_plain', Nat.zero_add, cell_of_row w _ _ _ _ _ hblk, hcv]
    simpa using hu) (by simpa using hone) h63 hbytes
  have hrun' : (execOp a.eval o).run g.P w = .ok (.value (.slice A' (n + m) c'')) w' := by
    have e1 : a.eval x = .slice A n c := hr.ev hx
    have e2 : a.eval y = .slice (some ⟨β l, 0, none⟩) m c' := hr.ev hy
    simp [execOp, ho, resolve, e1, e2, invoke, builtin, hrun]
  refine wp_value hrun' (hk A' c'' β _ _ ?_)
  exact (hr.unpicked (ns := [nm]) (Ps := [_]) h4 h1 h2 h3).put o.dst (.c (.v (.slice A' (n + m) c''))) hd

/-- An assertion that holds of no memory at all. -/
theorem Nx.give (nm : Nat) (P : SP) (hP : P PH.em PH.em) (h : Nx g env mem bnd ((nm, P) :: L) N) : Nx g env mem bnd L N := by
  intro β a w hr
  refine h β a w ⟨hr.defers, hr.size, hr.env, hr.bnd, hr.os, hr.tape, hr.output, ?_⟩
  obtain ⟨r, hh, y1, y2, y3, y4⟩ := hr.sat
  have : SatW (P :: (memSP β mem ++ (L.map (·.2) ++ g.F))) w := ⟨r, hh, y1, y2, y3, PH.em, PH.em, hh, PH.em_le _, PH.em_le _, PH.le_refl _, PH.em_dj _, hP, y4⟩
  exact this.perm List.perm_middle.symm

/-! ### Slices of things that are laid as cells -/
theorem flat_len {α : Type} {enc : α → List Value} {sz : Nat} (he : ∀ x, (enc x).length = sz) (l : List α) : (l.flatMap enc).length = l.length * sz := by
  induction l with
  | nil => simp
  | cons x r ih => rw [List.flatMap_cons, List.length_append, ih, he, List.length_cons, Nat.succ_mul]; omega
theorem flat_at {α : Type} {enc : α → List Value} {sz : Nat} (he : ∀ x, (enc x).length = sz) : ∀ (l : List α) (i : Nat) (hi : i < l.length) (j : Nat), j < sz → (l.flatMap enc)[i * sz + j]? = (enc l[i])[j]?
  | [], i, hi, _, _ => by simp at hi
  | x :: r, 0, hi, j, hj => by
    rw [List.flatMap_cons, List.getElem?_append_left (by rw [he]; omega)]
    simp
  | x :: r, i + 1, hi, j, hj => by
    rw [List.flatMap_cons, List.getElem?_append_right (by rw [he, Nat.succ_mul]; omega), he, List.getElem_cons_succ, ← flat_at he r i (by simpa using hi) j hj]
    congr 1
    rw [Nat.succ_mul]
    omega

/-- The address of an element of a slice of such things. -/
theorem Nx.idx (nm : Nat) {α : Type} {enc : α → List Value} {l : List α} {o : Oper} {t e : TypeId} {x i : Operand} {A : Option Addr} {n c : Nat} {k : IntKind} {iv : Int} {S : SP} {L' : Res} {sz j by_ : Nat}
    (ho : o.op = .indexAddr t x i) (hx : ev env x = some (.c (.v (.slice A n c)))) (hi : ev env i = some (.c (.v (.int k iv)))) (ht : g.P.underlying t = some (.slice e)) (he : elemI g.P e = some (sz, by_)) (hd : dstOk g.n o.dst = true)
    (hp : takeR nm L = some (S, L')) (henc : ∀ x, (enc x).length = sz) (hs : Sees S A n sz (l.flatMap enc)) (hn : n = l.length) (hj : iv = j) (hlt : j < l.length)
    (hk : ∀ b p, SeesAt S b p (enc l[j]) → Nx g (putE o.dst (.c (.v (.pointer (some ⟨b, p, none⟩)))) env) mem bnd L N) : Nx g env mem bnd L (OneC g o N Q) := by
  subst hj
  subst hn
  refine Nx.index nm ho hx hi ht he hd hp hs (Int.natCast_nonneg _) (by omega) (ys := enc l[j]) (henc _) (fun j' hj' => ?_) hk
  rw [Int.toNat_natCast]
  exact flat_at henc l j hlt j' hj'
end
end Go.Proofs.YtkfnbpbhcnekiaaGreatDoor

/- Regions whose order is drawn: by a plan: what only looks may be taken first, what acts comes alone. -/
namespace Go.Proofs.YtkfnbpbhcnekiaaGreatDoor
open Go.RowKit

/-- How an operation of a region is met: it looks at no memory; it looks at what is held; it acts (and leaves what is held, or comes behind all that look at it). -/
inductive PI where
  | pure (i : Nat)
  | held (i : Nat)
  | ex (i : Nat) (keep : Bool)

section
variable {P : Program} {ops : Array Oper} {Q : Exit → Act → World → Prop} {S T : World → Prop} {late : Nat → Bool}

/-- Whatever order is drawn; those that aren't late leave S. -/
def wpX (P : Program) (ops : Array Oper) (Q : Exit → Act → World → Prop) (S : World → Prop) (late : Nat → Bool) : Nat → Array Bool → Act → World → Prop
  | 0, listed, a, w => Region.ready .any ops listed = [] ∧ Q .normal a w
  | n + 1, listed, a, w => (Region.ready .any ops listed = [] → Q .normal a w) ∧
    ∀ i ∈ Region.ready .any ops listed, wpOp P ops Q i (fun a' w' => (late i = false → S w → S w') ∧ wpX P ops Q S late n (listed.setIfInBounds i true) a' w') a w

theorem wpX_any : ∀ (n : Nat) (listed : Array Bool) (a : Act) (w : World), wpX P ops Q S late n listed a w → wpAny P .any ops Q n listed a w
  | 0, _, _, _, h => h
  | n + 1, _, _, _, h => ⟨h.1, fun i hi => wpOp_mono (fun a' w' h' => wpX_any n _ a' w' h'.2) (h.2 i hi)⟩

/-- An operation that yields may be taken first. -/
theorem wpX_first {i : Nat} {oi : Oper} {v : Value} (hi : ops[i]? = some oi) (hsel : ∀ (j : Nat) (o : Oper) cs b, ops[j]? = some o → o.op ≠ .select cs b)
    (hQ : ∀ c a w, Q (.panic c) (a.put oi.dst v) w → Q (.panic c) a w)
    (hkeep : ∀ j oj, ops[j]? = some oj → (∀ e ∈ oj.after, Region.binds .any e = true → e.on ≠ i) → ∀ w w', T w → (late j = false → S w → S w') → T w') :
    ∀ (n : Nat) (listed : Array Bool) (a : Act) (w : World),
      (∀ j oj, ops[j]? = some oj → j ≠ i → listed.getD j true = false → (∀ e ∈ oj.after, Region.binds .any e = true → e.on ≠ i) → oi.apart ops oj = true) →
      i ∈ Region.ready .any ops listed → YieldsIf P ops T oi v a → T w →
      wpX P ops Q S late n (listed.setIfInBounds i true) (a.put oi.dst v) w → wpX P ops Q S late (n + 1) listed a w := by
  intro n
  induction n with
  | zero =>
    intro listed a w _ hr hy hT H
    refine ⟨fun h => absurd hr (by rw [h]; simp), fun j hj => ?_⟩
    by_cases hji : j = i
    · subst hji
      exact hy.wpOp hi hT ⟨fun _ h => h, H⟩
    · exact absurd (ready_mono (i := i) hj hji) (by rw [H.1]; simp)
  | succ n ih =>
    intro listed a w hfree hr hy hT H
    refine ⟨fun h => absurd hr (by rw [h]; simp), fun j hj => ?_⟩
    by_cases hji : j = i
    · subst hji
      exact hy.wpOp hi hT ⟨fun _ h => h, H⟩
    · have h1 := H.2 j (ready_mono hj hji)
      obtain ⟨hjun, oj, hoj, hall⟩ := mem_ready.1 hj
      have hnot : ∀ e ∈ oj.after, Region.binds .any e = true → e.on ≠ i := fun e he hb heq => by
        have h1 := hall e he hb
        have h0 := (mem_ready.1 hr).1
        rw [heq] at h1
        rcases Nat.lt_or_ge i listed.size with h' | h'
        · simp [h'] at h0 h1; rw [h0] at h1; cases h1
        · simp [Array.getElem?_eq_none h'] at h1
      have h2 := wpOp_putIf hoj (hfree j oj hoj hji hjun hnot) (fun cs b => hsel i oi cs b hi) (fun cs b => hsel j oj cs b hoj) hQ hy h1
      refine wpOp_mono (fun a' w' h3 => ⟨h3.2.1, ih (listed.setIfInBounds j true) a' w' ?_ (ready_mono hr (Ne.symm hji)) h3.1 (hkeep j oj hoj hnot w w' hT h3.2.1) ?_⟩) h2
      · intro k ok hk hki hun hno
        refine hfree k ok hk hki ?_ hno
        by_cases hjk : j = k
        · subst hjk; exact hjun
        · rw [getD_set_ne true hjk] at hun; exact hun
      · rw [Array.setIfInBounds_comm _ _ hji]
        exact h3.2.2

/-- A plan, met. -/
def planRun (P : Program) (ops : Array Oper) (Q : Exit → Act → World → Prop) (S : World → Prop) : List PI → Act → World → Prop
  | [], a, w => Q .normal a w
  | .pure i :: r, a, w => ∃ o v, ops[i]? = some o ∧ YieldsIf P ops (fun _ => True) o v a ∧ planRun P ops Q S r (a.put o.dst v) w
  | .held i :: r, a, w => ∃ o v, ops[i]? = some o ∧ YieldsIf P ops S o v a ∧ S w ∧ planRun P ops Q S r (a.put o.dst v) w
  | .ex i keep :: r, a, w => ∃ o, ops[i]? = some o ∧
      (Region.wanted o (yielded ops a.tmps) = true ∧ o.wp P a w (fun a' w' => (keep = true → S w → S w') ∧ planRun P ops Q S r a' w') Q ∨ Region.wanted o (yielded ops a.tmps) = false ∧ planRun P ops Q S r (a.put o.dst undef) w)

def isLate : List PI → Nat → Bool
  | [], _ => false
  | .ex i false :: r, j => i == j || isLate r j
  | _ :: r, j => isLate r j
/-- All that are late wait for i. -/
def lateWait (ops : Array Oper) (late : Nat → Bool) (i : Nat) : Bool :=
  (List.range ops.size).all fun j => !late j || match ops[j]? with
    | some o => o.after.any fun e => Region.binds .any e && e.on == i
    | none => true
def planOk (ops : Array Oper) (late : Nat → Bool) : Array Bool → List PI → Bool
  | listed, [] => (Region.ready .any ops listed).isEmpty
  | listed, .pure i :: r => (Region.ready .any ops listed).contains i && Region.free .any ops listed i && planOk ops late (listed.setIfInBounds i true) r
  | listed, .held i :: r => (Region.ready .any ops listed).contains i && Region.free .any ops listed i && lateWait ops late i && planOk ops late (listed.setIfInBounds i true) r
  | listed, .ex i keep :: r => (Region.ready .any ops listed == [i]) && (late i == !keep) && planOk ops late (listed.setIfInBounds i true) r

theorem plan_sound (hsel : Region.noSelect ops = true) (hQ : ∀ c a w, ¬ Q (.panic c) a w) : ∀ (plan : List PI) (listed : Array Bool) (a : Act) (w : World), planOk ops late listed plan = true → planRun P ops Q S plan a w → wpX P ops Q S late plan.length listed a w
  | [], listed, a, w, hp, h => by
    simp only [planOk, List.isEmpty_iff] at hp
    exact ⟨hp, h⟩
  | .pure i :: r, listed, a, w, hp, h => by
    simp only [planOk, Bool.and_eq_true] at hp
    obtain ⟨o, v, ho, hy, hr⟩ := h
    refine wpX_first ho (Region.noSelect_spec hsel) (fun c a w hq => absurd hq (hQ c _ w)) (T := fun _ => True) (fun _ _ _ _ _ _ _ _ => trivial) r.length listed a w (Region.free_spec ho hp.1.2) (by simpa using hp.1.1) hy trivial ?_
    exact plan_sound hsel hQ r _ _ w hp.2 hr
  | .held i :: r, listed, a, w, hp, h => by
    simp only [planOk, Bool.and_eq_true] at hp
    obtain ⟨o, v, ho, hy, hS, hr⟩ := h
    refine wpX_first ho (Region.noSelect_spec hsel) (fun c a w hq => absurd hq (hQ c _ w)) (T := S) (fun j oj hj hno w w' hw hk => ?_) r.length listed a w (Region.free_spec ho hp.1.1.2) (by simpa using hp.1.1.1) hy hS ?_
    · refine hk ?_ hw
      have hl := hp.1.2
      simp only [lateWait, List.all_eq_true, List.mem_range] at hl
      have h1 := hl j (Array.getElem?_eq_some_iff.1 hj).1
      simp only [hj, Bool.or_eq_true, Bool.not_eq_true'] at h1
      rcases h1 with h1 | h1
      · exact h1
      · obtain ⟨e, he, hb⟩ := Array.any_eq_true'.1 h1
        simp only [Bool.and_eq_true, beq_iff_eq] at hb
        exact absurd hb.2 (hno e he hb.1)
    · exact plan_sound hsel hQ r _ _ w hp.2 hr
  | .ex i keep :: r, listed, a, w, hp, h => by
    simp only [planOk, Bool.and_eq_true, beq_iff_eq] at hp
    obtain ⟨o, ho, h⟩ := h
    refine ⟨fun h0 => absurd hp.1.1 (by rw [h0]; simp), fun j hj => ?_⟩
    rw [hp.1.1, List.mem_singleton] at hj
    subst hj
    unfold wpOp
    simp only [ho]
    rcases h with ⟨hw, h⟩ | ⟨hw, h⟩
    · rw [if_pos hw]
      left
      refine Oper.wp_mono (fun a' w' h3 => ⟨fun hl hS => h3.1 (by rw [hp.1.2] at hl; simpa using hl) hS, plan_sound hsel hQ r _ a' w' hp.2 h3.2⟩) h
    · rw [if_neg (by rw [hw]; simp)]
      exact ⟨fun _ h => h, plan_sound hsel hQ r _ _ w hp.2 h⟩
end

/-! ### Upon a symbolic state -/
/-- All labels of a state's blocks are known by their numbers: the blocks, as assertions. -/
def pinS (bnd : Bnd) : Mem → Option (List SP)
  | [] => some []
  | (l, t, cs) :: r => match lookB bnd l with
    | some b => match cesV bnd cs with
      | some vs => match pinS bnd r with
        | some Ps => some (blk b (.cells vs.toArray t (0, 0)) :: Ps)
        | none => none
      | none => none
    | none => none
theorem pinS_eq {β : Nat → Nat} {bnd : Bnd} (hb : ∀ l b, lookB bnd l = some b → β l = b) : ∀ {m : Mem} {Ps : List SP}, pinS bnd m = some Ps → memSP β m = Ps
  | [], Ps, h => by simp only [pinS, Option.some.injEq] at h; subst h; rfl
  | (l, t, cs) :: r, Ps, h => by
    simp only [pinS] at h
    cases h1 : lookB bnd l with
    | none => rw [h1] at h; cases h
    | some b =>
      simp only [h1] at h
      cases h2 : cesV bnd cs with
      | none => simp only [h2] at h; cases h
      | some vs =>
        simp only [h2] at h
        cases h3 : pinS bnd r with
        | none => simp only [h3] at h; cases h
        | some Qs =>
          simp only [h3] at h
          cases h
          have ih := pinS_eq hb h3
          simp only [memSP, List.map_cons] at ih ⊢
          rw [ih]
          simp only [cellsOf, hb l b h1, cesV_den hb h2]

/-- What is held: some blocks of the state, and some assertions. -/
structure Held where
  mem : Mem
  bnd : Bnd
  ps : List SP
def heldW (H : Held) (w : World) : Prop := ∀ Ps, pinS H.bnd H.mem = some Ps → SatW (Ps ++ H.ps) w

def PlanC (g : Cx) (ops : Array Oper) (H : Held) (plan : List PI) (k : List Item) : Act → World → Prop := planRun g.P ops (Qn g k) (heldW H) plan
def PlanH (g : Cx) (ops : Array Oper) (H : Held) (plan : List PI) (k : List Item) : Act → World → Prop := fun a w => heldW H w → planRun g.P ops (Qn g k) (heldW H) plan a w
/-- Behind one that acts. -/
def AftC (g : Cx) (ops : Array Oper) (H : Held) (keep : Bool) (plan : List PI) (k : List Item) : Act → World → Prop := fun a w => (keep = true → heldW H w) ∧ planRun g.P ops (Qn g k) (heldW H) plan a w
/-- One that looks. -/
def HoC (g : Cx) (S : World → Prop) (o : Oper) (N : Act → World → Prop) : Act → World → Prop := fun a w => ∃ v, (∀ w', S w' → (execOp a.eval o).run g.P w' = .ok (.value v) w') ∧ N (a.put o.dst v) w

/-- A plan, what is held holding or not. -/
def planHead (g : Cx) (ops : Array Oper) (H : Held) (hold : Bool) (plan : List PI) (k : List Item) : Act → World → Prop :=
  match hold with
  | true => PlanH g ops H plan k
  | false => PlanC g ops H plan k

/-- An operation that looks, upon a state; mem: the blocks at which it may look. -/
def lookStep (g : Cx) (env : Env) (mem : Mem) (bnd : Bnd) (o : Oper) (st C D R : Env → Prop) : Prop :=
  match dstOk g.n o.dst with
  | false => st env
  | true => match pureOp g.P env mem bnd o.op with
    | .val x => putC o.dst x env C
    | .cells cs => putC o.dst (.agg cs) env C
    | .ar k n => Ar k n fun m => putC o.dst (.c (.v (.int k m))) env D
    | .no => match o.op with
      | .pick c x y => match ev env c with
        | some (.kb true) => match ev env x with
          | some u => putC o.dst u env C
          | none => st env
        | some (.kb false) => match ev env y with
          | some v => putC o.dst v env C
          | none => st env
        | some (.c (.v (.bool b))) => BrM b (assumeC env c true R) (assumeC env c false R)
        | _ => st env
      | _ => st env

/-- So many steps of a plan. hold: what is held holds. -/
def sxP : Nat → (g : Cx) → (ops : Array Oper) → (H : Held) → (hold : Bool) → Env → Mem → Bnd → Res → List PI → List Item → Prop
  | 0, g, ops, H, hold, env, mem, bnd, L, plan, k => Nx g env mem bnd L (planHead g ops H hold plan k)
  | n + 1, g, ops, H, hold, env, mem, bnd, L, plan, k => match plan with
    | [] => Nx g env mem bnd L (RunC g k)
    | .pure i :: r => match getL ops.toList i with
      | some o => match guardS ops.toList env o with
        | .yes => lookStep g env [] bnd o (fun env => Nx g env mem bnd L (HoC g (fun _ => True) o (planHead g ops H hold r k))) (fun env => sxP n g ops H hold env mem bnd L r k) (fun env => Nx g env mem bnd L (planHead g ops H hold r k)) (fun env => Nx g env mem bnd L (planHead g ops H hold (.pure i :: r) k))
        | .no => match dstOk g.n o.dst with
          | true => putC o.dst (.c (.v undef)) env fun env => sxP n g ops H hold env mem bnd L r k
          | false => False
        | .br d b => BrM b (Nx g ((d, .kb true) :: env) mem bnd L (planHead g ops H hold (.pure i :: r) k)) (Nx g ((d, .kb false) :: env) mem bnd L (planHead g ops H hold (.pure i :: r) k))
        | .st => Nx g env mem bnd L (planHead g ops H hold (.pure i :: r) k)
      | none => False
    | .held i :: r => match hold with
      | false => False
      | true => match getL ops.toList i with
        | some o => match guardS ops.toList env o with
          | .yes => lookStep g env H.mem bnd o (fun env => Nx g env mem bnd L (HoC g (heldW H) o (planHead g ops H true r k))) (fun env => sxP n g ops H true env mem bnd L r k) (fun env => Nx g env mem bnd L (planHead g ops H true r k)) (fun env => Nx g env mem bnd L (planHead g ops H true (.held i :: r) k))
          | .no => match dstOk g.n o.dst with
            | true => putC o.dst (.c (.v undef)) env fun env => sxP n g ops H true env mem bnd L r k
            | false => False
          | .br d b => BrM b (Nx g ((d, .kb true) :: env) mem bnd L (planHead g ops H true (.held i :: r) k)) (Nx g ((d, .kb false) :: env) mem bnd L (planHead g ops H true (.held i :: r) k))
          | .st => Nx g env mem bnd L (planHead g ops H true (.held i :: r) k)
        | none => False
    | .ex i keep :: r => match getL ops.toList i with
      | some o => match guardS ops.toList env o with
        | .yes => opStep g env mem bnd L o (fun env mem bnd L => Nx g env mem bnd L (OneC g o (AftC g ops H keep r k) (Qn g k))) (fun env mem bnd L => Nx g env mem bnd L (AftC g ops H keep r k)) (fun env => Nx g env mem bnd L (AftC g ops H keep r k)) (fun env bnd => Nx g env mem bnd L (OneC g o (AftC g ops H keep r k) (Qn g k)))
        | .no => match dstOk g.n o.dst with
          | true => putC o.dst (.c (.v undef)) env fun env => sxP n g ops H hold env mem bnd L r k
          | false => False
        | .br d b => BrM b (Nx g ((d, .kb true) :: env) mem bnd L (planHead g ops H hold (.ex i keep :: r) k)) (Nx g ((d, .kb false) :: env) mem bnd L (planHead g ops H hold (.ex i keep :: r) k))
        | .st => Nx g env mem bnd L (planHead g ops H hold (.ex i keep :: r) k)
      | none => False
end Go.Proofs.YtkfnbpbhcnekiaaGreatDoor

/- The plan's executor is sound; rules at its stops. -/
namespace Go.Proofs.YtkfnbpbhcnekiaaGreatDoor
open Go.RowKit

section
variable {g : Cx} {β : Nat → Nat} {env : Env} {mem : Mem} {bnd : Bnd} {L : Res} {a : Act} {w : World} {N : Act → World → Prop} {Q : Exit → Act → World → Prop} {ops : Array Oper} {H : Held} {plan r : List PI} {k : List Item}

/-- A look, at other worlds that hold the blocks at which it may look. -/
theorem lookStep_sound {o : Oper} {lm : Mem} {S : World → Prop} {st C D R : Env → Prop} (hr : Rel g β env mem bnd L a w) (hS : ∀ w', S w' → SatW (memSP β lm) w')
    (hst : st env → HoC g S o N a w) (hC : ∀ env' a', C env' → Rel g β env' mem bnd L a' w → N a' w) (hD : ∀ env' a', D env' → Rel g β env' mem bnd L a' w → N a' w)
    (hR2 : ∀ env', R env' → Rel g β env' mem bnd L a w → HoC g S o N a w)
    (h : lookStep g env lm bnd o st C D R) : HoC g S o N a w := by
  unfold lookStep at h
  simp only [putC_eq, assumeC_eq] at h
  split at h
  · exact hst h
  rename_i hd
  have hp : ∀ w', S w' → OutOk g.P β (execOp a.eval o) w' (pureOp g.P env lm bnd o.op) := fun w' hw' => by
    have hr' : Rel { g with F := [], os := w'.os, tape := w'.tape, output := w'.output } β env lm bnd [] a w' :=
      ⟨hr.defers, hr.size, hr.env, hr.bnd, rfl, rfl, rfl, by simpa using hS w' hw'⟩
    exact pureOp_ok hr' o
  split at h
  · rename_i x hx
    exact ⟨_, fun w' hw' => by have := hp w' hw'; rw [hx] at this; exact this, hC _ _ h (hr.put o.dst x hd)⟩
  · rename_i cs hx
    exact ⟨_, fun w' hw' => by have := hp w' hw'; rw [hx] at this; exact this, hC _ _ h (hr.put o.dst (.agg cs) hd)⟩
  · rename_i kk n hx
    exact ⟨_, fun w' hw' => by have := hp w' hw'; rw [hx] at this; exact this, hD _ _ h.out (hr.put o.dst (.c (.v (.int kk (kk.wrap n)))) hd)⟩
  · clear hp
    split at h
    · rename_i c x y hop
      have key : ∀ (b : Bool), a.eval c = .bool b → ∀ (z : Operand) (s : SV), ev env z = some s → (if b then z = x else z = y) → ∀ w', (execOp a.eval o).run g.P w' = .ok (.value (s.den β)) w' := by
        intro b ecb z s hz hzb w'
        have ez := hr.ev hz
        cases b
        · simp only [Bool.false_eq_true, if_false] at hzb
          subst hzb
          simp [execOp, hop, ecb, asBool, ez]
        · simp only [if_true] at hzb
          subst hzb
          simp [execOp, hop, ecb, asBool, ez]
      split at h
      · rename_i hc
        split at h
        · rename_i u hu
          exact ⟨_, fun w' _ => key true (hr.ev hc) x u hu (by simp) w', hC _ _ h (hr.put o.dst u hd)⟩
        · exact hst h
      · rename_i hc
        split at h
        · rename_i v hv
          exact ⟨_, fun w' _ => key false (hr.ev hc) y v hv (by simp) w', hC _ _ h (hr.put o.dst v hd)⟩
        · exact hst h
      · rename_i b hc
        obtain ⟨h1, h2⟩ := h.out
        cases b
        · exact hR2 _ (h2 rfl) (assume_rel hr hc rfl)
        · exact hR2 _ (h1 rfl) (assume_rel hr hc rfl)
      · exact hst h
    · exact hst h

theorem held_sat (hB : ∀ l b, lookB H.bnd l = some b → lookB bnd l = some b) {Ps : List SP} (hP : pinS H.bnd H.mem = some Ps) (hr : Rel g β env mem bnd L a w) : ∀ w', heldW H w' → SatW (memSP β H.mem) w' := fun w' hw' => by
  rw [pinS_eq (fun l b h => hr.bnd l b (hB l b h)) hP]
  exact (hw' Ps hP).app_left

theorem planHead_intro {hold : Bool} (h : (hold = true → heldW H w) → planRun g.P ops (Qn g k) (heldW H) plan a w) : planHead g ops H hold plan k a w := by
  cases hold
  · exact h (fun h => by cases h)
  · exact fun hw => h (fun _ => hw)

theorem planHead_pure {hold : Bool} {i : Nat} (h : planHead g ops H hold (.pure i :: r) k a w) {o : Oper} (ho : ops[i]? = some o) (hw : Region.wanted o (yielded ops a.tmps) = true) : HoC g (fun _ => True) o (planHead g ops H hold r k) a w ∨ (hold = true ∧ ¬ heldW H w) := by
  have key : planRun g.P ops (Qn g k) (heldW H) (.pure i :: r) a w → HoC g (fun _ => True) o (planHead g ops H hold r k) a w := by
    rintro ⟨o', v, ho', hy, hrun⟩
    rw [ho] at ho'
    cases ho'
    rcases hy with ⟨_, hy⟩ | ⟨hn, _⟩
    · refine ⟨v, hy, ?_⟩
      cases hold
      · exact hrun
      · exact fun _ => hrun
    · rw [hw] at hn; cases hn
  cases hold
  · exact .inl (key h)
  · by_cases hh : heldW H w
    · exact .inl (key (h hh))
    · exact .inr ⟨rfl, hh⟩
theorem planHead_held {i : Nat} (h : planHead g ops H true (.held i :: r) k a w) {o : Oper} (ho : ops[i]? = some o) (hw : Region.wanted o (yielded ops a.tmps) = true) (hh : heldW H w) : HoC g (heldW H) o (planHead g ops H true r k) a w := by
  obtain ⟨o', v, ho', hy, _, hrun⟩ := h hh
  rw [ho] at ho'
  cases ho'
  rcases hy with ⟨_, hy⟩ | ⟨hn, _⟩
  · exact ⟨v, hy, fun _ => hrun⟩
  · rw [hw] at hn; cases hn

set_option maxHeartbeats 1000000 in
theorem sxP_sound {Ps : List SP} (hP : pinS H.bnd H.mem = some Ps) : ∀ (n : Nat) (hold : Bool) (env : Env) (mem : Mem) (bnd : Bnd) (L : Res) (plan : List PI), (∀ l b, lookB H.bnd l = some b → lookB bnd l = some b) →
    sxP n g ops H hold env mem bnd L plan k → Nx g env mem bnd L (planHead g ops H hold plan k)
  | 0, hold, env, mem, bnd, L, plan, hB, h => h
  | n + 1, hold, env, mem, bnd, L, plan, hB, h => by
    unfold sxP at h
    simp only [putC_eq] at h
    intro β a w hr
    split at h
    · exact planHead_intro fun _ => h β a w hr
    · rename_i i r
      split at h
      · rename_i o ho
        have ho' : ops[i]? = some o := by rw [getL_eq, Array.getElem?_toList] at ho; exact ho
        split at h
        · rename_i hg
          have hw := guardS_yes hr hg
          refine planHead_intro fun hh => ?_
          have := lookStep_sound (S := fun _ => True) (N := planHead g ops H hold r k) (lm := []) hr (fun w' _ => SatW.nil w')
            (fun hs => hs β a w hr) (fun env' a' hs hr2 => sxP_sound hP n hold env' mem bnd L r hB hs β a' w hr2) (fun env' a' hs hr2 => hs β a' w hr2)
            (fun env' hs hr2 => by
              rcases planHead_pure (hs β a w hr2) ho' hw with h | ⟨h1, h2⟩
              · exact h
              · exact absurd (hh h1) h2) h
          obtain ⟨v, h1, h2⟩ := this
          refine ⟨o, v, ho', .inl ⟨hw, fun w' hw' => h1 w' hw'⟩, ?_⟩
          cases hold
          · exact h2
          · exact h2 (hh rfl)
        · rename_i hg
          split at h
          · rename_i hd
            refine planHead_intro fun hh => ⟨o, undef, ho', .inr ⟨guardS_no hr hg, rfl⟩, ?_⟩
            have h2 := sxP_sound hP n hold _ mem bnd L r hB h β _ w (hr.put o.dst (.c (.v undef)) hd)
            cases hold
            · exact h2
            · exact h2 (hh rfl)
          · exact h.elim
        · rename_i d b hg
          obtain ⟨h1, h2⟩ := h.out
          have hl := guardS_br hg
          cases b
          · exact h2 rfl β a w (assume_slot hr hl)
          · exact h1 rfl β a w (assume_slot hr hl)
        · exact h β a w hr
      · exact h.elim
    · rename_i i r
      split at h
      · exact h.elim
      · split at h
        · rename_i o ho
          have ho' : ops[i]? = some o := by rw [getL_eq, Array.getElem?_toList] at ho; exact ho
          split at h
          · rename_i hg
            have hw := guardS_yes hr hg
            intro hh
            have := lookStep_sound (S := heldW H) (N := planHead g ops H true r k) hr (held_sat hB hP hr)
              (fun hs => hs β a w hr) (fun env' a' hs hr2 => sxP_sound hP n true env' mem bnd L r hB hs β a' w hr2) (fun env' a' hs hr2 => hs β a' w hr2)
              (fun env' hs hr2 => planHead_held (hs β a w hr2) ho' hw hh) h
            obtain ⟨v, h1, h2⟩ := this
            exact ⟨o, v, ho', .inl ⟨hw, h1⟩, hh, h2 hh⟩
          · rename_i hg
            split at h
            · rename_i hd
              have h2 := sxP_sound hP n true _ mem bnd L r hB h β _ w (hr.put o.dst (.c (.v undef)) hd)
              exact fun hh => ⟨o, undef, ho', .inr ⟨guardS_no hr hg, rfl⟩, hh, h2 hh⟩
            · exact h.elim
          · rename_i d b hg
            obtain ⟨h1, h2⟩ := h.out
            have hl := guardS_br hg
            cases b
            · exact h2 rfl β a w (assume_slot hr hl)
            · exact h1 rfl β a w (assume_slot hr hl)
          · exact h β a w hr
        · exact h.elim
    · rename_i i keep r
      split at h
      · rename_i o ho
        have ho' : ops[i]? = some o := by rw [getL_eq, Array.getElem?_toList] at ho; exact ho
        split at h
        · rename_i hg
          refine planHead_intro fun hh => ⟨o, ho', .inl ⟨guardS_yes hr hg, ?_⟩⟩
          have h3 := opStep_sound (g := g) (N := AftC g ops H keep r k) (Q := Qn g k) hr (fun h => h β a w hr) (fun _ _ h => h) (fun _ h => h) (fun env' bnd' h hr' => h β a w hr') h
          exact Oper.wp_mono (fun a' w' h4 => ⟨fun hk _ => h4.1 hk, h4.2⟩) h3
        · rename_i hg
          split at h
          · rename_i hd
            refine planHead_intro fun hh => ⟨o, ho', .inr ⟨guardS_no hr hg, ?_⟩⟩
            have h2 := sxP_sound hP n hold _ mem bnd L r hB h β _ w (hr.put o.dst (.c (.v undef)) hd)
            cases hold
            · exact h2
            · exact h2 (hh rfl)
          · exact h.elim
        · rename_i d b hg
          obtain ⟨h1, h2⟩ := h.out
          have hl := guardS_br hg
          cases b
          · exact h2 rfl β a w (assume_slot hr hl)
          · exact h1 rfl β a w (assume_slot hr hl)
        · exact h β a w hr
      · exact h.elim

/-! ### Rules -/
theorem Nx.runP {n : Nat} {hold : Bool} {Ps : List SP} (hP : pinS H.bnd H.mem = some Ps) (hB : subB H.bnd bnd) (h : sxP n g ops H hold env mem bnd L plan k) : Nx g env mem bnd L (planHead g ops H hold plan k) :=
  sxP_sound hP n hold env mem bnd L plan (fun _ _ hl => hB.look hl) h

/-- What is held, of a state. -/
theorem Rel.held {Rs : Res} {Ps : List SP} (hr : Rel g β env mem bnd L a w) (hP : pinS H.bnd H.mem = some Ps) (hB : subB H.bnd bnd) (hM : subM H.mem mem) (hL : subR Rs L) (hps : Rs.map (·.2) = H.ps) : heldW H w := by
  intro Ps' hP'
  rw [hP] at hP'
  cases hP'
  have h1 := hL.sat _ w (hM.sat _ w hr.sat).swapHead
  have h2 := h1.swapHead
  rw [pinS_eq (fun l b h => hr.bnd l b (hB.look h)) hP, hps] at h2
  rw [← List.append_assoc] at h2
  exact h2.app_left

/-- The beginning of a region whose order is drawn. -/
theorem Nx.drawn {i : Nat} (plan : List PI) (H : Held) (Rs : Res) {Ps : List SP} (hm : g.P.follows .mixedOrders = true) (hsel : Region.noSelect ops = true) (hlen : plan.length = ops.size) (hok : planOk ops (isLate plan) (Array.replicate ops.size false) plan = true)
    (hP : pinS H.bnd H.mem = some Ps) (hB : subB H.bnd bnd) (hM : subM H.mem mem) (hL : subR Rs L) (hps : Rs.map (·.2) = H.ps)
    (h : Nx g env mem bnd L (planHead g ops H true plan k)) : Nx g env mem bnd L (RunC g (.code (.region i ops true) :: k)) := by
  intro β a w hr
  have hr' : Rel g β env mem bnd L a { w with drawn := w.drawn + 1 } := hr.world rfl rfl rfl rfl
  refine Ret.code (wp_region_any hm (wpX_any _ _ _ _ (S := heldW H) (late := isLate plan) ?_))
  rw [← hlen]
  exact plan_sound hsel (fun c a w h => h) plan _ a _ (by rw [hlen]; exact hok) (h β a _ hr' (hr'.held hP hB hM hL hps))

/-- Behind one that acts: what is held is so still. -/
theorem Nx.keep {Rs : Res} {Ps : List SP} (hP : pinS H.bnd H.mem = some Ps) (hB : subB H.bnd bnd) (hM : subM H.mem mem) (hL : subR Rs L) (hps : Rs.map (·.2) = H.ps)
    (h : Nx g env mem bnd L (planHead g ops H true plan k)) : Nx g env mem bnd L (AftC g ops H true plan k) := by
  intro β a w hr
  have hw := hr.held hP hB hM hL hps
  exact And.intro (fun _ => hw) (h β a w hr hw)
theorem Nx.late (h : Nx g env mem bnd L (planHead g ops H false plan k)) : Nx g env mem bnd L (AftC g ops H false plan k) :=
  fun β a w hr => And.intro (fun h => by cases h) (h β a w hr)
theorem Nx.planEnd (h : Nx g env mem bnd L (RunC g k)) : Nx g env mem bnd L (planHead g ops H false [] k) := h

/-- A look that reckons an address of a slice's element. -/
theorem Nx.hoIdx (nm : Nat) {α : Type} {enc : α → List Value} {l : List α} {o : Oper} {t e : TypeId} {x i : Operand} {A : Option Addr} {n c : Nat} {kk : IntKind} {iv : Int} {S : SP} {L' : Res} {sz j by_ : Nat} {T : World → Prop}
    (ho : o.op = .indexAddr t x i) (hx : ev env x = some (.c (.v (.slice A n c)))) (hi : ev env i = some (.c (.v (.int kk iv)))) (ht : g.P.underlying t = some (.slice e)) (he : elemI g.P e = some (sz, by_)) (hd : dstOk g.n o.dst = true)
    (hp : takeR nm L = some (S, L')) (henc : ∀ x, (enc x).length = sz) (hs : Sees S A n sz (l.flatMap enc)) (hn : n = l.length) (hj : iv = j) (hlt : j < l.length)
    (hk : ∀ b p, SeesAt S b p (enc l[j]) → Nx g (putE o.dst (.c (.v (.pointer (some ⟨b, p, none⟩)))) env) mem bnd L N) : Nx g env mem bnd L (HoC g T o N) := by
  subst hj
  subst hn
  intro β a w hr
  obtain ⟨ei, zz, hei, hz, hzs, hpos, hez, hby⟩ := elemI_ok he
  obtain ⟨r, h, x1, x2, x3, r1, h1', h2', y1, y2, y3, y4, y5, y6⟩ := hr.picked (takeR_pick hp)
  obtain ⟨b, p, hA, cs, tt, fr, hb, hc⟩ := hs.at (PH.dj_mono x3 y1 y2) y5 hlt
  subst hA
  have hsee : SeesAt S b (p + j * sz) (enc l[j]) := by
    intro r2 h2 d2 s2
    obtain ⟨b', p', hA', cs', tt', fr', hb', hc'⟩ := hs.at d2 s2 hlt
    cases hA'
    exact ⟨cs', tt', fr', hb', fun j' hj' => by rw [henc] at hj'; rw [hc' j' hj']; exact flat_at henc l j hlt j' hj'⟩
  refine ⟨.pointer (some ⟨b, p + j * sz, none⟩), fun w' _ => ?_, hk b _ hsee β _ w (hr.put o.dst (.c (.v (.pointer (some ⟨b, p + j * sz, none⟩)))) hd)⟩
  have e1 : a.eval x = .slice (some ⟨b, p, none⟩) l.length c := hr.ev hx
  have e2 : a.eval i = .int kk j := hr.ev hi
  have e3 : (j : Int) < l.length := by omega
  simp [execOp, ho, e1, e2, Instr.indexAt, asIntOf, run_underlying ht, sizeOf, typeInfo, hei, hez, add_plain']
  intro hbad
  omega

theorem heldW.sees {b p : Nat} {S : SP} {ys : List Value} (hP : ∃ Ps, pinS H.bnd H.mem = some Ps) (hS : S ∈ H.ps) (hs : SeesAt S b p ys) (hw : heldW H w) : ∃ cs' t' fr', w.heap[b]? = some (.cells cs' t' fr') ∧ ∀ j, j < ys.length → cs'[p + j]? = ys[j]? := by
  obtain ⟨Ps, hP⟩ := hP
  have h1 := (hw Ps hP).app_right
  obtain ⟨l1, l2, hl⟩ := List.append_of_mem hS
  rw [hl] at h1
  obtain ⟨r, h, x1, x2, x3, r1, h1', h2', y1, y2, y3, y4, y5, y6⟩ := h1.perm List.perm_middle
  obtain ⟨cs', t', fr', q1, q2⟩ := hs r1 h1' (PH.dj_mono x3 y1 y2) y5
  exact ⟨cs', t', fr', (PH.un_le (PH.le_trans y1 x1) (PH.le_trans y2 x2)) _ _ q1, q2⟩

/-- A load of what is held. -/
theorem Nx.hoLoad {o : Oper} {t : TypeId} {x : Operand} {b p : Nat} {S : SP} {ys : List Value} {cs : List Ce} {Ps : List SP}
    (ho : o.op = .load t x) (hx : ev env x = some (.c (.v (.pointer (some ⟨b, p, none⟩))))) (hd : dstOk g.n o.dst = true) (hP : pinS H.bnd H.mem = some Ps) (hS : S ∈ H.ps) (hs : SeesAt S b p ys)
    (ht : aggOf g.P t = .many ys.length) (hy : valsO ys = some cs) (hk : Nx g (putE o.dst (.agg cs) env) mem bnd L N) : Nx g env mem bnd L (HoC g (heldW H) o N) := by
  intro β a w hr
  rw [valsO_eq] at hy
  cases hy
  refine ⟨(SV.agg (ys.map .v)).den β, fun w' hw' => ?_, hk β _ w (hr.put o.dst (.agg (ys.map .v)) hd)⟩
  obtain ⟨cs', t', fr', q1, q2⟩ := heldW.sees ⟨Ps, hP⟩ hS hs hw'
  obtain ⟨g1, g2⟩ := aggOf_many ht w'
  have hl : (loadCells ⟨b, p, none⟩ ys.length).run g.P w' = .ok ys.toArray w' := run_loadCells_list (P := g.P) w' ⟨b, p, none⟩ ys (fun j v hv => by
    rw [add_plain', cell_of_row w' _ _ _ _ _ q1]
    have hj : j < ys.length := (List.getElem?_eq_some_iff.1 hv).1
    rw [q2 j hj]; exact hv)
  have e1 : a.eval x = .pointer (some ⟨b, p, none⟩) := hr.ev hx
  have e2 : (Ce.den β ∘ Ce.v) = id := rfl
  simp [execOp, ho, e1, Instr.loadAt, Instr.sureAddr, loadVar, g1, g2, hl, SV.den, e2]
theorem Nx.hoLoad1 {o : Oper} {t : TypeId} {x : Operand} {b p : Nat} {S : SP} {y : Value} {Ps : List SP}
    (ho : o.op = .load t x) (hx : ev env x = some (.c (.v (.pointer (some ⟨b, p, none⟩))))) (hd : dstOk g.n o.dst = true) (hP : pinS H.bnd H.mem = some Ps) (hS : S ∈ H.ps) (hs : SeesAt S b p [y])
    (ht : aggOf g.P t = .one) (hk : Nx g (putE o.dst (.c (.v y)) env) mem bnd L N) : Nx g env mem bnd L (HoC g (heldW H) o N) := by
  intro β a w hr
  refine ⟨y, fun w' hw' => ?_, hk β _ w (hr.put o.dst (.c (.v y)) hd)⟩
  obtain ⟨cs', t', fr', q1, q2⟩ := heldW.sees ⟨Ps, hP⟩ hS hs hw'
  have hc : w'.cell? ⟨b, p, none⟩ = some y := by
    rw [cell_of_row w' _ _ _ _ _ q1]
    simpa using q2 0 (by simp)
  have e1 : a.eval x = .pointer (some ⟨b, p, none⟩) := hr.ev hx
  simp [execOp, ho, e1, Instr.loadAt, Instr.sureAddr, loadVar, aggOf_one ht, hc]
/-- A look at whose value a law tells. -/
theorem Nx.hoVal {o : Oper} {x : SV} {T : World → Prop} (hd : dstOk g.n o.dst = true) (h : ∀ β a w, Rel g β env mem bnd L a w → ∀ w', (execOp a.eval o).run g.P w' = .ok (.value (x.den β)) w')
    (hk : Nx g (putE o.dst x env) mem bnd L N) : Nx g env mem bnd L (HoC g T o N) :=
  fun β a w hr => ⟨_, fun w' _ => h β a w hr w', hk β _ w (hr.put o.dst x hd)⟩
theorem Nx.val {o : Oper} {x : SV} (hd : dstOk g.n o.dst = true) (h : ∀ β a w, Rel g β env mem bnd L a w → ∀ w', (execOp a.eval o).run g.P w' = .ok (.value (x.den β)) w')
    (hk : Nx g (putE o.dst x env) mem bnd L N) : Nx g env mem bnd L (OneC g o N Q) :=
  fun β a w hr => wp_value (h β a w hr w) (hk β _ w (hr.put o.dst x hd))

/-- Ways that meet again behind a region. -/
theorem Nx.joinR {E : Env} {M : Mem} {B : Bnd} {R : Res} {c : Code} (h1 : Nx g E M B R (RunC g k) → Nx g env mem bnd L (RunC g (.code c :: k))) (h2 : Nx g E M B R (RunC g k)) : Nx g env mem bnd L (RunC g (.code c :: k)) := h1 h2

theorem subM.refl : ∀ mem : Mem, subM mem mem
  | [] => .nil _
  | (l, t, cs) :: r => .cons (cs' := cs) (by rw [lookM_cons, if_pos rfl]) rfl (by simp [delM]) (subM.refl r)
theorem Rel.heldN {ns : List Nat} {Ps : List SP} {L' : Res} (hr : Rel g β env mem bnd L a w) (hP : pinS H.bnd H.mem = some Ps) (hB : subB H.bnd bnd) (hM : subM H.mem mem) (hp : pick ns L = some (H.ps, L')) : heldW H w := by
  intro Ps' hP'
  rw [hP] at hP'
  cases hP'
  have h1 := (hr.picked hp).swapHead
  have h2 := hM.sat _ w h1
  rw [pinS_eq (fun l b h => hr.bnd l b (hB.look h)) hP, ← List.append_assoc] at h2
  exact h2.app_left
theorem subB.refl : ∀ bnd : Bnd, (∀ l b, (l, b) ∈ bnd → lookB bnd l = some b) → subB bnd bnd := by
  intro bnd h
  have : ∀ r : Bnd, (∀ l b, (l, b) ∈ r → lookB bnd l = some b) → subB r bnd := by
    intro r
    induction r with
    | nil => exact fun _ => .nil _
    | cons x r ih => exact fun h => .cons (h x.1 x.2 (by simp)) (ih fun l b hm => h l b (by simp [hm]))
  exact this bnd h

/-- The beginning of a drawn region: all blocks of the state are held, and the named assertions. -/
theorem Nx.drawn0 {i : Nat} (ns : List Nat) (plan : List PI) {Ps Qs : List SP} {L' : Res} (hm : g.P.follows .mixedOrders = true) (hsel : Region.noSelect ops = true) (hlen : plan.length = ops.size) (hok : planOk ops (isLate plan) (Array.replicate ops.size false) plan = true)
    (hP : pinS bnd mem = some Ps) (hB : subB bnd bnd) (hp : pick ns L = some (Qs, L'))
    (h : Nx g env mem bnd L (planHead g ops ⟨mem, bnd, Qs⟩ true plan k)) : Nx g env mem bnd L (RunC g (.code (.region i ops true) :: k)) := by
  intro β a w hr
  have hr' : Rel g β env mem bnd L a { w with drawn := w.drawn + 1 } := hr.world rfl rfl rfl rfl
  refine Ret.code (wp_region_any hm (wpX_any _ _ _ _ (S := heldW ⟨mem, bnd, Qs⟩) (late := isLate plan) ?_))
  rw [← hlen]
  exact plan_sound hsel (fun c a w h => h) plan _ a _ (by rw [hlen]; exact hok) (h β a _ hr' (hr'.heldN (H := ⟨mem, bnd, Qs⟩) hP hB (subM.refl _) hp))
theorem Nx.keepN {Ps : List SP} {L' : Res} (ns : List Nat) (hP : pinS H.bnd H.mem = some Ps) (hB : subB H.bnd bnd) (hM : subM H.mem mem) (hp : pick ns L = some (H.ps, L'))
    (h : Nx g env mem bnd L (planHead g ops H true plan k)) : Nx g env mem bnd L (AftC g ops H true plan k) := by
  intro β a w hr
  have hw := hr.heldN hP hB hM hp
  exact And.intro (fun _ => hw) (h β a w hr hw)
end
end Go.Proofs.YtkfnbpbhcnekiaaGreatDoor

/- More rules: arrays at an index that isn't written out; structs held against each other; an array value's element. -/
namespace Go.Proofs.YtkfnbpbhcnekiaaGreatDoor
open Go.RowKit

section
variable {g : Cx} {β : Nat → Nat} {env : Env} {mem : Mem} {bnd : Bnd} {L : Res} {a : Act} {w : World} {N : Act → World → Prop} {Q : Exit → Act → World → Prop}

/-- The address of an element of an array of the state's. -/
theorem Nx.arrIdx {o : Oper} {t e : TypeId} {x i : Operand} {l off n sz by_ q b : Nat} {kk : IntKind} {iv : Int} (ho : o.op = .indexAddr t x i) (hx : ev env x = some (.c (.loc l off))) (hb : lookB bnd l = some b) (hi : ev env i = some (.c (.v (.int kk iv)))) (ht : g.P.underlying t = some (.array n e)) (he : elemI g.P e = some (sz, by_)) (hd : dstOk g.n o.dst = true)
    (h0 : 0 ≤ iv) (h1 : iv < n) (hq : off + iv.toNat * sz = q) (hk : Nx g (putE o.dst (.c (.v (.pointer (some ⟨b, q, none⟩)))) env) mem bnd L N) : Nx g env mem bnd L (OneC g o N Q) := by
  intro β a w hr
  obtain ⟨ei, zz, hei, hz, hzs, hpos, hez, hby⟩ := elemI_ok he
  have e1 : a.eval x = .pointer (some ⟨b, off, none⟩) := by rw [hr.ev hx]; simp only [SV.den, Ce.den, hr.bnd l b hb]
  have e2 : a.eval i = .int kk iv := hr.ev hi
  have hrun : (execOp a.eval o).run g.P w = .ok (.value (.pointer (some ⟨b, q, none⟩))) w := by
    subst hq
    simp [execOp, ho, e1, e2, Instr.indexAt, Instr.sureAddr, asIntOf, run_underlying ht, h0, h1, sizeOf, typeInfo, hei, hez, add_plain']
  exact wp_value hrun (hk β _ w (hr.put o.dst (.c (.v (.pointer (some ⟨b, q, none⟩)))) hd))

/-- A load of one cell, at a place that isn't written out. -/
theorem Nx.loadAt (l : Nat) {o : Oper} {t : TypeId} {x : Operand} {q tt b : Nat} {cs : List Ce} {y : Ce} (ho : o.op = .load t x) (hx : ev env x = some (.c (.v (.pointer (some ⟨b, q, none⟩))))) (hb : lookB bnd l = some b) (hl : lookM mem l = some (tt, cs)) (ht : aggOf g.P t = .one) (hd : dstOk g.n o.dst = true)
    (hy : cs[q]? = some y) (hk : Nx g (putE o.dst (.c y) env) mem bnd L N) : Nx g env mem bnd L (OneC g o N Q) := by
  intro β a w hr
  have e1 : a.eval x = .pointer (some ⟨β l, q, none⟩) := by rw [hr.bnd l b hb]; exact hr.ev hx
  have hrun : (execOp a.eval o).run g.P w = .ok (.value ((SV.c y).den β)) w := by
    have := run_load_one hr hl ht (o := q) (y := y) (by rw [getL_eq]; exact hy)
    simp [execOp, ho, e1, Instr.loadAt, Instr.sureAddr, this, SV.den]
  exact wp_value hrun (hk β _ w (hr.put o.dst (.c y) hd))
theorem cutL_all {α : Type} : ∀ cs : List α, cutL cs 0 cs.length = some cs
  | [] => rfl
  | y :: r => by simp only [List.length_cons, cutL, cutL_all r]
/-- A load of a whole block. -/
theorem Nx.loadAll {o : Oper} {t : TypeId} {x : Operand} {l tt n : Nat} {cs : List Ce} (ho : o.op = .load t x) (hx : ev env x = some (.c (.loc l 0))) (hl : lookM mem l = some (tt, cs)) (ht : aggOf g.P t = .many n) (hd : dstOk g.n o.dst = true)
    (hn : cs.length = n) (hk : Nx g (putE o.dst (.agg cs) env) mem bnd L N) : Nx g env mem bnd L (OneC g o N Q) := by
  intro β a w hr
  have e1 : a.eval x = .pointer (some ⟨β l, 0, none⟩) := hr.ev hx
  have hcut : cutL cs 0 n = some cs := by rw [← hn]; exact cutL_all cs
  have hrun : (execOp a.eval o).run g.P w = .ok (.value ((SV.agg cs).den β)) w := by
    have := run_load_many hr hl ht (o := 0) hcut
    simp [execOp, ho, e1, Instr.loadAt, Instr.sureAddr, this, SV.den, cellsOf]
  exact wp_value hrun (hk β _ w (hr.put o.dst (.agg cs) hd))
theorem setsO_one : ∀ (cs : List Ce) (q : Nat) (y : Ce), q < cs.length → fillS.setsO cs q [y] = some (cs.set q y)
  | [], q, y, h => by simp at h
  | x :: r, 0, y, h => by cases r <;> rfl
  | x :: r, q + 1, y, h => by
    have := setsO_one r q y (by simpa using h)
    simp [fillS.setsO, this]
/-- A store of one cell, at a place that isn't written out. -/
theorem Nx.storeAt (l : Nat) {o : Oper} {t : TypeId} {x z : Operand} {q tt b : Nat} {cs : List Ce} {y : Ce} {mem' : Mem} (ho : o.op = .store t x z) (hx : ev env x = some (.c (.v (.pointer (some ⟨b, q, none⟩))))) (hb : lookB bnd l = some b) (hz : ev env z = some (.c y)) (hl : lookM mem l = some (tt, cs)) (ht : (g.P.info? t).map (·.size) = some 1) (hp : y.plain = true) (hd : dstOk g.n o.dst = true)
    (hq : q < cs.length) (hm : setMo mem l (cs.set q y) = some mem') (hk : Nx g (putE o.dst (.c (.v undef)) env) mem' bnd L N) : Nx g env mem bnd L (OneC g o N Q) := by
  intro β a w hr
  rw [setMo_eq] at hm
  cases hm
  cases hi : g.P.info? t with
  | none => rw [hi] at ht; cases ht
  | some i =>
    rw [hi] at ht
    have hsz : i.size = 1 := by simpa using ht
    have hc : cellsS (.c y) = some [y] := by simp [cellsS, hp]
    obtain ⟨w', hrun, hR⟩ := store_ok hr hl (cellsS_den hc β) hi (by simp [hsz]) (by simp; omega) (by simp [allPlain, hp]) (setsO_one cs q y hq)
    have e1 : a.eval x = .pointer (some ⟨β l, q, none⟩) := by rw [hr.bnd l b hb]; exact hr.ev hx
    have e2 := hr.ev hz
    refine wp_skip' (w' := w') ?_ (hk β _ _ (hR.put o.dst (.c (.v undef)) hd))
    simp only [execOp, ho, e1, e2, Sem.run_bind, hrun, Result.andThen_ok, Sem.run_pure]

/-- Two structs held against each other. -/
theorem run_eqS {P : Program} {op : BinOp} {t : TypeId} {xo yo : Operand} {xs ys : Array Value} {b : Bool} (hg : P.eqGuardType P.depth t = false) (he : ∀ w, (Op.equalIn 10000 t (.agg xs) (.agg ys)).run P w = .ok b w) (hop : op = .eql ∨ op = .neq) (w : World) :
    (do pure (Next.value (← (do eqGuard op t xo yo (.agg xs) (.agg ys); binOp op t (.agg xs) (.agg ys)))) : Sem Next).run P w = .ok (.value (.bool (if op = .eql then b else !b))) w := by
  rcases hop with rfl | rfl
  · simp [run_eqGuard_agg w .eql t xo yo xs ys hg, run_eql_struct w t xs ys, he]
  · simp [run_eqGuard_agg w .neq t xo yo xs ys hg, run_neq_struct w t xs ys, he]
theorem eqS_val {o : Oper} {t tt : TypeId} {xo yo : Operand} {xs ys : List Ce} {vx vy : List Value} {b : Bool} {op : BinOp} (ho : o.op = .binOp op t xo yo tt) (hop : op = .eql ∨ op = .neq) (hx : ev env xo = some (.agg xs)) (hy : ev env yo = some (.agg ys)) (hvx : cesV bnd xs = some vx) (hvy : cesV bnd ys = some vy)
    (hg : g.P.eqGuardType g.P.depth t = false) (he : ∀ w, (Op.equalIn 10000 t (.agg vx.toArray) (.agg vy.toArray)).run g.P w = .ok b w) (hr : Rel g β env mem bnd L a w) (w' : World) : (execOp a.eval o).run g.P w' = .ok (.value (.bool (if op = .eql then b else !b))) w' := by
  have e1 : a.eval xo = .agg vx.toArray := by rw [hr.ev hx]; simp only [SV.den, cesV_den hr.bnd hvx]
  have e2 : a.eval yo = .agg vy.toArray := by rw [hr.ev hy]; simp only [SV.den, cesV_den hr.bnd hvy]
  simp only [execOp, ho, e1, e2]
  exact run_eqS hg he hop w'
theorem Nx.eqS {o : Oper} {t tt : TypeId} {xo yo : Operand} {xs ys : List Ce} {vx vy : List Value} {b : Bool} {op : BinOp} (ho : o.op = .binOp op t xo yo tt) (hop : op = .eql ∨ op = .neq) (hx : ev env xo = some (.agg xs)) (hy : ev env yo = some (.agg ys)) (hvx : cesV bnd xs = some vx) (hvy : cesV bnd ys = some vy)
    (hg : g.P.eqGuardType g.P.depth t = false) (he : ∀ w, (Op.equalIn 10000 t (.agg vx.toArray) (.agg vy.toArray)).run g.P w = .ok b w) (hd : dstOk g.n o.dst = true)
    (hk : Nx g (putE o.dst (.c (.v (.bool (if op = .eql then b else !b)))) env) mem bnd L N) : Nx g env mem bnd L (OneC g o N Q) :=
  Nx.val (x := .c (.v (.bool (if op = .eql then b else !b)))) hd (fun _ _ _ hr w' => eqS_val ho hop hx hy hvx hvy hg he hr w') hk
theorem Nx.hoEqS {o : Oper} {t tt : TypeId} {xo yo : Operand} {xs ys : List Ce} {vx vy : List Value} {b : Bool} {op : BinOp} {T : World → Prop} (ho : o.op = .binOp op t xo yo tt) (hop : op = .eql ∨ op = .neq) (hx : ev env xo = some (.agg xs)) (hy : ev env yo = some (.agg ys)) (hvx : cesV bnd xs = some vx) (hvy : cesV bnd ys = some vy)
    (hg : g.P.eqGuardType g.P.depth t = false) (he : ∀ w, (Op.equalIn 10000 t (.agg vx.toArray) (.agg vy.toArray)).run g.P w = .ok b w) (hd : dstOk g.n o.dst = true)
    (hk : Nx g (putE o.dst (.c (.v (.bool (if op = .eql then b else !b)))) env) mem bnd L N) : Nx g env mem bnd L (HoC g T o N) :=
  Nx.hoVal (x := .c (.v (.bool (if op = .eql then b else !b)))) hd (fun _ _ _ hr w' => eqS_val ho hop hx hy hvx hvy hg he hr w') hk

/-- An element of an array value, at an index that is written out. -/
theorem Nx.elem {o : Oper} {t e : TypeId} {x i : Operand} {cs : List Ce} {y : Ce} {n j : Nat} {kk : IntKind} (ho : o.op = .index t x i) (hx : ev env x = some (.agg cs)) (hi : ev env i = some (.c (.v (.int kk j)))) (ht : g.P.underlying t = some (.array n e)) (he : (g.P.info? e).map (·.size) = some 1) (hone : aggOf g.P e = .one) (hd : dstOk g.n o.dst = true)
    (hj : j < n) (hy : cs[j]? = some y) (hk : Nx g (putE o.dst (.c y) env) mem bnd L N) : Nx g env mem bnd L (OneC g o N Q) := by
  refine Nx.val hd (fun β a w hr w' => ?_) hk
  have e1 : a.eval x = .agg (cellsOf β cs) := hr.ev hx
  have e2 : a.eval i = .int kk j := hr.ev hi
  cases hie : g.P.info? e with
  | none => rw [hie] at he; cases he
  | some ie =>
    rw [hie] at he
    have hsz : ie.size = 1 := by simpa using he
    have hp := run_part_one (g := g) (β := β) (w := w') (cs := cs) (o := j) (y := y) hone (by rw [getL_eq]; exact hy)
    have h1 : (j : Int) < n := by omega
    simp [execOp, ho, e1, e2, Instr.index, asIntOf, run_underlying ht, sizeOf, typeInfo, hie, hsz, hp, SV.den]
    omega
end
end Go.Proofs.YtkfnbpbhcnekiaaGreatDoor

/- More rules: slices of slices; maps from integers. -/
namespace Go.Proofs.YtkfnbpbhcnekiaaGreatDoor
open Go.RowKit

section
variable {g : Cx} {β : Nat → Nat} {env : Env} {mem : Mem} {bnd : Bnd} {L : Res} {a : Act} {w : World} {N : Act → World → Prop} {Q : Exit → Act → World → Prop}

/-- Ways that meet again, with what differs among them. -/
theorem Nx.joinX {X : Type} (E : X → Env) (M : X → Mem) (B : Bnd) (R : X → Res) {c : Code} {k : List Item} (h1 : (∀ x, Nx g (E x) (M x) B (R x) (RunC g k)) → Nx g env mem bnd L (RunC g (.code c :: k))) (h2 : ∀ x, Nx g (E x) (M x) B (R x) (RunC g k)) : Nx g env mem bnd L (RunC g (.code c :: k)) := h1 h2

/-! ### x[l:h:m] -/
def evN (env : Env) : Option Operand → Int → Option Int
  | none, d => some d
  | some x, _ => match ev env x with
    | some (.c (.v (.int _ i))) => some i
    | _ => none
def resl (A : Option Addr) (l m sz : Nat) : Option Addr := if m = l then A else A.map (·.add (l * sz))
theorem evN_eval (hr : Rel g β env mem bnd L a w) {x : Operand} {d i : Int} (h : evN env (some x) d = some i) : ∃ k, a.eval x = .int k i := by
  unfold evN at h
  dsimp only at h
  split at h
  · rename_i k j hj
    cases h
    exact ⟨k, hr.ev hj⟩
  · cases h

theorem reslice_run (hr : Rel g β env mem bnd L a w) {o : Oper} {t e : TypeId} {x : Operand} {lo hi mx : Option Operand} {A : Option Addr} {n c sz by_ l h m : Nat}
    (ho : o.op = .slice t x lo hi mx) (hx : ev env x = some (.c (.v (.slice A n c)))) (ht : g.P.underlying t = some (.slice e)) (he : elemI g.P e = some (sz, by_))
    (hlo : evN env lo 0 = some (l : Int)) (hhi : evN env hi n = some (h : Int)) (hmx : evN env mx c = some (m : Int)) (hmh : mx.isSome = true → hi.isSome = true) (h1 : l ≤ h) (h2 : h ≤ m) (h3 : m ≤ c) (w' : World) : (execOp a.eval o).run g.P w' = .ok (.value ((SV.c (.v (.slice (resl A l m sz) (h - l) (m - l)))).den β)) w' := by
  obtain ⟨ei, zz, hei, hz, hzs, hpos, hez, hby⟩ := elemI_ok he
  have e1 : a.eval x = .slice A n c := hr.ev hx
  have hb : ∀ (k : IntKind) (i j : Nat) (code : BoundsCode), i ≤ j → (Instr.sliceBound (.int k i) j code).run g.P w' = .ok i w' := by
    intro k i j code hij
    have : (0 : Int) ≤ i ∧ (i : Int) ≤ j := ⟨by omega, by omega⟩
    simp [Instr.sliceBound, asIntOf, this]
  have hbs : (Instr.sliceBounds true n c (lo.map a.eval) (hi.map a.eval) (mx.map a.eval)).run g.P w' = .ok (l, h, m) w' := by
    have b1 : ∀ (k : IntKind) (code : BoundsCode), (Instr.sliceBound (.int k m) c code).run g.P w' = .ok m w' := fun k code => hb k m c code h3
    have b2 : ∀ (k : IntKind) (code : BoundsCode), (Instr.sliceBound (.int k h) m code).run g.P w' = .ok h w' := fun k code => hb k h m code h2
    have b3 : ∀ (k : IntKind) (code : BoundsCode), (Instr.sliceBound (.int k l) h code).run g.P w' = .ok l w' := fun k code => hb k l h code h1
    cases mx with
    | none =>
      have em : c = m := by
        have : (c : Int) = m := by simpa [evN] using hmx
        omega
      subst em
      cases hi with
      | none =>
        have eh : n = h := by
          have : (n : Int) = h := by simpa [evN] using hhi
          omega
        subst eh
        cases lo with
        | none =>
          have el : 0 = l := by
            have : (0 : Int) = l := by simpa [evN] using hlo
            omega
          subst el
          simp [Instr.sliceBounds]
        | some y =>
          obtain ⟨k, hy⟩ := evN_eval hr hlo
          simp [Instr.sliceBounds, hy, b3]
      | some z =>
        obtain ⟨k2, hz⟩ := evN_eval hr hhi
        cases lo with
        | none =>
          have el : 0 = l := by
            have : (0 : Int) = l := by simpa [evN] using hlo
            omega
          subst el
          simp [Instr.sliceBounds, hz, b2]
        | some y =>
          obtain ⟨k, hy⟩ := evN_eval hr hlo
          simp [Instr.sliceBounds, hy, hz, b2, b3]
    | some q =>
      obtain ⟨k3, hq⟩ := evN_eval hr hmx
      cases hi with
      | none => simp at hmh
      | some z =>
        obtain ⟨k2, hz⟩ := evN_eval hr hhi
        cases lo with
        | none =>
          have el : 0 = l := by
            have : (0 : Int) = l := by simpa [evN] using hlo
            omega
          subst el
          simp [Instr.sliceBounds, hz, hq, b1, b2]
        | some y =>
          obtain ⟨k, hy⟩ := evN_eval hr hlo
          simp [Instr.sliceBounds, hy, hz, hq, b1, b2, b3]
  subst hez
  simp [execOp, ho, e1, Instr.sliceAt, Instr.slice, run_underlying ht, hbs, sizeOf, typeInfo, hei, resl, SV.den, Ce.den]
theorem Nx.reslice {o : Oper} {t e : TypeId} {x : Operand} {lo hi mx : Option Operand} {A : Option Addr} {n c sz by_ l h m : Nat}
    (ho : o.op = .slice t x lo hi mx) (hx : ev env x = some (.c (.v (.slice A n c)))) (ht : g.P.underlying t = some (.slice e)) (he : elemI g.P e = some (sz, by_)) (hd : dstOk g.n o.dst = true)
    (hlo : evN env lo 0 = some (l : Int)) (hhi : evN env hi n = some (h : Int)) (hmx : evN env mx c = some (m : Int)) (hmh : mx.isSome = true → hi.isSome = true) (h1 : l ≤ h) (h2 : h ≤ m) (h3 : m ≤ c)
    (hk : Nx g (putE o.dst (.c (.v (.slice (resl A l m sz) (h - l) (m - l)))) env) mem bnd L N) : Nx g env mem bnd L (OneC g o N Q) :=
  Nx.val hd (fun _ _ _ hr w' => reslice_run hr ho hx ht he hlo hhi hmx hmh h1 h2 h3 w') hk
theorem Nx.hoReslice {o : Oper} {t e : TypeId} {x : Operand} {lo hi mx : Option Operand} {A : Option Addr} {n c sz by_ l h m : Nat} {T : World → Prop}
    (ho : o.op = .slice t x lo hi mx) (hx : ev env x = some (.c (.v (.slice A n c)))) (ht : g.P.underlying t = some (.slice e)) (he : elemI g.P e = some (sz, by_)) (hd : dstOk g.n o.dst = true)
    (hlo : evN env lo 0 = some (l : Int)) (hhi : evN env hi n = some (h : Int)) (hmx : evN env mx c = some (m : Int)) (hmh : mx.isSome = true → hi.isSome = true) (h1 : l ≤ h) (h2 : h ≤ m) (h3 : m ≤ c)
    (hk : Nx g (putE o.dst (.c (.v (.slice (resl A l m sz) (h - l) (m - l)))) env) mem bnd L N) : Nx g env mem bnd L (HoC g T o N) :=
  Nx.hoVal hd (fun _ _ _ hr w' => reslice_run hr ho hx ht he hlo hhi hmx hmh h1 h2 h3 w') hk

/-- What a part of a slice shows. -/
theorem Sees.part {S : SP} {A : Option Addr} {n sz l h m : Nat} {cells : List Value} (hs : Sees S A n sz cells) (h1 : l ≤ h) (h2 : h ≤ n) (h3 : h ≤ m) : Sees S (resl A l m sz) (h - l) sz ((cells.drop (l * sz)).take ((h - l) * sz)) := by
  intro r d hd hS
  obtain ⟨hlen, hrd⟩ := hs r d hd hS
  have hmul : (h - l) * sz = h * sz - l * sz := Nat.sub_mul _ _ _
  have hle : h * sz ≤ n * sz := Nat.mul_le_mul_right _ h2
  have hle1 : l * sz ≤ h * sz := Nat.mul_le_mul_right _ h1
  refine ⟨by rw [List.length_take, List.length_drop, hlen]; omega, fun hpos => ?_⟩
  obtain ⟨b, o, cs, t, fr, rfl, hb, hc⟩ := hrd (by omega)
  refine ⟨b, o + l * sz, cs, t, fr, ?_, hb, fun j hj => ?_⟩
  · unfold resl
    rw [if_neg (by omega)]
    simp [add_plain']
  · rw [List.getElem?_take, if_pos hj, List.getElem?_drop, Nat.add_assoc, ← hc (l * sz + j) (by omega)]
theorem flat_part {α : Type} {enc : α → List Value} {sz : Nat} (he : ∀ x, (enc x).length = sz) : ∀ (l : List α) (k h : Nat), k ≤ h → ((l.flatMap enc).drop (k * sz)).take ((h - k) * sz) = ((l.drop k).take (h - k)).flatMap enc := by
  intro l
  have drop : ∀ (l : List α) (k : Nat), (l.flatMap enc).drop (k * sz) = (l.drop k).flatMap enc := by
    intro l
    induction l with
    | nil => intro k; simp
    | cons x r ih =>
      intro k
      cases k with
      | zero => simp
      | succ k =>
        rw [List.flatMap_cons, List.drop_succ_cons, ← ih k, Nat.succ_mul, Nat.add_comm, ← List.drop_drop, List.drop_left' (he x)]
  have take : ∀ (l : List α) (k : Nat), (l.flatMap enc).take (k * sz) = (l.take k).flatMap enc := by
    intro l
    induction l with
    | nil => intro k; simp
    | cons x r ih =>
      intro k
      cases k with
      | zero => simp
      | succ k =>
        rw [List.flatMap_cons, List.take_succ_cons, List.flatMap_cons, ← ih k, Nat.succ_mul, Nat.add_comm, List.take_append]
        have := he x
        rw [List.take_of_length_le (by omega), this]
        congr 2
        omega
  intro k h _
  rw [drop, take]
/-- .. of a slice of things. -/
theorem Sees.cutOf {α : Type} {enc : α → List Value} {S : SP} {A : Option Addr} {n sz l h m : Nat} {xs : List α} (he : ∀ x, (enc x).length = sz) (hs : Sees S A n sz (xs.flatMap enc)) (h1 : l ≤ h) (h2 : h ≤ n) (h3 : h ≤ m) :
    Sees S (resl A l m sz) (h - l) sz (((xs.drop l).take (h - l)).flatMap enc) := by
  have := hs.part (l := l) (h := h) (m := m) h1 h2 h3
  rwa [flat_part he xs l h h1] at this
end

/-! ### Maps from integers -/
def mget : List (Int × Value) → Int → Option Value
  | [], _ => none
  | (x, v) :: r, k => if k = x then some v else mget r k
def mput : List (Int × Value) → Int → Value → List (Int × Value)
  | [], k, v => [(k, v)]
  | (x, u) :: r, k, v => if k = x then (k, v) :: r else (x, u) :: mput r k v
theorem mget_mput : ∀ (f : List (Int × Value)) (k j : Int) (v : Value), mget (mput f k v) j = if j = k then some v else mget f j
  | [], k, j, v => by simp [mput, mget]
  | (x, u) :: r, k, j, v => by
    unfold mput
    by_cases h : k = x
    · subst h
      simp only [if_true, mget]
      by_cases hj : j = k <;> simp [hj]
    · rw [if_neg h]
      unfold mget
      rw [mget_mput r k j v]
      by_cases hj : j = k
      · subst hj
        simp [h]
      · simp [hj]
abbrev mapIs (kk : IntKind) (es : List MapEntry) (f : List (Int × Value)) : Prop := es.map (fun e => (e.key, e.val)) = f.map fun p => (Value.int kk p.1, p.2)
/-- A map of the call's own. -/
def ownM (kk : IntKind) (b : Nat) (f : List (Int × Value)) : SP := fun _ h => ∃ es clock, h b = some (.map es clock) ∧ mapIs kk es.toList f

theorem findNow_is (kd kk : IntKind) (k : Int) : ∀ (es : List MapEntry) (f : List (Int × Value)) (i : Nat), mapIs kk es f →
    (∃ v j, Instr.findNow (.int kd) (.int kk k) es i = some (some (i + j, v)) ∧ mget f k = some v ∧ (es[j]?.map (·.key)) = some (.int kk k) ∧ ∀ u, mapIs kk (es.modify j fun e => { e with key := .int kk k, val := u }) (mput f k u)) ∨
    (Instr.findNow (.int kd) (.int kk k) es i = some none ∧ mget f k = none ∧ ∀ u born, mapIs kk (es ++ [⟨.int kk k, u, born⟩]) (mput f k u))
  | [], [], i, _ => .inr ⟨rfl, rfl, fun u born => rfl⟩
  | [], _ :: _, i, h => by simp [mapIs] at h
  | _ :: _, [], i, h => by simp [mapIs] at h
  | e :: es, (x, v) :: f, i, h => by
    simp only [mapIs, List.map_cons, List.cons.injEq, Prod.mk.injEq] at h
    obtain ⟨⟨hk, hv⟩, hr⟩ := h
    by_cases hkx : k = x
    · subst hkx
      left
      refine ⟨v, 0, ?_, by simp [mget], by simp [hk], fun u => ?_⟩
      · unfold Instr.findNow
        simp [Instr.sameNow, hk, hv]
      · simp [mapIs, mput, hr]
    · have ih := findNow_is kd kk k es f (i + 1) hr
      have hstep : Instr.findNow (.int kd) (.int kk k) (e :: es) i = Instr.findNow (.int kd) (.int kk k) es (i + 1) := by
        have hf : (k == x) = false := by simp [hkx]
        conv => lhs; unfold Instr.findNow
        simp [Instr.sameNow, hk, hf]
      rcases ih with ⟨v', j, h1, h2, h3, h4⟩ | ⟨h1, h2, h3⟩
      · left
        refine ⟨v', j + 1, by rw [hstep, h1]; simp; omega, by simp [mget, hkx, h2], by simpa using h3, fun u => ?_⟩
        have := h4 u
        simp only [mapIs] at this
        simp [mapIs, mput, hkx, hk, hv, this]
      · right
        refine ⟨by rw [hstep, h1], by simp [mget, hkx, h2], fun u born => ?_⟩
        have := h3 u born
        simp only [mapIs, List.map_append, List.map_cons, List.map_nil] at this
        simp only [mapIs, mput, if_neg hkx, List.cons_append, List.map_cons, List.map_append, List.map_nil, hk, hv, this]

section
variable {g : Cx} {β : Nat → Nat} {env : Env} {mem : Mem} {bnd : Bnd} {L : Res} {a : Act} {w : World} {N : Act → World → Prop} {Q : Exit → Act → World → Prop}

theorem Nx.makeMap (nm : Nat) (kk : IntKind) {o : Oper} {t : TypeId} (ho : o.op = .makeMap t none) (hd : dstOk g.n o.dst = true)
    (hk : ∀ b, Nx g (putE o.dst (.c (.v (.map (some b)))) env) mem bnd ((nm, ownM kk b []) :: L) N) : Nx g env mem bnd L (OneC g o N Q) := by
  intro β a w hr
  have hrun : (execOp a.eval o).run g.P w = .ok (.value (.map (some w.heap.size))) (w.alloc (.map #[] 0)) := by
    simp [execOp, ho, Instr.makeMap]
  have hs : SatW (blk w.heap.size (.map #[] 0) :: (memSP β mem ++ (L.map (·.2) ++ g.F))) (w.alloc (.map #[] 0)) :=
    SatW.fresh hr.sat (fun n x hx => le_hw_alloc w _ n x hx) (by show (w.heap.push _)[w.heap.size]? = _; simp) (by simp)
  have hs2 : SatW (ownM kk w.heap.size [] :: (memSP β mem ++ (L.map (·.2) ++ g.F))) (w.alloc (.map #[] 0)) := hs.imp fun r h hb => ⟨#[], 0, hb, rfl⟩
  have hR : Rel g β env mem bnd ((nm, ownM kk w.heap.size []) :: L) a (w.alloc (.map #[] 0)) := ⟨hr.defers, hr.size, hr.env, hr.bnd, hr.os, hr.tape, hr.output, hs2.perm List.perm_middle.symm⟩
  exact wp_value hrun (hk w.heap.size β _ _ (hR.put o.dst (.c (.v (.map (some w.heap.size)))) hd))
theorem sameBits_int (kk : IntKind) (k : Int) : ∀ n, Instr.sameBits n (.int kk k) (.int kk k) = true := by
  intro n
  cases n <;> simp [Instr.sameBits]

theorem ownM_at {nm : Nat} {L' : Res} {kk : IntKind} {b : Nat} {f : List (Int × Value)} (hr : Rel g β env mem bnd L a w) (hp : takeR nm L = some (ownM kk b f, L')) : ∃ es clock, w.heap[b]? = some (.map es clock) ∧ mapIs kk es.toList f := by
  obtain ⟨r, h, x1, x2, x3, r1, h1', h2', y1, y2, y3, y4, y5, y6⟩ := hr.picked (takeR_pick hp)
  obtain ⟨es, clock, hb, hm⟩ := y5
  exact ⟨es, clock, (PH.le_trans y2 x2) _ _ hb, hm⟩

theorem Nx.lookup (nm : Nat) {o : Oper} {t kt e : TypeId} {x i : Operand} {b : Nat} {kk : IntKind} {k : Int} {f : List (Int × Value)} {L' : Res} {z v : Value}
    (ho : o.op = .lookup t x i false) (hx : ev env x = some (.c (.v (.map (some b))))) (hi : ev env i = some (.c (.v (.int kk k)))) (ht : g.P.underlying t = some (.map kt e)) (hkt : g.P.underlying kt = some (.int kk))
    (hz : (g.P.info? e).bind (·.zero) = some z) (hd : dstOk g.n o.dst = true) (hp : takeR nm L = some (ownM kk b f, L')) (hv : (mget f k).getD z = v)
    (hk : Nx g (putE o.dst (.c (.v v)) env) mem bnd L N) : Nx g env mem bnd L (OneC g o N Q) := by
  intro β a w hr
  obtain ⟨es, clock, hb, hm⟩ := ownM_at hr hp
  have e1 : a.eval x = .map (some b) := hr.ev hx
  have e2 : a.eval i = .int kk k := hr.ev hi
  obtain ⟨ie, hie, hze⟩ := Option.bind_eq_some_iff.1 hz
  have hrun : (execOp a.eval o).run g.P w = .ok (.value v) w := by
    have hck : (Instr.checkKey es.isEmpty 10000 kt (.int kk k)).run g.P w = .ok () w := MapKept.run_checkKey hkt (show MapKept.IsKey (.int kk) (.int kk k) from rfl) _ 9999
    rcases findNow_is kk kk k es.toList f 0 hm with ⟨u, j, h1, h2, _, _⟩ | ⟨h1, h2, _⟩
    · have : v = u := by rw [← hv, h2]; rfl
      subst this
      simp [execOp, ho, e1, e2, Instr.lookup, run_underlying ht, MapKept.run_getObj_map hb, hck, Instr.findKey, run_underlying hkt, h1]
    · have : v = z := by rw [← hv, h2]; rfl
      subst this
      simp [execOp, ho, e1, e2, Instr.lookup, run_underlying ht, MapKept.run_getObj_map hb, hck, Instr.findKey, run_underlying hkt, h1, zeroValue, typeInfo, hie, hze]
  exact wp_value hrun (hk β _ w (hr.put o.dst (.c (.v v)) hd))

theorem Nx.mapPut (nm : Nat) {o : Oper} {t kt e : TypeId} {x i y : Operand} {b : Nat} {kk : IntKind} {k : Int} {f : List (Int × Value)} {L' : Res} {u : Value}
    (ho : o.op = .mapUpdate t x i y) (hx : ev env x = some (.c (.v (.map (some b))))) (hi : ev env i = some (.c (.v (.int kk k)))) (hy : ev env y = some (.c (.v u))) (ht : g.P.underlying t = some (.map kt e)) (hkt : g.P.underlying kt = some (.int kk))
    (hd : dstOk g.n o.dst = true) (hp : takeR nm L = some (ownM kk b f, L'))
    (hk : Nx g (putE o.dst (.c (.v undef)) env) mem bnd ((nm, ownM kk b (mput f k u)) :: L') N) : Nx g env mem bnd L (OneC g o N Q) := by
  intro β a w hr
  have hpick := hr.picked (takeR_pick hp)
  have hpick2 := hpick
  obtain ⟨r, h, x1, x2, x3, r1, h1', h2', y1, y2, y3, y4, y5, y6⟩ := hpick
  obtain ⟨es, clock, hb1, hm⟩ := y5
  have hb : w.heap[b]? = some (.map es clock) := (PH.le_trans y2 x2) _ _ hb1
  have hblk : SatW (blk b (.map es clock) :: (memSP β mem ++ (L'.map (·.2) ++ g.F))) w := ⟨r, h, x1, x2, x3, r1, h1', h2', y1, y2, y3, y4, hb1, y6⟩
  have e1 : a.eval x = .map (some b) := hr.ev hx
  have e2 : a.eval i = .int kk k := hr.ev hi
  have e3 : a.eval y = u := hr.ev hy
  have hck : (Instr.checkKey false 10000 kt (.int kk k)).run g.P w = .ok () w := MapKept.run_checkKey hkt (show MapKept.IsKey (.int kk) (.int kk k) from rfl) _ 9999
  have key : ∃ es' clock', (Instr.mapUpdate t (.map (some b)) (.int kk k) u).run g.P w = .ok () { w with heap := w.heap.setIfInBounds b (.map es' clock') } ∧ mapIs kk es'.toList (mput f k u) := by
    rcases findNow_is kk kk k es.toList f 0 hm with ⟨v, j, h1, h2, h3, h4⟩ | ⟨h1, h2, h3⟩
    · refine ⟨es.modify j fun e => { e with key := .int kk k, val := u }, clock, ?_, by rw [Array.toList_modify]; exact h4 u⟩
      have hold : ((es[j]?.map (·.key)).getD (.int kk k)) = .int kk k := by
        have : es[j]? = es.toList[j]? := by simp
        rw [this, h3]
        rfl
      simp [Instr.mapUpdate, run_underlying ht, MapKept.run_getObj_map hb, hck, Instr.findKey, run_underlying hkt, h1, hold, Instr.keyThatStays, sameBits_int, MapKept.run_setObj_map _ hb]
    · refine ⟨es.push ⟨.int kk k, u, clock⟩, clock + 1, ?_, by rw [Array.toList_push]; exact h3 u clock⟩
      simp [Instr.mapUpdate, run_underlying ht, MapKept.run_getObj_map hb, hck, Instr.findKey, run_underlying hkt, h1, MapKept.run_setObj_map _ hb]
  obtain ⟨es', clock', hrun, hm'⟩ := key
  have hlt : b < w.heap.size := (Array.getElem?_eq_some_iff.1 hb).1
  have h4 : SatW (blk b (.map es' clock') :: (memSP β mem ++ (L'.map (·.2) ++ g.F))) { w with heap := w.heap.setIfInBounds b (.map es' clock') } :=
    SatW.move hblk (fun n x hn hx => by
      show (w.heap.setIfInBounds b _)[n]? = _
      rw [Array.getElem?_setIfInBounds_ne (fun e => hn e.symm)]; exact hx) (by show (w.heap.setIfInBounds b _)[b]? = _; rw [Array.getElem?_setIfInBounds_self_of_lt hlt]) (.inl rfl)
  have h5 : SatW ([ownM kk b (mput f k u)] ++ (memSP β mem ++ (L'.map (·.2) ++ g.F))) { w with heap := w.heap.setIfInBounds b (.map es' clock') } := h4.imp fun r h hs => ⟨es', clock', hs, hm'⟩
  refine wp_skip' (w' := { w with heap := w.heap.setIfInBounds b (.map es' clock') }) ?_ (hk β _ _ ((hr.unpicked (ns := [nm]) (Ps := [_]) h5 rfl rfl rfl).put o.dst (.c (.v undef)) hd))
  simp only [execOp, ho, e1, e2, e3, Sem.run_bind, hrun, Result.andThen_ok, Sem.run_pure]
end
end Go.Proofs.YtkfnbpbhcnekiaaGreatDoor
