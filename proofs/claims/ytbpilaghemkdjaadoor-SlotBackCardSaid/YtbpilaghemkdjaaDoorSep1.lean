/- A heap logic over the model's worlds: lists of parts that hold apart from each other; frames by lists. No program in sight. -/
import Derived.WalkKit
import Derived.Deep.Quiet
namespace Go.Sep
open Go

/-- A part of a heap: which object a block holds, where it is known. -/
abbrev PH := Nat → Option Obj
/-- What is said of a part of a heap. -/
abbrev HP := PH → Prop

def sub (h g : PH) : Prop := ∀ b o, h b = some o → g b = some o
def disj (h g : PH) : Prop := ∀ b, h b = none ∨ g b = none
def union (h g : PH) : PH := fun b => match h b with | some o => some o | none => g b

theorem sub_refl (h : PH) : sub h h := fun _ _ x => x
theorem sub_trans {a b c : PH} (h : sub a b) (k : sub b c) : sub a c := fun x o e => k x o (h x o e)
theorem disj_symm {a b : PH} (h : disj a b) : disj b a := fun x => (h x).symm
theorem disj_sub {a b a' : PH} (h : disj a b) (k : sub a' a) : disj a' b := fun x => by
  rcases h x with e | e
  · left
    cases q : a' x with
    | none => rfl
    | some o => have := k x o q; rw [e] at this; cases this
  · exact .inr e
theorem disj_sub2 {a b b' : PH} (h : disj a b) (k : sub b' b) : disj a b' := disj_symm (disj_sub (disj_symm h) k)
theorem union_sub {a b c : PH} (h : sub a c) (k : sub b c) : sub (union a b) c := fun x o e => by
  unfold union at e
  cases q : a x with
  | none => rw [q] at e; exact k x o e
  | some o' => rw [q] at e; cases e; exact h x o q
theorem sub_union_left (a b : PH) : sub a (union a b) := fun x o e => by simp [union, e]
theorem sub_union_right {a b : PH} (h : disj a b) : sub b (union a b) := fun x o e => by
  rcases h x with q | q
  · simp [union, q, e]
  · rw [q] at e; cases e
theorem disj_union {a b c : PH} (h : disj a c) (k : disj b c) : disj (union a b) c := fun x => by
  rcases h x with q | q
  · rcases k x with r | r
    · left; simp [union, q, r]
    · exact .inr r
  · exact .inr q

def Holds : List HP → PH → Prop
  | [], _ => True
  | p :: l, h => ∃ h1 h2, sub h1 h ∧ sub h2 h ∧ disj h1 h2 ∧ p h1 ∧ Holds l h2

theorem Holds.mono {l : List HP} {h g : PH} (k : sub h g) (x : Holds l h) : Holds l g := by
  cases l with
  | nil => trivial
  | cons p l =>
    obtain ⟨h1, h2, a, b, c, d, e⟩ := x
    exact ⟨h1, h2, sub_trans a k, sub_trans b k, c, d, e⟩

theorem Holds.perm {l l' : List HP} (p : l.Perm l') : ∀ {h : PH}, Holds l h → Holds l' h := by
  induction p with
  | nil => exact fun x => x
  | cons x _ ih => exact fun ⟨h1, h2, a, b, c, d, e⟩ => ⟨h1, h2, a, b, c, d, ih e⟩
  | swap x y l =>
    rintro h ⟨h1, h2, a, b, c, d, h3, h4, a', b', c', d', e'⟩
    refine ⟨h3, union h1 h4, sub_trans a' b, union_sub a (sub_trans b' b), ?_, d', h1, h4, sub_union_left _ _, ?_, disj_sub2 c b', d, e'⟩
    · exact disj_symm (disj_union (disj_sub2 c a') (disj_symm c'))
    · exact sub_union_right (disj_sub2 c b')
  | trans _ _ ih1 ih2 => exact fun x => ih2 (ih1 x)

theorem Holds.append {l l' : List HP} : ∀ {h : PH}, Holds (l ++ l') h ↔ ∃ h1 h2, sub h1 h ∧ sub h2 h ∧ disj h1 h2 ∧ Holds l h1 ∧ Holds l' h2 := by
  induction l with
  | nil =>
    intro h
    constructor
    · intro x; exact ⟨fun _ => none, h, fun _ _ e => (by cases e), sub_refl _, fun _ => .inl rfl, trivial, x⟩
    · rintro ⟨_, h2, _, b, _, _, e⟩; exact Holds.mono b e
  | cons p l ih =>
    intro h
    constructor
    · rintro ⟨h1, h2, a, b, c, d, e⟩
      obtain ⟨h3, h4, a', b', c', d', e'⟩ := ih.1 e
      refine ⟨union h1 h3, h4, union_sub a (sub_trans a' b), sub_trans b' b, disj_union (disj_sub2 c b') c', ⟨h1, h3, sub_union_left _ _, sub_union_right (disj_sub2 c a'), disj_sub2 c a', d, d'⟩, e'⟩
    · rintro ⟨h1, h2, a, b, c, ⟨h3, h4, a', b', c', d', e'⟩, e⟩
      refine ⟨h3, union h4 h2, sub_trans a' a, union_sub (sub_trans b' a) b, disj_symm (disj_union (disj_symm c') (disj_symm (disj_sub c a'))), d', ih.2 ⟨h4, h2, sub_union_left _ _, sub_union_right (disj_sub c b'), disj_sub c b', e', e⟩⟩

/-- Several parts as one. -/
def star (l : List HP) : HP := Holds l
/-- Block b holds the object o. -/
def pt (b : Nat) (o : Obj) : HP := fun h => h b = some o
/-- What there is one of. -/
def ex {α : Type} (p : α → HP) : HP := fun h => ∃ x, p x h
/-- A plain fact. -/
def pure (p : Prop) : HP := fun _ => p

theorem Holds.star {l l' : List HP} {h : PH} : Holds (star l :: l') h ↔ Holds (l ++ l') h := Holds.append.symm
theorem Holds.ex {α : Type} {p : α → HP} {l : List HP} {h : PH} : Holds (ex p :: l) h ↔ ∃ x, Holds (p x :: l) h :=
  ⟨fun ⟨h1, h2, a, b, c, ⟨x, d⟩, e⟩ => ⟨x, h1, h2, a, b, c, d, e⟩, fun ⟨x, h1, h2, a, b, c, d, e⟩ => ⟨h1, h2, a, b, c, ⟨x, d⟩, e⟩⟩
theorem Holds.pure {p : Prop} {l : List HP} {h : PH} : Holds (Sep.pure p :: l) h ↔ p ∧ Holds l h :=
  ⟨fun ⟨_, _, _, b, _, d, e⟩ => ⟨d, Holds.mono b e⟩, fun ⟨d, e⟩ => ⟨fun _ => none, h, fun _ _ e => (by cases e), sub_refl _, fun _ => .inl rfl, d, e⟩⟩
theorem Holds.imp {p q : HP} {l : List HP} (k : ∀ h, p h → q h) {h : PH} : Holds (p :: l) h → Holds (q :: l) h :=
  fun ⟨h1, h2, a, b, c, d, e⟩ => ⟨h1, h2, a, b, c, k _ d, e⟩
theorem Holds.drop {p : HP} {l : List HP} {h : PH} : Holds (p :: l) h → Holds l h := fun ⟨_, _, _, b, _, _, e⟩ => Holds.mono b e
theorem Holds.tail {p : HP} {l l' : List HP} (k : ∀ h, Holds l h → Holds l' h) {h : PH} : Holds (p :: l) h → Holds (p :: l') h :=
  fun ⟨h1, h2, a, b, c, d, e⟩ => ⟨h1, h2, a, b, c, d, k _ e⟩

/-- A heap with one block's object changed. -/
def upd (h : PH) (b : Nat) (o : Obj) : PH := fun x => if x = b then some o else h x

theorem Holds.get {b : Nat} {o : Obj} {l : List HP} {h : PH} : Holds (pt b o :: l) h → h b = some o := fun ⟨_, _, a, _, _, d, _⟩ => a _ _ d
theorem Holds.ne {b b' : Nat} {o o' : Obj} {l : List HP} {h : PH} : Holds (pt b o :: pt b' o' :: l) h → b ≠ b' := by
  rintro ⟨h1, h2, a, b1, c, d, h3, h4, a', b', c', d', e'⟩ rfl
  have e1 : h1 b = some o := d
  have e2 : h2 b = some o' := a' _ _ d'
  rcases c b with q | q
  · rw [e1] at q; cases q
  · rw [e2] at q; cases q
theorem Holds.set {b : Nat} {o o' : Obj} {l : List HP} {h : PH} : Holds (pt b o :: l) h → Holds (pt b o' :: l) (upd h b o') := by
  rintro ⟨h1, h2, a, b1, c, d, e⟩
  refine ⟨fun x => if x = b then some o' else none, h2, fun x y q => ?_, fun x y q => ?_, fun x => ?_, ?_, e⟩
  · by_cases hx : x = b
    · simp [hx] at q; simp [upd, hx, q]
    · simp [hx] at q
  · by_cases hx : x = b
    · subst hx
      rcases c x with r | r
      · have : h1 x = some o := d
        rw [r] at this; cases this
      · rw [r] at q; cases q
    · simp [upd, hx]; exact b1 _ _ q
  · by_cases hx : x = b
    · subst hx
      right
      rcases c x with r | r
      · have : h1 x = some o := d
        rw [r] at this; cases this
      · exact r
    · left; simp [hx]
  · simp [pt]
theorem Holds.new {b : Nat} {o : Obj} {l : List HP} {h : PH} (hb : h b = none) : Holds l h → Holds (pt b o :: l) (upd h b o) := by
  intro e
  refine ⟨fun x => if x = b then some o else none, h, fun x y q => ?_, fun x y q => ?_, fun x => ?_, ?_, e⟩
  · by_cases hx : x = b
    · simp [hx] at q; simp [upd, hx, q]
    · simp [hx] at q
  · by_cases hx : x = b
    · subst hx; rw [hb] at q; cases q
    · simp [upd, hx, q]
  · by_cases hx : x = b
    · subst hx; exact .inr hb
    · left; simp [hx]
  · simp [pt]

/-! ### Worlds -/

/-- What of a world stays as it is but for the heap, and the count of draws. -/
structure Sig where
  os : Os
  tape : Nat → Question → Nat
  output : Array (Nat × ByteArray)

def sigOf (w : World) : Sig := ⟨w.os, w.tape, w.output⟩
def heapOf (w : World) : PH := fun b => w.heap[b]?

/-- The world w is of the signature, and its heap has the parts. -/
def Sat (σ : Sig) (w : World) (l : List HP) : Prop := sigOf w = σ ∧ Holds l (heapOf w)

section
variable {σ : Sig} {w : World} {l l' : List HP}

theorem Sat.perm (p : l.Perm l') (h : Sat σ w l) : Sat σ w l' := ⟨h.1, h.2.perm p⟩
theorem Sat.star {l1 : List HP} : Sat σ w (Sep.star l1 :: l) ↔ Sat σ w (l1 ++ l) := and_congr_right fun _ => Holds.star
theorem Sat.ex {α : Type} {p : α → HP} : Sat σ w (Sep.ex p :: l) ↔ ∃ x, Sat σ w (p x :: l) :=
  ⟨fun ⟨a, b⟩ => let ⟨x, h⟩ := Holds.ex.1 b; ⟨x, a, h⟩, fun ⟨x, a, b⟩ => ⟨a, Holds.ex.2 ⟨x, b⟩⟩⟩
theorem Sat.pure {p : Prop} : Sat σ w (Sep.pure p :: l) ↔ p ∧ Sat σ w l :=
  ⟨fun ⟨a, b⟩ => let ⟨x, h⟩ := Holds.pure.1 b; ⟨x, a, h⟩, fun ⟨x, a, b⟩ => ⟨a, Holds.pure.2 ⟨x, b⟩⟩⟩
theorem Sat.drop {p : HP} (h : Sat σ w (p :: l)) : Sat σ w l := ⟨h.1, h.2.drop⟩
theorem Sat.imp {p q : HP} (k : ∀ h, p h → q h) (h : Sat σ w (p :: l)) : Sat σ w (q :: l) := ⟨h.1, h.2.imp k⟩
theorem Sat.get {b : Nat} {o : Obj} (h : Sat σ w (pt b o :: l)) : w.heap[b]? = some o := h.2.get
theorem Sat.drew (h : Sat σ w l) : Sat σ { w with drawn := w.drawn + 1 } l := h
theorem Sat.drawn (h : Sat σ w l) (n : Nat) : Sat σ { w with drawn := n } l := h

theorem heapOf_set (w : World) (b : Nat) (o o' : Obj) (h : w.heap[b]? = some o') : heapOf { w with heap := w.heap.setIfInBounds b o } = upd (heapOf w) b o := by
  funext x
  have hb : b < w.heap.size := by
    rcases Nat.lt_or_ge b w.heap.size with q | q
    · exact q
    · rw [Array.getElem?_eq_none q] at h; cases h
  simp only [heapOf, upd, Array.getElem?_setIfInBounds]
  by_cases e : x = b
  · subst e; simp [hb]
  · have e' : b ≠ x := fun q => e q.symm
    simp [e, e']

theorem heapOf_push (w : World) (o : Obj) : heapOf { w with heap := w.heap.push o } = upd (heapOf w) w.heap.size o := by
  funext x
  simp only [heapOf, upd, Array.getElem?_push]

theorem Sat.set {b : Nat} {o o' : Obj} (h : Sat σ w (pt b o :: l)) : Sat σ { w with heap := w.heap.setIfInBounds b o' } (pt b o' :: l) :=
  ⟨h.1, by rw [heapOf_set _ _ _ _ h.get]; exact h.2.set⟩
theorem Sat.new {o : Obj} (h : Sat σ w l) : Sat σ { w with heap := w.heap.push o } (pt w.heap.size o :: l) :=
  ⟨h.1, by rw [heapOf_push]; exact h.2.new (by simp [heapOf])⟩

theorem modify_eq_set (w : World) (b : Nat) (f : Obj → Obj) (o : Obj) (h : w.heap[b]? = some o) : w.heap.modify b f = w.heap.setIfInBounds b (f o) := by
  apply Array.ext_getElem?
  intro i
  rw [Array.getElem?_modify, Array.getElem?_setIfInBounds]
  by_cases e : b = i
  · subst e
    have hb : b < w.heap.size := by
      rcases Nat.lt_or_ge b w.heap.size with q | q
      · exact q
      · rw [Array.getElem?_eq_none q] at h; cases h
    simp [hb]
    have : w.heap[b] = o := by
      have := Array.getElem?_eq_getElem hb
      rw [h] at this; exact (Option.some.inj this).symm
    rw [this]
  · simp [e]

end

/-- A row of cells, none of which is frozen. -/
def arr (b : Nat) (T : TypeId) (vs : List Value) : HP := fun h => ∃ lo hi, h b = some (.cells vs.toArray T (lo, hi)) ∧ (lo = hi ∨ vs.length ≤ lo)

theorem arr_pt {b : Nat} {T : TypeId} {vs : List Value} {l : List HP} {h : PH} : Holds (arr b T vs :: l) h ↔ ∃ lo hi, (lo = hi ∨ vs.length ≤ lo) ∧ Holds (pt b (.cells vs.toArray T (lo, hi)) :: l) h :=
  ⟨fun ⟨h1, h2, a, b, c, ⟨lo, hi, d, f⟩, e⟩ => ⟨lo, hi, f, h1, h2, a, b, c, d, e⟩, fun ⟨lo, hi, f, h1, h2, a, b, c, d, e⟩ => ⟨h1, h2, a, b, c, ⟨lo, hi, d, f⟩, e⟩⟩

section
variable {σ : Sig} {w : World} {l : List HP} {b : Nat} {T : TypeId} {vs : List Value}
theorem Sat.arr : Sat σ w (arr b T vs :: l) ↔ ∃ lo hi, (lo = hi ∨ vs.length ≤ lo) ∧ Sat σ w (pt b (.cells vs.toArray T (lo, hi)) :: l) :=
  ⟨fun ⟨a, h⟩ => let ⟨lo, hi, f, h⟩ := arr_pt.1 h; ⟨lo, hi, f, a, h⟩, fun ⟨lo, hi, f, a, h⟩ => ⟨a, arr_pt.2 ⟨lo, hi, f, h⟩⟩⟩
theorem Sat.cell (h : Sat σ w (Sep.arr b T vs :: l)) (o : Nat) : w.cell? ⟨b, o, none⟩ = vs[o]? := by
  obtain ⟨lo, hi, _, h⟩ := Sat.arr.1 h
  have := Sat.get h
  simp [World.cell?, this]
theorem Sat.shape (h : Sat σ w (Sep.arr b T vs :: l)) : w.shape? b = some (T, vs.length) := by
  obtain ⟨lo, hi, _, h⟩ := Sat.arr.1 h
  have := Sat.get h
  simp [World.shape?, this]
theorem Sat.unfrozen (h : Sat σ w (Sep.arr b T vs :: l)) {o : Nat} (ho : o < vs.length) (s : Option Nat) : w.frozen? ⟨b, o, s⟩ = false := by
  obtain ⟨lo, hi, f, h⟩ := Sat.arr.1 h
  have := Sat.get h
  simp [World.frozen?, this]
  omega
theorem Sat.setCell (h : Sat σ w (Sep.arr b T vs :: l)) (o : Nat) (v : Value) : Sat σ (w.setCell ⟨b, o, none⟩ v) (Sep.arr b T (vs.set o v) :: l) := by
  obtain ⟨lo, hi, f, h⟩ := Sat.arr.1 h
  have hb := Sat.get h
  have e : w.setCell ⟨b, o, none⟩ v = { w with heap := w.heap.setIfInBounds b (.cells (vs.set o v).toArray T (lo, hi)) } := by
    simp only [World.setCell]
    rw [modify_eq_set _ _ _ _ hb]
    simp
  rw [e]; exact Sat.arr.2 ⟨lo, hi, by simpa using f, Sat.set h⟩
theorem Sat.newRow (h : Sat σ w l) (T : TypeId) (c : Array Value) : Sat σ { w with heap := w.heap.push (.cells c T) } (Sep.arr w.heap.size T c.toList :: l) :=
  Sat.arr.2 ⟨0, 0, .inl rfl, by simpa using Sat.new (o := .cells c T) h⟩
end

/-! ### Where a part stands in a list -/

/-- p is one of l, the rest is r. -/
def Pick (p : HP) (l r : List HP) : Prop := l.Perm (p :: r)
theorem Pick.here {p : HP} {l : List HP} : Pick p (p :: l) l := List.Perm.refl _
theorem Pick.there {p q : HP} {l r : List HP} (h : Pick p l r) : Pick p (q :: l) (q :: r) := (List.Perm.cons q h).trans (List.Perm.swap _ _ _)
/-- all of p are of l, the rest is r. -/
def Take (p l r : List HP) : Prop := l.Perm (p ++ r)
theorem Take.nil {l : List HP} : Take [] l l := List.Perm.refl _
theorem Take.cons {p : HP} {ps l r s : List HP} (h : Pick p l r) (k : Take ps r s) : Take (p :: ps) l s := h.trans (List.Perm.cons p k)

#print axioms Holds.perm
#print axioms Sat.setCell
end Go.Sep
